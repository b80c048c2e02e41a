/- Walk of layer 27: the deed of a line. Condition: lines within 10^8 octets. -/
import Derived.Test.YtmcioedmjcbfbaaScr18
namespace Go.Proofs.Ytmcioedmjcbfbaa
open Go.RowKit IH
set_option maxRecDepth 100000
def isAsk (a : UInt8) : Prop := a = 99 ∨ a = 110 ∨ a = 116 ∨ a = 112 ∨ a = 102 ∨ a = 107 ∨ a = 111
theorem asksK_all (k : Int) : ∀ a ∈ asksK k, isAsk a := by
  unfold asksK isAsk
  intro a ha
  split at ha
  · simp at ha; rcases ha with rfl | rfl <;> simp
  split at ha
  · simp at ha; subst ha; simp
  split at ha
  · simp at ha; rcases ha with rfl | rfl <;> simp
  split at ha
  · simp at ha; subst ha; simp
  split at ha
  · simp at ha; subst ha; simp
  split at ha
  · simp at ha; rcases ha with rfl | rfl | rfl | rfl <;> simp
  · simp at ha
theorem asksK_len (k : Int) : (asksK k).length ≤ 4 := by
  unfold asksK
  split; · simp
  split; · simp
  split; · simp
  split; · simp
  split; · simp
  split <;> simp
theorem ask_pair {a : UInt8} (h : isAsk a) : (a = 99 ∧ (a.toNat : Int) = 99) ∨ (a = 110 ∧ (a.toNat : Int) = 110) ∨ (a = 116 ∧ (a.toNat : Int) = 116) ∨ (a = 112 ∧ (a.toNat : Int) = 112) ∨ (a = 102 ∧ (a.toNat : Int) = 102) ∨ (a = 107 ∧ (a.toNat : Int) = 107) ∨ (a = 111 ∧ (a.toNat : Int) = 111) := by
  rcases h with rfl | rfl | rfl | rfl | rfl | rfl | rfl <;> simp
/-- How far a line is read: what is to come says what all says. -/
def atAsk (U : Option Deed) (L : List UInt8) (k : Nat) (b : Bool) (r : List UInt8) (w : World) (g : Nat) : Prop :=
  (b = false ∧ U = none) ∨ ∃ d, b = true ∧ d.calls = [] ∧ r.length ≤ 100000000 ∧ asksD (L.drop k) d r = U ∧ DeedAt w g 98 g d
def atCall (U : Option Deed) (M : Nat) (b : Bool) (r : List UInt8) (w : World) (g : Nat) : Prop :=
  (b = false ∧ U = none) ∨ ∃ d, b = true ∧ d.calls.length + r.length ≤ M ∧ callsD (r.length + 1) d r = U ∧ DeedAt w g 98 g d
def mOf : Value → Value → Nat
  | .bool true, .string r => r.size + 1
  | _, _ => 0
theorem ask_calls102 {d : Deed} {r : List UInt8} {x : Deed × List UInt8} (h : askD 102 d r = some x) : x.1.calls.length = d.calls.length + 1 := by
  rw [ask102] at h
  obtain ⟨y, _, rfl⟩ := Option.map_eq_some_iff.1 h
  simp
theorem ask_calls {c : UInt8} (hc : c ≠ 102) {d : Deed} {r : List UInt8} {x : Deed × List UInt8} (h : askD c d r = some x) (hca : isAsk c) : x.1.calls = d.calls := by
  unfold askD at h
  split at h
  · obtain ⟨y, _, rfl⟩ := Option.map_eq_some_iff.1 h; rfl
  · split at h
    · obtain ⟨y, _, rfl⟩ := Option.map_eq_some_iff.1 h; rfl
    · obtain ⟨y, _, rfl⟩ := Option.map_eq_some_iff.1 h
      unfold putD
      split; · rfl
      split; · rfl
      split; · rfl
      split; · rfl
      rename_i h1 h2 h3 h4 h5 h6
      exfalso
      rcases hca with h | h | h | h | h | h | h <;> contradiction
def zero8 : List Value := cells8 (Deed.of 0) (.slice none 0 0) (.slice none 0 0) (.slice none 0 0)
theorem zero_one : ∀ u ∈ zero8, u.oneCell' = true := (Own3.of default 0 0).one
/-- What 'parse' answers. -/
def lineV (U : Option Deed) (B : Nat) (e : Ending) (w : World) : Prop :=
  ∃ vB vC vK, e = .returned (.tuple #[.agg (cells8 (U.getD (Deed.of 0)) vB vC vK).toArray, .int .i64 (if U.isSome then 0 else 10)]) ∧ Own3 w B (U.getD (Deed.of 0)) vB vC vK
set_option maxHeartbeats 16000000 in
theorem sparse_any (s : ByteArray) (hs : s.size ≤ 100000000) (w : World) :
    Calls Try.prog 37 #[.string s] w fun e w' => lineV (lineD s.data.toList) w.heap.size e w' ∧ Below w.heap.size w w' := by
  obtain ⟨U, hU⟩ : ∃ U, lineD s.data.toList = U := ⟨_, rfl⟩
  obtain ⟨n, hn, hw1, hw2, hI⟩ := word_at s.data.toList
  have hsl : s.data.toList.length = s.size := data_len s
  have hX : (s.extract 0 n).data.toList = s.data.toList.take n := take_data s n (by omega)
  have NA := Lib.hid (fun w => named_any (s.extract 0 n) w)
  rw [hX] at NA
  obtain ⟨R, hR⟩ : ∃ R : ByteArray, s.extract n s.size = R := ⟨_, rfl⟩
  have hRl : R.data.toList = s.data.toList.drop n := by rw [← hR, drop_data]
  have hRs : R.size ≤ s.size := by rw [← data_len R, hRl, List.length_drop]; omega
  obtain ⟨f, hf⟩ : ∃ f, (namedR (s.data.toList.take n)).1 = f := ⟨_, rfl⟩
  obtain ⟨b0, hb0⟩ : ∃ b0, (namedR (s.data.toList.take n)).2 = b0 := ⟨_, rfl⟩
  have hst : (∀ a ∈ f.2.2, isAsk a) ∧ f.2.2.length ≤ 4 ∧ ((b0 = false ∧ U = none) ∨ (b0 = true ∧ asksD f.2.2 (Deed.of f.2.1) R.data.toList = U)) := by
    rw [← hf, ← hb0, ← hU, namedR_kind]
    unfold lineD
    rw [hw1, hw2, hRl]
    cases kindOf (s.data.toList.take n) with
    | none => exact ⟨by simp, by simp, .inl ⟨rfl, rfl⟩⟩
    | some k => exact ⟨asksK_all k, asksK_len k, .inr ⟨rfl, asks_line k _⟩⟩
  obtain ⟨hL, hL4, hst⟩ := hst
  have IX := Lib.hid (fun w => SIndexByte_any s w)
  rw [hf, hb0] at NA
  rw [hU]
  obtain ⟨J, hJ⟩ : ∃ J, Lib.indexByte s.data.toList 32 = J := ⟨_, rfl⟩
  rw [hJ] at IX hI
  rw [hsl] at hn hI
  have hfc : frmCells f = [.string ⟨f.1.toArray⟩, .int .i64 f.2.1, .string ⟨f.2.2.toArray⟩] := rfl
  rw [hfc] at NA
  obtain ⟨L, hLL⟩ : ∃ L, f.2.2 = L := ⟨_, rfl⟩
  rw [hLL] at hL hL4 hst NA
  obtain ⟨Y, hY⟩ : ∃ Y : ByteArray, (⟨L.toArray⟩ : ByteArray) = Y := ⟨_, rfl⟩
  have hYl : Y.data.toList = L := by rw [← hY]
  have hYs : Y.size = L.length := by rw [← data_len, hYl]
  rw [hY] at NA
  obtain ⟨kd, hkd⟩ : ∃ kd, f.2.1 = kd := ⟨_, rfl⟩
  rw [hkd] at NA hst
  obtain ⟨X, hXX⟩ : ∃ X : ByteArray, (⟨f.1.toArray⟩ : ByteArray) = X := ⟨_, rfl⟩
  rw [hXX] at NA
  have HL := Lib.hid hL
  have HYl := Lib.hid hYl
  have HYs := Lib.hid hYs
  have Hst := Lib.hid hst
  have HR := Lib.hid hR
  obtain ⟨w1, hw⟩ : ∃ w1, w.alloc (.cells zero8.toArray 53) = w1 := ⟨_, rfl⟩
  have hz1 : w1.heap.size = w.heap.size + 1 := by rw [← hw]; simp
  have B1 : Hid (Below w.heap.size w w1) := Lib.hid (by rw [← hw]; exact (Below.refl _ _).alloc (Nat.le_refl _) _)
  have Z1 : Hid (RowAt w1 w.heap.size 53 zero8) := Lib.hid (by rw [← hw]; exact RowAt.new w 53 zero8)
  obtain ⟨g0, hg0⟩ : ∃ g0, w.heap.size = g0 := ⟨_, rfl⟩
  have NW : Hid (zero8.toArray = #[.int .i64 0, .int .i64 0, .int .i64 0, .slice none 0 0, .slice none 0 0, .slice none 0 0, .int .i64 0, .int .i64 0]) := Lib.hid rfl
  rw [NW.out] at hw
  rw [hg0]
  rw [hg0] at hz1 B1 Z1
  clear hU hw1 hw2 hsl hX hR hRl hf hb0 hL hst hJ hfc hLL hY hYl hYs hkd hXX NW
  rcases hI with ⟨rfl, rfl⟩ | rfl
  · go_enter Try.func37, Try.ntmps37
    go_wp2_with (first
      | (go_at_call 57; refine (IX.out _).mono ?_; rintro e w' ⟨rfl, rfl⟩)
      | (go_at_call 58; (first | (with_reducible refine (NA.out _).mono ?_) | (rw [ext_all] at NA; (with_reducible refine (NA.out _).mono ?_))); rintro e w2 ⟨rfl, hb2⟩))
    have hb2' : Below w1.heap.size w1 w2 := by first | exact hb2 | (rw [← hw]; exact hb2)
    have hz2 := hb2'.size
    obtain ⟨W4, hW4⟩ : ∃ W4, w2.alloc (.cells #[.string X, .int .i64 kd, .string Y] 94) = W4 := ⟨_, rfl⟩
    have hz4 : W4.heap.size = w2.heap.size + 1 := by rw [← hW4]; simp
    have BW4 : Hid (Below g0 w W4) := Lib.hid (by rw [← hW4]; exact (B1.out.trans (hb2'.mono (by omega))).alloc (by omega) _)
    have RF4 : Hid (RowAt W4 w2.heap.size 94 [.string X, .int .i64 kd, .string Y]) := Lib.hid (by rw [← hW4]; exact RowAt.new w2 _ [.string X, .int .i64 kd, .string Y])
    have RZ4 : Hid (RowAt W4 g0 53 zero8) := Lib.hid (by rw [← hW4]; exact (Z1.out.below hb2' Z1.out.lt).alloc _)
    rw [hW4]
    obtain ⟨gF, hgF⟩ : ∃ gF, w2.heap.size = gF := ⟨_, rfl⟩
    rw [hgF] at hz4 RF4 hz2 ⊢
    have hg0F : g0 < gF := by omega
    have DA : Hid (DeedAt (W4.alloc (.cells #[.int .i64 kd, .int .i64 0, .int .i64 0, .slice none 0 0, .slice none 0 0, .slice none 0 0, .int .i64 0, .int .i64 0] 98)) (gF + 1) 98 (gF + 1) (Deed.of kd)) := Lib.hid (by
      rw [← hz4]
      exact ⟨_, _, _, RowAt.new W4 98 (cells8 (Deed.of kd) (.slice none 0 0) (.slice none 0 0) (.slice none 0 0)), Own3.of _ _ _⟩)
    clear hb2 hb2' hW4 hgF hw hz1 hz2 B1 Z1 IX NA
    go_loopw [6, 8, 9] (fun ok rest i wr => ∃ (k : Nat) (b : Bool) (r : ByteArray), ok = .bool b ∧ rest = .string r ∧ i = .int .i64 k ∧ k ≤ L.length ∧ atAsk U L k b r.data.toList wr (gF + 1) ∧ Below W4.heap.size W4 wr) (fun _ _ i _ => L.length - (intOf i).toNat)
    case atStart =>
      refine ⟨0, b0, _, rfl, rfl, rfl, Nat.zero_le _, ?_, (Below.refl _ _).alloc (Nat.le_refl _) _⟩
      rcases Hst.out with ⟨h1, h2⟩ | ⟨h1, h2⟩
      · exact .inl ⟨h1, h2⟩
      · refine .inr ⟨Deed.of kd, h1, rfl, ?_, ?_, DA.out⟩
        · (try rw [ext_end]); simp
        · have h3 : R = ByteArray.empty := by rw [← HR.out]; exact ext_end s
          rw [h3] at h2
          exact h2
    case round =>
      obtain ⟨w0, rfl⟩ : ∃ w0 : World, w0 = wr := ⟨_, rfl⟩
      obtain ⟨k, b, r, rfl, rfl, rfl, hk, hat, hbel⟩ := hrel
      have RF := RF4.out.below hbel (by omega)
      have RZ := Lib.hid (RZ4.out.below hbel (by omega))
      have BW := Lib.hid (BW4.out.trans (hbel.mono (by omega)))
      have HB := Lib.hid hbel
      have f2 := RF.cell (j := 2) rfl
      have Ys := HYs.out
      clear RF hbel
      rcases hat with ⟨rfl, hu⟩ | ⟨d, rfl, hdc, hrs, hask, hda⟩
      · have HU := Lib.hid hu
        clear hu
        go_wp2_with (refine wpList_store_row rfl 53 _ _ rfl g0 53 zero8 zero8 rfl rfl RZ.out rfl (by kernel_rfl) zero_one ?_; intro w6 hr6 ho6; have q0 := hr6.cell (j := 0) rfl; have q1 := hr6.cell (j := 1) rfl; have q2 := hr6.cell (j := 2) rfl; have q3 := hr6.cell (j := 3) rfl; have q4 := hr6.cell (j := 4) rfl; have q5 := hr6.cell (j := 5) rfl; have q6 := hr6.cell (j := 6) rfl; have q7 := hr6.cell (j := 7) rfl)
        exact bodyPost_ret (v := .tuple #[.agg zero8.toArray, .int .i64 10]) (by simp [results, Try.results37, go_sem, zero8, cells8, Deed.of, q0, q1, q2, q3, q4, q5, q6, q7]) rfl ⟨by rw [HU.out]; exact ⟨_, _, _, rfl, Own3.of _ _ _⟩, ho6.below BW.out (Nat.le_refl _)⟩
      · by_cases hlt : k < L.length
        · obtain ⟨c, hc⟩ : ∃ c, L[k]? = some c := ⟨_, List.getElem?_eq_getElem hlt⟩
          have hlt2 : k < Y.size := by omega
          have hat : Y[k] = c := by
            have h1 := get_data Y k hlt2
            rw [HYl.out, hc] at h1
            exact (Option.some.inj h1).symm
          have hca : isAsk c := HL.out c (List.mem_of_getElem? hc)
          have hdr : L.drop k = c :: L.drop (k + 1) := by
            obtain ⟨h1, h2⟩ := List.getElem?_eq_some_iff.1 hc
            rw [List.drop_eq_getElem_cons h1, h2]
          rw [hdr] at hask
          by_cases h102 : c = 102
          · subst h102
            rw [asks_102] at hask
            have HAT : Hid (atCall U 100000000 true r.data.toList w0 (gF + 1)) := Lib.hid (.inr ⟨d, rfl, by rw [hdc]; simpa using hrs, hask, hda⟩)
            have e1 : (((102 : UInt8).toNat : Int) == 102) = true := by decide
            have e2 : ((102 : UInt8).toNat : Int) = 102 := by decide
            have hrs' : r.size ≤ 100000000 := by rw [← data_len]; exact hrs
            clear hask hda hdc hrs hc hdr hca
            go_wp2
            go_loopw [6, 8] (fun ok rest wr => ∃ (b : Bool) (r : ByteArray), ok = .bool b ∧ rest = .string r ∧ atCall U 100000000 b r.data.toList wr (gF + 1) ∧ Below W4.heap.size W4 wr) (fun ok rest _ => mOf ok rest)
            case atStart => exact ⟨true, r, rfl, rfl, HAT.out, HB.out⟩
            case round =>
              obtain ⟨w7, rfl⟩ : ∃ w7 : World, w7 = wr := ⟨_, rfl⟩
              obtain ⟨b, r, rfl, rfl, hat, hbel⟩ := hrel
              clear RZ BW HB f2 HAT
              have RZ := Lib.hid (RZ4.out.below hbel (by omega))
              have BW := Lib.hid (BW4.out.trans (hbel.mono (by omega)))
              have HB := Lib.hid hbel
              clear hbel
              rcases hat with ⟨rfl, hu⟩ | ⟨d, rfl, hdc, hask, hda⟩
              · have HU := Lib.hid hu
                clear hu
                go_wp2_with (refine wpList_store_row rfl 53 _ _ rfl g0 53 zero8 zero8 rfl rfl RZ.out rfl (by kernel_rfl) zero_one ?_; intro w6 hr6 ho6; have q0 := hr6.cell (j := 0) rfl; have q1 := hr6.cell (j := 1) rfl; have q2 := hr6.cell (j := 2) rfl; have q3 := hr6.cell (j := 3) rfl; have q4 := hr6.cell (j := 4) rfl; have q5 := hr6.cell (j := 5) rfl; have q6 := hr6.cell (j := 6) rfl; have q7 := hr6.cell (j := 7) rfl)
                exact bodyPost_ret (v := .tuple #[.agg zero8.toArray, .int .i64 10]) (by simp [results, Try.results37, go_sem, zero8, cells8, Deed.of, q0, q1, q2, q3, q4, q5, q6, q7]) rfl ⟨by rw [HU.out]; exact ⟨_, _, _, rfl, Own3.of _ _ _⟩, ho6.below BW.out (Nat.le_refl _)⟩
              · have hrs : r.size ≤ 100000000 := by rw [← data_len]; omega
                by_cases hr0 : r.data.toList = []
                · have hre : r = ⟨#[]⟩ := bytes_inj (by rw [hr0])
                  subst hre
                  have HU : Hid (U = some d) := Lib.hid (by rw [← hask]; rfl)
                  clear hask hdc hr0
                  obtain ⟨vB, vC, vK, hrow, hown⟩ := hda
                  have c0 := hrow.cell (j := 0) rfl
                  have c1 := hrow.cell (j := 1) rfl
                  have c2 := hrow.cell (j := 2) rfl
                  have c3 := hrow.cell (j := 3) rfl
                  have c4 := hrow.cell (j := 4) rfl
                  have c5 := hrow.cell (j := 5) rfl
                  have c6 := hrow.cell (j := 6) rfl
                  have c7 := hrow.cell (j := 7) rfl
                  have HO := Lib.hid hown
                  clear hrow hown
                  go_wp2_with (refine wpList_store_row rfl 53 _ _ rfl g0 53 (cells8 d vB vC vK) zero8 rfl rfl RZ.out rfl (by kernel_rfl) HO.out.one ?_; intro w6 hr6 ho6; have q0 := hr6.cell (j := 0) rfl; have q1 := hr6.cell (j := 1) rfl; have q2 := hr6.cell (j := 2) rfl; have q3 := hr6.cell (j := 3) rfl; have q4 := hr6.cell (j := 4) rfl; have q5 := hr6.cell (j := 5) rfl; have q6 := hr6.cell (j := 6) rfl; have q7 := hr6.cell (j := 7) rfl)
                  exact bodyPost_ret (v := .tuple #[.agg (cells8 d vB vC vK).toArray, .int .i64 0]) (by simp [results, Try.results37, go_sem, cells8, q0, q1, q2, q3, q4, q5, q6, q7]) rfl ⟨by rw [HU.out]; exact ⟨_, _, _, rfl, (HO.out.keep (Kept3.only ho6 RZ.out (by decide))).base (by omega)⟩, ho6.below BW.out (Nat.le_refl _)⟩
                · have hne : (r.toList == []) = false := by rw [beq_eq_false_iff_ne, ByteArray.toList_eq]; exact hr0
                  rw [callsD_step _ hr0] at hask
                  have TK := take_any 102 102 (.inr (.inr (.inr (.inr (.inl ⟨rfl, rfl⟩))))) r (by omega) (gF + 1) (gF + 1) w7 (Nat.le_refl _) d (by omega) hda
                  cases hx : askD 102 d r.data.toList with
                  | none =>
                    rw [hx] at TK hask
                    have HU : Hid (U = none) := Lib.hid hask.symm
                    replace TK := Lib.hid TK
                    clear hx hask hda hdc hr0
                    go_wp2_with (go_at_call 59; refine TK.out.mono ?_; rintro e w3 ⟨⟨r', rfl⟩, _, hb3⟩)
                    go_roundw
                    case rel => exact ⟨false, r', rfl, rfl, .inl ⟨rfl, HU.out⟩, HB.out.trans (hb3.mono (by omega))⟩
                    case measure => simp [mOf]
                  | some x =>
                    have hlt3 := askD_lt (d' := x.1) (r' := x.2) hx
                    have hcl := ask_calls102 hx
                    rw [hx] at TK hask
                    have HAT : Hid (x.1.calls.length + x.2.length ≤ 100000000 ∧ callsD (x.2.length + 1) x.1 x.2 = U) := Lib.hid ⟨by omega, hask⟩
                    have HM : Hid ((⟨x.2.toArray⟩ : ByteArray).size < r.size) := Lib.hid (by rw [size_mk, ← data_len r]; exact hlt3)
                    replace TK := Lib.hid TK
                    clear hx hask hda hdc hr0 hlt3 hcl
                    go_wp2_with (go_at_call 59; refine TK.out.mono ?_; rintro e w3 ⟨he3, hd3, hb3⟩; unfold tookV at he3; simp only at he3; subst he3; have HD3 := Lib.hid hd3; clear hd3)
                    go_roundw
                    case rel => exact ⟨true, _, rfl, rfl, .inr ⟨x.1, rfl, HAT.out.1, HAT.out.2, HD3.out⟩, HB.out.trans (hb3.mono (by omega))⟩
                    case measure => have := HM.out; simp only [mOf]; omega
          · rw [asks_cons h102] at hask
            have e1 : ((c.toNat : Int) == 102) = false := by
              rw [beq_eq_false_iff_ne]
              intro h
              exact h102 (UInt8.toNat_inj.1 (by simpa using (by omega : c.toNat = 102)))
            have hrs' : r.size ≤ 100000000 := by rw [← data_len]; exact hrs
            have TK := take_any c c.toNat (ask_pair hca) r (by omega) (gF + 1) (gF + 1) w0 (Nat.le_refl _) d (by rw [hdc]; simp) hda
            cases hx : askD c d r.data.toList with
            | none =>
              rw [hx] at TK hask
              have HU : Hid (U = none) := Lib.hid hask.symm
              replace TK := Lib.hid TK
              clear hx hask hda hdc hc hdr hca
              go_wp2_with (go_at_call 59; refine TK.out.mono ?_; rintro e w3 ⟨⟨r', rfl⟩, _, hb3⟩)
              go_roundw
              case rel => exact ⟨k + 1, false, r', rfl, rfl, by go_num, hlt, .inl ⟨rfl, HU.out⟩, HB.out.trans (hb3.mono (by omega))⟩
              case measure => simp [intOf]; omega
            | some x =>
              have hlt3 := askD_lt (d' := x.1) (r' := x.2) hx
              have hcl := ask_calls h102 hx hca
              rw [hx] at TK hask
              have HAT : Hid (x.1.calls = [] ∧ x.2.length ≤ 100000000 ∧ asksD (L.drop (k + 1)) x.1 x.2 = U) := Lib.hid ⟨by rw [hcl, hdc], by omega, hask⟩
              replace TK := Lib.hid TK
              clear hx hask hda hdc hlt3 hcl hc hdr hca hrs
              go_wp2_with (go_at_call 59; refine TK.out.mono ?_; rintro e w3 ⟨he3, hd3, hb3⟩; unfold tookV at he3; simp only at he3; subst he3; have HD3 := Lib.hid hd3; clear hd3)
              go_roundw
              case rel => exact ⟨k + 1, true, _, rfl, rfl, by go_num, hlt, .inr ⟨x.1, rfl, HAT.out.1, HAT.out.2.1, HAT.out.2.2, HD3.out⟩, HB.out.trans (hb3.mono (by omega))⟩
              case measure => simp [intOf]; omega
        · obtain rfl : k = L.length := by omega
          rw [List.drop_length, asks_nil] at hask
          by_cases hr0 : r.data.toList = []
          · have hre : r = ⟨#[]⟩ := bytes_inj (by rw [hr0])
            subst hre
            have HU : Hid (U = some d) := Lib.hid (by rw [← hask]; rfl)
            clear hask hdc hr0 hrs
            obtain ⟨vB, vC, vK, hrow, hown⟩ := hda
            have c0 := hrow.cell (j := 0) rfl
            have c1 := hrow.cell (j := 1) rfl
            have c2 := hrow.cell (j := 2) rfl
            have c3 := hrow.cell (j := 3) rfl
            have c4 := hrow.cell (j := 4) rfl
            have c5 := hrow.cell (j := 5) rfl
            have c6 := hrow.cell (j := 6) rfl
            have c7 := hrow.cell (j := 7) rfl
            have HO := Lib.hid hown
            clear hrow hown
            go_wp2_with (refine wpList_store_row rfl 53 _ _ rfl g0 53 (cells8 d vB vC vK) zero8 rfl rfl RZ.out rfl (by kernel_rfl) HO.out.one ?_; intro w6 hr6 ho6; have q0 := hr6.cell (j := 0) rfl; have q1 := hr6.cell (j := 1) rfl; have q2 := hr6.cell (j := 2) rfl; have q3 := hr6.cell (j := 3) rfl; have q4 := hr6.cell (j := 4) rfl; have q5 := hr6.cell (j := 5) rfl; have q6 := hr6.cell (j := 6) rfl; have q7 := hr6.cell (j := 7) rfl)
            exact bodyPost_ret (v := .tuple #[.agg (cells8 d vB vC vK).toArray, .int .i64 0]) (by simp [results, Try.results37, go_sem, cells8, q0, q1, q2, q3, q4, q5, q6, q7]) rfl ⟨by rw [HU.out]; exact ⟨_, _, _, rfl, (HO.out.keep (Kept3.only ho6 RZ.out (by decide))).base (by omega)⟩, ho6.below BW.out (Nat.le_refl _)⟩
          · have hne : (r.toList == []) = false := by rw [beq_eq_false_iff_ne, ByteArray.toList_eq]; exact hr0
            rw [if_neg hr0] at hask
            have HU : Hid (U = none) := Lib.hid hask.symm
            clear hask hdc hr0 hrs hda
            go_wp2_with (refine wpList_store_row rfl 53 _ _ rfl g0 53 zero8 zero8 rfl rfl RZ.out rfl (by kernel_rfl) zero_one ?_; intro w6 hr6 ho6; have q0 := hr6.cell (j := 0) rfl; have q1 := hr6.cell (j := 1) rfl; have q2 := hr6.cell (j := 2) rfl; have q3 := hr6.cell (j := 3) rfl; have q4 := hr6.cell (j := 4) rfl; have q5 := hr6.cell (j := 5) rfl; have q6 := hr6.cell (j := 6) rfl; have q7 := hr6.cell (j := 7) rfl)
            exact bodyPost_ret (v := .tuple #[.agg zero8.toArray, .int .i64 10]) (by simp [results, Try.results37, go_sem, zero8, cells8, Deed.of, q0, q1, q2, q3, q4, q5, q6, q7]) rfl ⟨by rw [HU.out]; exact ⟨_, _, _, rfl, Own3.of _ _ _⟩, ho6.below BW.out (Nat.le_refl _)⟩
  · go_enter Try.func37, Try.ntmps37
    go_wp2_with (first
      | (go_at_call 57; refine (IX.out _).mono ?_; rintro e w' ⟨rfl, rfl⟩)
      | (go_at_call 58; (first | (with_reducible refine (NA.out _).mono ?_) | (rw [ext_all] at NA; (with_reducible refine (NA.out _).mono ?_))); rintro e w2 ⟨rfl, hb2⟩))
    have hb2' : Below w1.heap.size w1 w2 := by first | exact hb2 | (rw [← hw]; exact hb2)
    have hz2 := hb2'.size
    obtain ⟨W4, hW4⟩ : ∃ W4, w2.alloc (.cells #[.string X, .int .i64 kd, .string Y] 94) = W4 := ⟨_, rfl⟩
    have hz4 : W4.heap.size = w2.heap.size + 1 := by rw [← hW4]; simp
    have BW4 : Hid (Below g0 w W4) := Lib.hid (by rw [← hW4]; exact (B1.out.trans (hb2'.mono (by omega))).alloc (by omega) _)
    have RF4 : Hid (RowAt W4 w2.heap.size 94 [.string X, .int .i64 kd, .string Y]) := Lib.hid (by rw [← hW4]; exact RowAt.new w2 _ [.string X, .int .i64 kd, .string Y])
    have RZ4 : Hid (RowAt W4 g0 53 zero8) := Lib.hid (by rw [← hW4]; exact (Z1.out.below hb2' Z1.out.lt).alloc _)
    rw [hW4]
    obtain ⟨gF, hgF⟩ : ∃ gF, w2.heap.size = gF := ⟨_, rfl⟩
    rw [hgF] at hz4 RF4 hz2 ⊢
    have hg0F : g0 < gF := by omega
    have DA : Hid (DeedAt (W4.alloc (.cells #[.int .i64 kd, .int .i64 0, .int .i64 0, .slice none 0 0, .slice none 0 0, .slice none 0 0, .int .i64 0, .int .i64 0] 98)) (gF + 1) 98 (gF + 1) (Deed.of kd)) := Lib.hid (by
      rw [← hz4]
      exact ⟨_, _, _, RowAt.new W4 98 (cells8 (Deed.of kd) (.slice none 0 0) (.slice none 0 0) (.slice none 0 0)), Own3.of _ _ _⟩)
    clear hb2 hb2' hW4 hgF hw hz1 hz2 B1 Z1 IX NA
    go_loopw [6, 8, 9] (fun ok rest i wr => ∃ (k : Nat) (b : Bool) (r : ByteArray), ok = .bool b ∧ rest = .string r ∧ i = .int .i64 k ∧ k ≤ L.length ∧ atAsk U L k b r.data.toList wr (gF + 1) ∧ Below W4.heap.size W4 wr) (fun _ _ i _ => L.length - (intOf i).toNat)
    case atStart =>
      refine ⟨0, b0, _, rfl, rfl, rfl, Nat.zero_le _, ?_, (Below.refl _ _).alloc (Nat.le_refl _) _⟩
      rcases Hst.out with ⟨h1, h2⟩ | ⟨h1, h2⟩
      · exact .inl ⟨h1, h2⟩
      · refine .inr ⟨Deed.of kd, h1, rfl, ?_, ?_, DA.out⟩
        · rw [HR.out, data_len]; omega
        · rw [HR.out]; exact h2
    case round =>
      obtain ⟨w0, rfl⟩ : ∃ w0 : World, w0 = wr := ⟨_, rfl⟩
      obtain ⟨k, b, r, rfl, rfl, rfl, hk, hat, hbel⟩ := hrel
      have RF := RF4.out.below hbel (by omega)
      have RZ := Lib.hid (RZ4.out.below hbel (by omega))
      have BW := Lib.hid (BW4.out.trans (hbel.mono (by omega)))
      have HB := Lib.hid hbel
      have f2 := RF.cell (j := 2) rfl
      have Ys := HYs.out
      clear RF hbel
      rcases hat with ⟨rfl, hu⟩ | ⟨d, rfl, hdc, hrs, hask, hda⟩
      · have HU := Lib.hid hu
        clear hu
        go_wp2_with (refine wpList_store_row rfl 53 _ _ rfl g0 53 zero8 zero8 rfl rfl RZ.out rfl (by kernel_rfl) zero_one ?_; intro w6 hr6 ho6; have q0 := hr6.cell (j := 0) rfl; have q1 := hr6.cell (j := 1) rfl; have q2 := hr6.cell (j := 2) rfl; have q3 := hr6.cell (j := 3) rfl; have q4 := hr6.cell (j := 4) rfl; have q5 := hr6.cell (j := 5) rfl; have q6 := hr6.cell (j := 6) rfl; have q7 := hr6.cell (j := 7) rfl)
        exact bodyPost_ret (v := .tuple #[.agg zero8.toArray, .int .i64 10]) (by simp [results, Try.results37, go_sem, zero8, cells8, Deed.of, q0, q1, q2, q3, q4, q5, q6, q7]) rfl ⟨by rw [HU.out]; exact ⟨_, _, _, rfl, Own3.of _ _ _⟩, ho6.below BW.out (Nat.le_refl _)⟩
      · by_cases hlt : k < L.length
        · obtain ⟨c, hc⟩ : ∃ c, L[k]? = some c := ⟨_, List.getElem?_eq_getElem hlt⟩
          have hlt2 : k < Y.size := by omega
          have hat : Y[k] = c := by
            have h1 := get_data Y k hlt2
            rw [HYl.out, hc] at h1
            exact (Option.some.inj h1).symm
          have hca : isAsk c := HL.out c (List.mem_of_getElem? hc)
          have hdr : L.drop k = c :: L.drop (k + 1) := by
            obtain ⟨h1, h2⟩ := List.getElem?_eq_some_iff.1 hc
            rw [List.drop_eq_getElem_cons h1, h2]
          rw [hdr] at hask
          by_cases h102 : c = 102
          · subst h102
            rw [asks_102] at hask
            have HAT : Hid (atCall U 100000000 true r.data.toList w0 (gF + 1)) := Lib.hid (.inr ⟨d, rfl, by rw [hdc]; simpa using hrs, hask, hda⟩)
            have e1 : (((102 : UInt8).toNat : Int) == 102) = true := by decide
            have e2 : ((102 : UInt8).toNat : Int) = 102 := by decide
            have hrs' : r.size ≤ 100000000 := by rw [← data_len]; exact hrs
            clear hask hda hdc hrs hc hdr hca
            go_wp2
            go_loopw [6, 8] (fun ok rest wr => ∃ (b : Bool) (r : ByteArray), ok = .bool b ∧ rest = .string r ∧ atCall U 100000000 b r.data.toList wr (gF + 1) ∧ Below W4.heap.size W4 wr) (fun ok rest _ => mOf ok rest)
            case atStart => exact ⟨true, r, rfl, rfl, HAT.out, HB.out⟩
            case round =>
              obtain ⟨w7, rfl⟩ : ∃ w7 : World, w7 = wr := ⟨_, rfl⟩
              obtain ⟨b, r, rfl, rfl, hat, hbel⟩ := hrel
              clear RZ BW HB f2 HAT
              have RZ := Lib.hid (RZ4.out.below hbel (by omega))
              have BW := Lib.hid (BW4.out.trans (hbel.mono (by omega)))
              have HB := Lib.hid hbel
              clear hbel
              rcases hat with ⟨rfl, hu⟩ | ⟨d, rfl, hdc, hask, hda⟩
              · have HU := Lib.hid hu
                clear hu
                go_wp2_with (refine wpList_store_row rfl 53 _ _ rfl g0 53 zero8 zero8 rfl rfl RZ.out rfl (by kernel_rfl) zero_one ?_; intro w6 hr6 ho6; have q0 := hr6.cell (j := 0) rfl; have q1 := hr6.cell (j := 1) rfl; have q2 := hr6.cell (j := 2) rfl; have q3 := hr6.cell (j := 3) rfl; have q4 := hr6.cell (j := 4) rfl; have q5 := hr6.cell (j := 5) rfl; have q6 := hr6.cell (j := 6) rfl; have q7 := hr6.cell (j := 7) rfl)
                exact bodyPost_ret (v := .tuple #[.agg zero8.toArray, .int .i64 10]) (by simp [results, Try.results37, go_sem, zero8, cells8, Deed.of, q0, q1, q2, q3, q4, q5, q6, q7]) rfl ⟨by rw [HU.out]; exact ⟨_, _, _, rfl, Own3.of _ _ _⟩, ho6.below BW.out (Nat.le_refl _)⟩
              · have hrs : r.size ≤ 100000000 := by rw [← data_len]; omega
                by_cases hr0 : r.data.toList = []
                · have hre : r = ⟨#[]⟩ := bytes_inj (by rw [hr0])
                  subst hre
                  have HU : Hid (U = some d) := Lib.hid (by rw [← hask]; rfl)
                  clear hask hdc hr0
                  obtain ⟨vB, vC, vK, hrow, hown⟩ := hda
                  have c0 := hrow.cell (j := 0) rfl
                  have c1 := hrow.cell (j := 1) rfl
                  have c2 := hrow.cell (j := 2) rfl
                  have c3 := hrow.cell (j := 3) rfl
                  have c4 := hrow.cell (j := 4) rfl
                  have c5 := hrow.cell (j := 5) rfl
                  have c6 := hrow.cell (j := 6) rfl
                  have c7 := hrow.cell (j := 7) rfl
                  have HO := Lib.hid hown
                  clear hrow hown
                  go_wp2_with (refine wpList_store_row rfl 53 _ _ rfl g0 53 (cells8 d vB vC vK) zero8 rfl rfl RZ.out rfl (by kernel_rfl) HO.out.one ?_; intro w6 hr6 ho6; have q0 := hr6.cell (j := 0) rfl; have q1 := hr6.cell (j := 1) rfl; have q2 := hr6.cell (j := 2) rfl; have q3 := hr6.cell (j := 3) rfl; have q4 := hr6.cell (j := 4) rfl; have q5 := hr6.cell (j := 5) rfl; have q6 := hr6.cell (j := 6) rfl; have q7 := hr6.cell (j := 7) rfl)
                  exact bodyPost_ret (v := .tuple #[.agg (cells8 d vB vC vK).toArray, .int .i64 0]) (by simp [results, Try.results37, go_sem, cells8, q0, q1, q2, q3, q4, q5, q6, q7]) rfl ⟨by rw [HU.out]; exact ⟨_, _, _, rfl, (HO.out.keep (Kept3.only ho6 RZ.out (by decide))).base (by omega)⟩, ho6.below BW.out (Nat.le_refl _)⟩
                · have hne : (r.toList == []) = false := by rw [beq_eq_false_iff_ne, ByteArray.toList_eq]; exact hr0
                  rw [callsD_step _ hr0] at hask
                  have TK := take_any 102 102 (.inr (.inr (.inr (.inr (.inl ⟨rfl, rfl⟩))))) r (by omega) (gF + 1) (gF + 1) w7 (Nat.le_refl _) d (by omega) hda
                  cases hx : askD 102 d r.data.toList with
                  | none =>
                    rw [hx] at TK hask
                    have HU : Hid (U = none) := Lib.hid hask.symm
                    replace TK := Lib.hid TK
                    clear hx hask hda hdc hr0
                    go_wp2_with (go_at_call 59; refine TK.out.mono ?_; rintro e w3 ⟨⟨r', rfl⟩, _, hb3⟩)
                    go_roundw
                    case rel => exact ⟨false, r', rfl, rfl, .inl ⟨rfl, HU.out⟩, HB.out.trans (hb3.mono (by omega))⟩
                    case measure => simp [mOf]
                  | some x =>
                    have hlt3 := askD_lt (d' := x.1) (r' := x.2) hx
                    have hcl := ask_calls102 hx
                    rw [hx] at TK hask
                    have HAT : Hid (x.1.calls.length + x.2.length ≤ 100000000 ∧ callsD (x.2.length + 1) x.1 x.2 = U) := Lib.hid ⟨by omega, hask⟩
                    have HM : Hid ((⟨x.2.toArray⟩ : ByteArray).size < r.size) := Lib.hid (by rw [size_mk, ← data_len r]; exact hlt3)
                    replace TK := Lib.hid TK
                    clear hx hask hda hdc hr0 hlt3 hcl
                    go_wp2_with (go_at_call 59; refine TK.out.mono ?_; rintro e w3 ⟨he3, hd3, hb3⟩; unfold tookV at he3; simp only at he3; subst he3; have HD3 := Lib.hid hd3; clear hd3)
                    go_roundw
                    case rel => exact ⟨true, _, rfl, rfl, .inr ⟨x.1, rfl, HAT.out.1, HAT.out.2, HD3.out⟩, HB.out.trans (hb3.mono (by omega))⟩
                    case measure => have := HM.out; simp only [mOf]; omega
          · rw [asks_cons h102] at hask
            have e1 : ((c.toNat : Int) == 102) = false := by
              rw [beq_eq_false_iff_ne]
              intro h
              exact h102 (UInt8.toNat_inj.1 (by simpa using (by omega : c.toNat = 102)))
            have hrs' : r.size ≤ 100000000 := by rw [← data_len]; exact hrs
            have TK := take_any c c.toNat (ask_pair hca) r (by omega) (gF + 1) (gF + 1) w0 (Nat.le_refl _) d (by rw [hdc]; simp) hda
            cases hx : askD c d r.data.toList with
            | none =>
              rw [hx] at TK hask
              have HU : Hid (U = none) := Lib.hid hask.symm
              replace TK := Lib.hid TK
              clear hx hask hda hdc hc hdr hca
              go_wp2_with (go_at_call 59; refine TK.out.mono ?_; rintro e w3 ⟨⟨r', rfl⟩, _, hb3⟩)
              go_roundw
              case rel => exact ⟨k + 1, false, r', rfl, rfl, by go_num, hlt, .inl ⟨rfl, HU.out⟩, HB.out.trans (hb3.mono (by omega))⟩
              case measure => simp [intOf]; omega
            | some x =>
              have hlt3 := askD_lt (d' := x.1) (r' := x.2) hx
              have hcl := ask_calls h102 hx hca
              rw [hx] at TK hask
              have HAT : Hid (x.1.calls = [] ∧ x.2.length ≤ 100000000 ∧ asksD (L.drop (k + 1)) x.1 x.2 = U) := Lib.hid ⟨by rw [hcl, hdc], by omega, hask⟩
              replace TK := Lib.hid TK
              clear hx hask hda hdc hlt3 hcl hc hdr hca hrs
              go_wp2_with (go_at_call 59; refine TK.out.mono ?_; rintro e w3 ⟨he3, hd3, hb3⟩; unfold tookV at he3; simp only at he3; subst he3; have HD3 := Lib.hid hd3; clear hd3)
              go_roundw
              case rel => exact ⟨k + 1, true, _, rfl, rfl, by go_num, hlt, .inr ⟨x.1, rfl, HAT.out.1, HAT.out.2.1, HAT.out.2.2, HD3.out⟩, HB.out.trans (hb3.mono (by omega))⟩
              case measure => simp [intOf]; omega
        · obtain rfl : k = L.length := by omega
          rw [List.drop_length, asks_nil] at hask
          by_cases hr0 : r.data.toList = []
          · have hre : r = ⟨#[]⟩ := bytes_inj (by rw [hr0])
            subst hre
            have HU : Hid (U = some d) := Lib.hid (by rw [← hask]; rfl)
            clear hask hdc hr0 hrs
            obtain ⟨vB, vC, vK, hrow, hown⟩ := hda
            have c0 := hrow.cell (j := 0) rfl
            have c1 := hrow.cell (j := 1) rfl
            have c2 := hrow.cell (j := 2) rfl
            have c3 := hrow.cell (j := 3) rfl
            have c4 := hrow.cell (j := 4) rfl
            have c5 := hrow.cell (j := 5) rfl
            have c6 := hrow.cell (j := 6) rfl
            have c7 := hrow.cell (j := 7) rfl
            have HO := Lib.hid hown
            clear hrow hown
            go_wp2_with (refine wpList_store_row rfl 53 _ _ rfl g0 53 (cells8 d vB vC vK) zero8 rfl rfl RZ.out rfl (by kernel_rfl) HO.out.one ?_; intro w6 hr6 ho6; have q0 := hr6.cell (j := 0) rfl; have q1 := hr6.cell (j := 1) rfl; have q2 := hr6.cell (j := 2) rfl; have q3 := hr6.cell (j := 3) rfl; have q4 := hr6.cell (j := 4) rfl; have q5 := hr6.cell (j := 5) rfl; have q6 := hr6.cell (j := 6) rfl; have q7 := hr6.cell (j := 7) rfl)
            exact bodyPost_ret (v := .tuple #[.agg (cells8 d vB vC vK).toArray, .int .i64 0]) (by simp [results, Try.results37, go_sem, cells8, q0, q1, q2, q3, q4, q5, q6, q7]) rfl ⟨by rw [HU.out]; exact ⟨_, _, _, rfl, (HO.out.keep (Kept3.only ho6 RZ.out (by decide))).base (by omega)⟩, ho6.below BW.out (Nat.le_refl _)⟩
          · have hne : (r.toList == []) = false := by rw [beq_eq_false_iff_ne, ByteArray.toList_eq]; exact hr0
            rw [if_neg hr0] at hask
            have HU : Hid (U = none) := Lib.hid hask.symm
            clear hask hdc hr0 hrs hda
            go_wp2_with (refine wpList_store_row rfl 53 _ _ rfl g0 53 zero8 zero8 rfl rfl RZ.out rfl (by kernel_rfl) zero_one ?_; intro w6 hr6 ho6; have q0 := hr6.cell (j := 0) rfl; have q1 := hr6.cell (j := 1) rfl; have q2 := hr6.cell (j := 2) rfl; have q3 := hr6.cell (j := 3) rfl; have q4 := hr6.cell (j := 4) rfl; have q5 := hr6.cell (j := 5) rfl; have q6 := hr6.cell (j := 6) rfl; have q7 := hr6.cell (j := 7) rfl)
            exact bodyPost_ret (v := .tuple #[.agg zero8.toArray, .int .i64 10]) (by simp [results, Try.results37, go_sem, zero8, cells8, Deed.of, q0, q1, q2, q3, q4, q5, q6, q7]) rfl ⟨by rw [HU.out]; exact ⟨_, _, _, rfl, Own3.of _ _ _⟩, ho6.below BW.out (Nat.le_refl _)⟩
end Go.Proofs.Ytmcioedmjcbfbaa
