/- Layer 27's laws: ScriptQuiet, walked. No condition. -/
import Derived.Test.YtmcioedmjcbfbaaLaw27c
import Derived.Test.YtmcioedmjcbfbaaOpen
namespace Go.Proofs.Ytmcioedmjcbfbaa
open Go.RowKit IH
set_option maxRecDepth 100000
theorem quiet_nd {N : List (List UInt8)} {L : List Deed} {k : Nat} {a : List UInt8} {d : Deed} (ha : N[k]? = some a) (hd : L[k]? = some d) :
    quietOf (N.drop k) (L.drop k) = (35 :: a) ++ 10 :: ([] ++ 10 :: (printD d ++ 10 :: quietOf (N.drop (k + 1)) (L.drop (k + 1)))) := by
  obtain ⟨h1, rfl⟩ := List.getElem?_eq_some_iff.1 ha
  obtain ⟨h2, rfl⟩ := List.getElem?_eq_some_iff.1 hd
  rw [List.drop_eq_getElem_cons h1, List.drop_eq_getElem_cons h2]
  rfl
theorem quiet_n {N : List (List UInt8)} {L : List Deed} {k : Nat} {a : List UInt8} (ha : N[k]? = some a) (hd : L.length ≤ k) :
    quietOf (N.drop k) (L.drop k) = (35 :: a) ++ 10 :: ([] ++ 10 :: quietOf (N.drop (k + 1)) (L.drop (k + 1))) := by
  obtain ⟨h1, rfl⟩ := List.getElem?_eq_some_iff.1 ha
  rw [List.drop_eq_getElem_cons h1, List.drop_eq_nil_of_le hd, show L.drop (k + 1) = [] from List.drop_eq_nil_of_le (by omega)]
  rfl
theorem quiet_d {N : List (List UInt8)} {L : List Deed} {k : Nat} {d : Deed} (ha : N.length ≤ k) (hd : L[k]? = some d) :
    quietOf (N.drop k) (L.drop k) = printD d ++ 10 :: quietOf (N.drop (k + 1)) (L.drop (k + 1)) := by
  obtain ⟨h2, rfl⟩ := List.getElem?_eq_some_iff.1 hd
  rw [List.drop_eq_nil_of_le ha, List.drop_eq_nil_of_le (by omega : N.length ≤ k + 1), List.drop_eq_getElem_cons h2]
  show scriptOf _ = _ ++ 10 :: scriptOf _
  rw [scriptOf_cons]
theorem quiet_end {N : List (List UInt8)} {L : List Deed} {k : Nat} (ha : N.length ≤ k) (hd : L.length ≤ k) : quietOf (N.drop k) (L.drop k) = [] := by
  rw [List.drop_eq_nil_of_le ha, List.drop_eq_nil_of_le hd]
  rfl
theorem all_snoc {α : Type} {P : α → Prop} {L : List α} {k : Nat} {x : α} (h : ∀ y ∈ L.take k, P y) (hx : L[k]? = some x) (hp : P x) : ∀ y ∈ L.take (k + 1), P y := by
  intro y hy
  rw [List.take_add_one, hx] at hy
  rcases List.mem_append.1 hy with hy | hy
  · exact h y hy
  · simp at hy; rw [hy]; exact hp
theorem all_past {α : Type} {P : α → Prop} {L : List α} {k : Nat} (h : ∀ y ∈ L.take k, P y) (hk : L.length ≤ k) : ∀ y ∈ L.take (k + 1), P y := by
  rw [List.take_of_length_le hk] at h
  rw [List.take_of_length_le (by omega)]
  exact h
/-- A note that may stand. -/
def noteOk (a : List UInt8) : Prop := a.length ≤ 200 ∧ ∀ c ∈ a, c ≠ 10
def deedOk (d : Deed) : Prop := smallD d = true ∧ rightD d = true
theorem str_cell {w : World} {B n c : Nat} {A : Option Addr} {L : List (List UInt8)} (h : SliceIn w B 1 A n c (strsV L)) {k : Nat} {a : List UInt8} (hk : L[k]? = some a) : ∃ b off, A = some ⟨b, off, none⟩ ∧ b < B ∧ w.cell? ⟨b, off + k, none⟩ = some (.string ⟨a.toArray⟩) := by
  have hl : k < L.length := (List.getElem?_eq_some_iff.1 hk).1
  obtain ⟨h1, _, _, h4⟩ := h
  have : (strsV L).length = L.length := by simp [strsV]
  obtain ⟨b, off, rfl, hb, hc⟩ := h4 (by omega)
  exact ⟨b, off, rfl, hb, hc k _ (by simp [strsV, hk])⟩
set_option maxHeartbeats 16000000 in
theorem squiet_walk (w : World) (A : Option Addr) (n c : Nat) (L : List Deed) (V : List Value) (hin : SliceIn w w.heap.size 8 A n c V) (hR : DeedsR w w.heap.size L V) (hI : ∀ d ∈ L, DeedI d)
    (A2 : Option Addr) (m c2 : Nat) (N : List (List UInt8)) (hin2 : SliceIn w w.heap.size 1 A2 m c2 (strsV N)) :
    Calls Try.prog 6 #[.slice A n c, .slice A2 m c2] w fun e w' => e = .returned (.bool true) ∧ Below w.heap.size w w' := by
  have AW := Lib.hid (fun w => awake27_any w)
  have hL : L.length = n := by have := hin.1; rw [hR.length] at this; omega
  have hN : N.length = m := by have := hin2.1; simp [strsV] at this; omega
  have Hin := Lib.hid hin
  have Hin2 := Lib.hid hin2
  have HR := Lib.hid hR
  have HI := Lib.hid hI
  have HL := Lib.hid hL
  have HN := Lib.hid hN
  clear hin hin2 hR hI hL hN
  by_cases hbig : 20 < n ∨ 20 < m
  · by_cases h1 : 20 < n
    · have hI : (20 : Int) < (n : Int) := by omega
      clear hbig h1
      go_enter Try.func6, Try.ntmps6
      go_wp2_with fail
      refine (AW.out _).mono ?_
      rintro e w2 ⟨rfl, hb2⟩
      have B2 := Lib.hid hb2; clear hb2
      go_wp2_with fail
      refine (AW.out _).mono ?_
      rintro e w3 ⟨rfl, hb3⟩
      have B3 := Lib.hid (below_step B2.out hb3); clear hb3
      go_wp2
      go_ret
      exact ⟨rfl, B3.out⟩
    · have h2 : 20 < m := by omega
      have hI : (20 : Int) < (m : Int) := by omega
      have hI2 : (n : Int) ≤ (20 : Int) := by omega
      clear hbig h1 h2
      go_enter Try.func6, Try.ntmps6
      go_wp2_with fail
      refine (AW.out _).mono ?_
      rintro e w2 ⟨rfl, hb2⟩
      have B2 := Lib.hid hb2; clear hb2
      go_wp2_with fail
      refine (AW.out _).mono ?_
      rintro e w3 ⟨rfl, hb3⟩
      have B3 := Lib.hid (below_step B2.out hb3); clear hb3
      go_wp2
      go_ret
      exact ⟨rfl, B3.out⟩
  · have hI : (n : Int) ≤ (20 : Int) := by omega
    have hI2 : (m : Int) ≤ (20 : Int) := by omega
    have hn20 : n ≤ 20 := by omega
    have hm20 : m ≤ 20 := by omega
    clear hbig
    go_enter Try.func6, Try.ntmps6
    go_wp2_with (go_at_call 22; refine (AW.out _).mono ?_; rintro e w2 ⟨rfl, hb2⟩; have B2 := Lib.hid hb2; clear hb2)
    go_loopw [5, 6, 7] (fun s q i wr => ∃ (k : Nat) (T : ByteArray), k ≤ 20 ∧ k ≤ max n m ∧ i = .int .i64 k ∧ s = .string T ∧ T.data.toList ++ quietOf (N.drop k) (L.drop k) = quietOf N L ∧ T.size ≤ 4000 * k ∧ q = .int .i64 ((2 * min k m + min k n : Nat) : Int) ∧ (∀ a ∈ N.take k, noteOk a) ∧ (∀ d ∈ L.take k, deedOk d) ∧ Below w.heap.size w wr) (fun _ _ i _ => max n m - (intOf i).toNat)
    case atStart => exact ⟨0, ⟨#[]⟩, by omega, by omega, rfl, rfl, rfl, Nat.zero_le _, by simp, by simp, by simp, B2.out⟩
    case round =>
      clear B2
      obtain ⟨w0, rfl⟩ : ∃ w0 : World, w0 = wr := ⟨_, rfl⟩
      obtain ⟨k, T, hk20, hkm, rfl, rfl, hT, hTs, rfl, hna, hda, hbel⟩ := hrel
      have HB := Lib.hid hbel
      have HT := Lib.hid hT
      have HNA := Lib.hid hna
      have HDA := Lib.hid hda
      have hws := hbel.size
      clear hbel hT hna hda
      obtain ⟨q, hq⟩ : ∃ q, 2 * min k m + min k n = q := ⟨_, rfl⟩
      have hqb : q ≤ 60 := by omega
      rw [hq]
      have Hq := Lib.hid hq
      clear hq
      by_cases hN : k < m
      · have ltN : (k : Int) < (m : Int) := by omega
        by_cases hD : k < n
        · have ltD : (k : Int) < (n : Int) := by omega
          obtain ⟨a, hak⟩ : ∃ a, N[k]? = some a := ⟨_, List.getElem?_eq_getElem (by rw [HN.out]; exact hN)⟩
          obtain ⟨bs, os, rfl, hbs, hcs⟩ := str_cell (Hin2.out.below HB.out) hak
          obtain ⟨X, hX⟩ : ∃ X : ByteArray, (⟨a.toArray⟩ : ByteArray) = X := ⟨_, rfl⟩
          rw [hX] at hcs
          have hXl : X.data.toList = a := by rw [← hX]
          have hXs : X.size = a.length := by rw [← data_len, hXl]
          have HXl := Lib.hid hXl
          have HAK := Lib.hid hak
          have HXs := Lib.hid hXs
          clear hX hXl hak
          by_cases h200 : 200 < X.size
          · have hI3 : (200 : Int) < (X.size : Int) := by omega
            go_wp2
            go_ret
            exact ⟨rfl, HB.out⟩
          · have hI3 : (X.size : Int) ≤ (200 : Int) := by omega
            have hXb : X.size ≤ 200 := by omega
            clear h200
            go_wp2
            go_loop [8] (fun i => ∃ j : Nat, j ≤ X.size ∧ i = .int .i64 j ∧ ∀ c ∈ X.data.toList.take j, c ≠ 10) (fun i => X.size - (intOf i).toNat)
            case atStart => exact ⟨0, by omega, rfl, by simp⟩
            case round =>
              obtain ⟨j, hj, rfl, hno⟩ := hrel
              by_cases hlt : j < X.size
              · obtain ⟨c, hc⟩ : ∃ c, X[j] = c := ⟨_, rfl⟩
                have jI : (j : Int) < (X.size : Int) := by omega
                by_cases h10 : c = 10
                · subst h10
                  have e10 : (((10 : UInt8).toNat : Int) == 10) = true := by decide
                  clear hno
                  go_wp2
                  go_ret
                  exact ⟨rfl, HB.out⟩
                · have e10 : ((c.toNat : Int) == 10) = false := by
                    rw [beq_eq_false_iff_ne]
                    intro h
                    exact h10 (UInt8.toNat_inj.1 (by simpa using (by omega : c.toNat = 10)))
                  have HNX : Hid (∀ x ∈ X.data.toList.take (j + 1), x ≠ 10) := Lib.hid (by
                    rw [data_take_succ X j hlt, hc]
                    intro x hx
                    rcases List.mem_append.1 hx with hx | hx
                    · exact hno x hx
                    · rw [List.mem_singleton.1 hx]; exact h10)
                  clear hno h10
                  go_wp2
                  go_round
                  case rel => exact ⟨j + 1, by omega, by go_num, HNX.out⟩
                  case measure => simp [intOf]; omega
              · obtain rfl : j = X.size := by omega
                have hok : noteOk a := ⟨by rw [← HXs.out]; exact hXb, by
                  rw [List.take_of_length_le (by rw [data_len]; exact Nat.le_refl _), HXl.out] at hno
                  exact hno⟩
                have HOK := Lib.hid hok
                clear hno hok hlt
                obtain ⟨d, hdk⟩ : ∃ d, L[k]? = some d := ⟨_, List.getElem?_eq_getElem (by rw [HL.out]; exact hD)⟩
                obtain ⟨b, off, cs, rfl, hbl, hr, hc⟩ := deed_at (Hin.out.below HB.out) (HR.out.below HB.out) hdk
                obtain ⟨AB, nB, cB, AC, nC, cC, AK, nK, cK, rfl, s1, s2, s3⟩ := hr
                have h8 : At8 w0 b (off + k * 8) d (.slice AB nB cB) (.slice AC nC cC) (.slice AK nK cK) := deed_cells hc
                have H8 := Lib.hid h8
                have hdi := HI.out d (List.mem_of_getElem? hdk)
                have lB : d.b.length = nB := by have := s1.1; rw [bytesV_length] at this; omega
                have lC : d.calls.length = nC := by have := s2.1; rw [intsV_length] at this; omega
                have lK : d.keep.length = nK := by have := s3.1; rw [boolsV_length] at this; omega
                have SM := Lib.hid (fun w => small27_any d AB AC AK nB cB nC cC nK cK w lB lC lK)
                rw [c8] at SM
                have hbl0 : b < w0.heap.size := by omega
                obtain ⟨sm, hsm⟩ : ∃ s, smallD d = s := ⟨_, rfl⟩
                rw [hsm] at SM
                have S1 := Lib.hid (s1.more hws)
                have S2 := Lib.hid (s2.more hws)
                have S3 := Lib.hid (s3.more hws)
                have HDK := Lib.hid hdk
                have HDI := Lib.hid hdi
                obtain ⟨a0, a1, a2, a3, a4, a5, a6, a7⟩ := h8
                clear lB lC lK s1 s2 s3 hc hdk hdi
                cases sm with
                | false =>
                  clear hsm
                  go_wp2_with (go_at_call 26; refine (SM.out _).mono ?_; rintro e w3 ⟨rfl, hb3⟩)
                  go_ret
                  exact ⟨rfl, HB.out.trans (hb3.mono hws)⟩
                | true =>
                  have hdn := small_N hsm HDI.out
                  have hpl := small_line hsm HDI.out
                  have HSM := Lib.hid hsm
                  have RR := Lib.hid (fun (W : World) (hW : Below w0.heap.size w0 W) => refRight27_any d AB AC AK nB cB nC cC nK cK W ((S1.out.below hW).more hW.size) ((S2.out.below hW).more hW.size) ((S3.out.below hW).more hW.size) hdn)
                  have PX := Lib.hid (fun (W : World) (hW : Below w0.heap.size w0 W) => refPrint27_any d AB AC AK nB cB nC cC nK cK W ((S1.out.below hW).more hW.size) ((S2.out.below hW).more hW.size) ((S3.out.below hW).more hW.size) hdn)
                  rw [c8] at RR PX
                  obtain ⟨rd, hrd⟩ : ∃ r, rightD d = r := ⟨_, rfl⟩
                  rw [hrd] at RR
                  obtain ⟨Z, hZ⟩ : ∃ X : ByteArray, (⟨(printX d).toArray⟩ : ByteArray) = X := ⟨_, rfl⟩
                  rw [hZ] at PX
                  have hZs : Z.size ≤ 3780 := by have := printX_le d; rw [← hZ, size_mk]; omega
                  have HRD := Lib.hid hrd
                  have HZ := Lib.hid hZ
                  clear hsm hdn hpl hrd hZ
                  cases rd with
                  | false =>
                    go_wp2_with (first
                      | (go_at_call 26; refine (SM.out _).mono ?_; rintro e w3 ⟨rfl, hb3⟩; have B3 := Lib.hid hb3; obtain ⟨x0, x1, x2, x3, x4, x5, x6, x7⟩ := H8.out.below hb3 hbl0; clear hb3)
                      | (go_at_call 27; refine (RR.out _ B3.out).mono ?_; rintro e w4 ⟨rfl, hb4⟩; have B4 := Lib.hid (below_step B3.out hb4); clear hb4))
                    go_ret
                    exact ⟨rfl, HB.out.trans (B4.out.mono hws)⟩
                  | true =>
                    have hkd := right_kind HRD.out
                    have HZl : Hid (Z.data.toList = printD d) := Lib.hid (by rw [← HZ.out, ← printX_in hkd.1 hkd.2])
                    have HTN : Hid (((T ++ ((⟨#[35]⟩ : ByteArray) ++ X ++ (⟨#[10, 10]⟩ : ByteArray))) ++ (Z ++ (⟨#[10]⟩ : ByteArray))).data.toList ++ quietOf (N.drop (k + 1)) (L.drop (k + 1)) = quietOf N L) := Lib.hid (by
                      rw [← HT.out, quiet_nd HAK.out HDK.out]
                      simp [HZl.out, HXl.out])
                    clear hkd
                    go_wp2_with (first
                      | (go_at_call 26; refine (SM.out _).mono ?_; rintro e w3 ⟨rfl, hb3⟩; have B3 := Lib.hid hb3; obtain ⟨x0, x1, x2, x3, x4, x5, x6, x7⟩ := H8.out.below hb3 hbl0; clear hb3)
                      | (go_at_call 27; refine (RR.out _ B3.out).mono ?_; rintro e w4 ⟨rfl, hb4⟩; have B4 := Lib.hid (below_step B3.out hb4); obtain ⟨y0, y1, y2, y3, y4, y5, y6, y7⟩ := H8.out.below B4.out hbl0; clear hb4)
                      | (go_at_call 28; refine (PX.out _ B4.out).mono ?_; rintro e w5 ⟨rfl, hb5⟩; have B5 := Lib.hid (below_step B4.out hb5); clear hb5))
                    go_roundw
                    case rel => exact ⟨k + 1, _, by omega, by omega, by go_num, rfl, HTN.out, by simp only [ByteArray.size_append, mk_size]; simp; omega, by have := Hq.out; congr 1; omega, all_snoc HNA.out HAK.out HOK.out, all_snoc HDA.out HDK.out ⟨HSM.out, HRD.out⟩, HB.out.trans (B5.out.mono hws)⟩
                    case measure => simp [intOf]; omega
        · have geD : (n : Int) ≤ (k : Int) := by omega
          obtain ⟨a, hak⟩ : ∃ a, N[k]? = some a := ⟨_, List.getElem?_eq_getElem (by rw [HN.out]; exact hN)⟩
          obtain ⟨bs, os, rfl, hbs, hcs⟩ := str_cell (Hin2.out.below HB.out) hak
          obtain ⟨X, hX⟩ : ∃ X : ByteArray, (⟨a.toArray⟩ : ByteArray) = X := ⟨_, rfl⟩
          rw [hX] at hcs
          have hXl : X.data.toList = a := by rw [← hX]
          have hXs : X.size = a.length := by rw [← data_len, hXl]
          have HXl := Lib.hid hXl
          have HAK := Lib.hid hak
          have HXs := Lib.hid hXs
          clear hX hXl hak
          by_cases h200 : 200 < X.size
          · have hI3 : (200 : Int) < (X.size : Int) := by omega
            go_wp2
            go_ret
            exact ⟨rfl, HB.out⟩
          · have hI3 : (X.size : Int) ≤ (200 : Int) := by omega
            have hXb : X.size ≤ 200 := by omega
            clear h200
            go_wp2
            go_loop [8] (fun i => ∃ j : Nat, j ≤ X.size ∧ i = .int .i64 j ∧ ∀ c ∈ X.data.toList.take j, c ≠ 10) (fun i => X.size - (intOf i).toNat)
            case atStart => exact ⟨0, by omega, rfl, by simp⟩
            case round =>
              obtain ⟨j, hj, rfl, hno⟩ := hrel
              by_cases hlt : j < X.size
              · obtain ⟨c, hc⟩ : ∃ c, X[j] = c := ⟨_, rfl⟩
                have jI : (j : Int) < (X.size : Int) := by omega
                by_cases h10 : c = 10
                · subst h10
                  have e10 : (((10 : UInt8).toNat : Int) == 10) = true := by decide
                  clear hno
                  go_wp2
                  go_ret
                  exact ⟨rfl, HB.out⟩
                · have e10 : ((c.toNat : Int) == 10) = false := by
                    rw [beq_eq_false_iff_ne]
                    intro h
                    exact h10 (UInt8.toNat_inj.1 (by simpa using (by omega : c.toNat = 10)))
                  have HNX : Hid (∀ x ∈ X.data.toList.take (j + 1), x ≠ 10) := Lib.hid (by
                    rw [data_take_succ X j hlt, hc]
                    intro x hx
                    rcases List.mem_append.1 hx with hx | hx
                    · exact hno x hx
                    · rw [List.mem_singleton.1 hx]; exact h10)
                  clear hno h10
                  go_wp2
                  go_round
                  case rel => exact ⟨j + 1, by omega, by go_num, HNX.out⟩
                  case measure => simp [intOf]; omega
              · obtain rfl : j = X.size := by omega
                have hok : noteOk a := ⟨by rw [← HXs.out]; exact hXb, by
                  rw [List.take_of_length_le (by rw [data_len]; exact Nat.le_refl _), HXl.out] at hno
                  exact hno⟩
                have HOK := Lib.hid hok
                clear hno hok hlt
                have HTN : Hid ((T ++ ((⟨#[35]⟩ : ByteArray) ++ X ++ (⟨#[10, 10]⟩ : ByteArray))).data.toList ++ quietOf (N.drop (k + 1)) (L.drop (k + 1)) = quietOf N L) := Lib.hid (by
                  rw [← HT.out, quiet_n HAK.out (by rw [HL.out]; omega)]
                  simp [HXl.out])
                go_wp2
                go_roundw
                case rel => exact ⟨k + 1, _, by omega, by omega, by go_num, rfl, HTN.out, by simp only [ByteArray.size_append, mk_size]; simp; omega, by have := Hq.out; congr 1; omega, all_snoc HNA.out HAK.out HOK.out, all_past HDA.out (by rw [HL.out]; omega), HB.out⟩
                case measure => simp [intOf]; omega
      · have geN : (m : Int) ≤ (k : Int) := by omega
        by_cases hD : k < n
        · have ltD : (k : Int) < (n : Int) := by omega
          obtain ⟨d, hdk⟩ : ∃ d, L[k]? = some d := ⟨_, List.getElem?_eq_getElem (by rw [HL.out]; exact hD)⟩
          obtain ⟨b, off, cs, rfl, hbl, hr, hc⟩ := deed_at (Hin.out.below HB.out) (HR.out.below HB.out) hdk
          obtain ⟨AB, nB, cB, AC, nC, cC, AK, nK, cK, rfl, s1, s2, s3⟩ := hr
          have h8 : At8 w0 b (off + k * 8) d (.slice AB nB cB) (.slice AC nC cC) (.slice AK nK cK) := deed_cells hc
          have H8 := Lib.hid h8
          have hdi := HI.out d (List.mem_of_getElem? hdk)
          have lB : d.b.length = nB := by have := s1.1; rw [bytesV_length] at this; omega
          have lC : d.calls.length = nC := by have := s2.1; rw [intsV_length] at this; omega
          have lK : d.keep.length = nK := by have := s3.1; rw [boolsV_length] at this; omega
          have SM := Lib.hid (fun w => small27_any d AB AC AK nB cB nC cC nK cK w lB lC lK)
          rw [c8] at SM
          have hbl0 : b < w0.heap.size := by omega
          obtain ⟨sm, hsm⟩ : ∃ s, smallD d = s := ⟨_, rfl⟩
          rw [hsm] at SM
          have S1 := Lib.hid (s1.more hws)
          have S2 := Lib.hid (s2.more hws)
          have S3 := Lib.hid (s3.more hws)
          have HDK := Lib.hid hdk
          have HDI := Lib.hid hdi
          obtain ⟨a0, a1, a2, a3, a4, a5, a6, a7⟩ := h8
          clear lB lC lK s1 s2 s3 hc hdk hdi
          cases sm with
          | false =>
            clear hsm
            go_wp2_with (go_at_call 26; refine (SM.out _).mono ?_; rintro e w3 ⟨rfl, hb3⟩)
            go_ret
            exact ⟨rfl, HB.out.trans (hb3.mono hws)⟩
          | true =>
            have hdn := small_N hsm HDI.out
            have hpl := small_line hsm HDI.out
            have HSM := Lib.hid hsm
            have RR := Lib.hid (fun (W : World) (hW : Below w0.heap.size w0 W) => refRight27_any d AB AC AK nB cB nC cC nK cK W ((S1.out.below hW).more hW.size) ((S2.out.below hW).more hW.size) ((S3.out.below hW).more hW.size) hdn)
            have PX := Lib.hid (fun (W : World) (hW : Below w0.heap.size w0 W) => refPrint27_any d AB AC AK nB cB nC cC nK cK W ((S1.out.below hW).more hW.size) ((S2.out.below hW).more hW.size) ((S3.out.below hW).more hW.size) hdn)
            rw [c8] at RR PX
            obtain ⟨rd, hrd⟩ : ∃ r, rightD d = r := ⟨_, rfl⟩
            rw [hrd] at RR
            obtain ⟨Z, hZ⟩ : ∃ X : ByteArray, (⟨(printX d).toArray⟩ : ByteArray) = X := ⟨_, rfl⟩
            rw [hZ] at PX
            have hZs : Z.size ≤ 3780 := by have := printX_le d; rw [← hZ, size_mk]; omega
            have HRD := Lib.hid hrd
            have HZ := Lib.hid hZ
            clear hsm hdn hpl hrd hZ
            cases rd with
            | false =>
              go_wp2_with (first
                | (go_at_call 26; refine (SM.out _).mono ?_; rintro e w3 ⟨rfl, hb3⟩; have B3 := Lib.hid hb3; obtain ⟨x0, x1, x2, x3, x4, x5, x6, x7⟩ := H8.out.below hb3 hbl0; clear hb3)
                | (go_at_call 27; refine (RR.out _ B3.out).mono ?_; rintro e w4 ⟨rfl, hb4⟩; have B4 := Lib.hid (below_step B3.out hb4); clear hb4))
              go_ret
              exact ⟨rfl, HB.out.trans (B4.out.mono hws)⟩
            | true =>
              have hkd := right_kind HRD.out
              have HZl : Hid (Z.data.toList = printD d) := Lib.hid (by rw [← HZ.out, ← printX_in hkd.1 hkd.2])
              have HTN : Hid ((T ++ (Z ++ (⟨#[10]⟩ : ByteArray))).data.toList ++ quietOf (N.drop (k + 1)) (L.drop (k + 1)) = quietOf N L) := Lib.hid (by
                rw [← HT.out, quiet_d (by rw [HN.out]; omega) HDK.out]
                simp [HZl.out])
              clear hkd
              go_wp2_with (first
                | (go_at_call 26; refine (SM.out _).mono ?_; rintro e w3 ⟨rfl, hb3⟩; have B3 := Lib.hid hb3; obtain ⟨x0, x1, x2, x3, x4, x5, x6, x7⟩ := H8.out.below hb3 hbl0; clear hb3)
                | (go_at_call 27; refine (RR.out _ B3.out).mono ?_; rintro e w4 ⟨rfl, hb4⟩; have B4 := Lib.hid (below_step B3.out hb4); obtain ⟨y0, y1, y2, y3, y4, y5, y6, y7⟩ := H8.out.below B4.out hbl0; clear hb4)
                | (go_at_call 28; refine (PX.out _ B4.out).mono ?_; rintro e w5 ⟨rfl, hb5⟩; have B5 := Lib.hid (below_step B4.out hb5); clear hb5))
              go_roundw
              case rel => exact ⟨k + 1, _, by omega, by omega, by go_num, rfl, HTN.out, by simp only [ByteArray.size_append, mk_size]; simp; omega, by have := Hq.out; congr 1; omega, all_past HNA.out (by rw [HN.out]; omega), all_snoc HDA.out HDK.out ⟨HSM.out, HRD.out⟩, HB.out.trans (B5.out.mono hws)⟩
              case measure => simp [intOf]; omega
        · have geD : (n : Int) ≤ (k : Int) := by omega
          have hq : q = 2 * m + n := by have := Hq.out; omega
          have hT := HT.out
          rw [quiet_end (by rw [HN.out]; omega) (by rw [HL.out]; omega), List.append_nil] at hT
          have hna := HNA.out
          have hda := HDA.out
          rw [List.take_of_length_le (by rw [HN.out]; omega)] at hna
          rw [List.take_of_length_le (by rw [HL.out]; omega)] at hda
          have hlen : (quietOf N L).length ≤ 100000 := by rw [← hT, data_len]; omega
          have SP := fun w => sParse_any T (by omega) w
          rw [hT, quiet_print (fun a ha => (hna a ha).2) (fun d hd => right_ok (hda d hd).2 (HI.out d hd)) (by rw [HL.out]; omega) (by omega), HN.out, HL.out] at SP
          simp only at SP
          rw [← hq] at SP
          replace SP := Lib.hid SP
          have hds : ∀ d ∈ L, DeedS d := fun d hd => by
            have h := small_N (hda d hd).1 (HI.out d hd)
            exact ⟨by have := h.lc; omega, by have := h.lk; omega⟩
          have SA := Lib.hid (fun (W : World) (A1 : Option Addr) (c1 : Nat) (V1 : List Value) (h1 : SliceIn W W.heap.size 8 A1 n c1 V1) (r1 : DeedsR W W.heap.size L V1) (hW : Below w.heap.size w W) =>
            refSames27_any A1 A n c1 c L V1 V W h1 r1 ((Hin.out.below hW).more hW.size) ((HR.out.below hW).more hW.size) (by omega) hds)
          clear hq hT hna hda hlen hds hN hD
          go_wp2_with (first
            | (go_at_call 23; refine (SP.out _).mono ?_; rintro e w5 ⟨v5, V5, rfl, ho5, hv5, hb5⟩; have B5 := Lib.hid (HB.out.trans (hb5.mono hws)); obtain ⟨A5, c5, rfl, hs5⟩ := own_slice ho5; have Q5 := Lib.hid (SA.out w5 A5 c5 V5 hs5 (DeedsV.read hv5) B5.out); clear ho5 hv5 hs5 hb5)
            | (go_at_call 25; refine Q5.out.mono ?_; rintro e w6 ⟨rfl, hb6⟩; have B6 := Lib.hid (B5.out.trans (hb6.mono B5.out.size)); clear hb6))
          go_ret
          exact ⟨ret_bool (by simp), B6.out⟩
end Go.Proofs.Ytmcioedmjcbfbaa
