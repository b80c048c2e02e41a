/- Walk of layer 27: the document's reading of a script. Condition: texts within 10^8 octets. -/
import Derived.Test.YtmcioedmjcbfbaaScr22
namespace Go.Proofs.Ytmcioedmjcbfbaa
open Go.RowKit IH
set_option maxRecDepth 100000
theorem extract_mid {s : ByteArray} {l : List UInt8} {f j : Nat} (h : s.data.toList.drop f = l ++ s.data.toList.drop j) (hl : l.length = j - f) : (s.extract f j).data.toList = l := by
  rw [Lib.extract_data]
  first
    | (rw [h, ← hl, List.take_left' rfl]; done)
    | (rw [List.drop_take, h, ← hl, List.take_left' rfl])
set_option maxHeartbeats 16000000 in
theorem refParse27_any (s : ByteArray) (hs : s.size ≤ 100000000) (w : World) :
    Calls Try.prog 24 #[.string s] w fun e w' => ∃ v V, e = .returned (.tuple #[v, .int .i64 (scriptL s.data.toList).2.1, .int .i64 (scriptL s.data.toList).2.2]) ∧ w'.ownsRow w.heap.size 53 8 v (scriptL s.data.toList).1.length V ∧ DeedsV w' w.heap.size (scriptL s.data.toList).1 V ∧ Below w.heap.size w w' := by
  obtain ⟨U, hU⟩ : ∃ U, scriptL s.data.toList = U := ⟨_, rfl⟩
  rw [hU]
  unfold scriptL at hU
  rw [data_len] at hU
  by_cases hbig : 1048576 < s.size
  · rw [if_pos hbig] at hU
    subst hU
    go_enter Try.func24, Try.ntmps24
    go_wp2
    go_ret3
    exact ⟨_, [], rfl, World.ownsRow_nil _ _ _ _, rfl, Below.refl _ _⟩
  · rw [if_neg hbig] at hU
    have HU0 := Lib.hid hU.symm
    obtain ⟨g0, hg0⟩ : ∃ g0, w.heap.size = g0 := ⟨_, rfl⟩
    rw [hg0]
    have hs' : s.size ≤ 1048576 := by omega
    clear hU hbig hs
    go_enter Try.func24, Try.ntmps24
    go_wp2
    go_loopw [5, 6, 7, 8] (fun out fr n i wr => ∃ (f k j : Nat) (ds : List Deed) (V : List Value) (l : List UInt8), fr = .int .i64 f ∧ n = .int .i64 k ∧ i = .int .i64 j ∧ f ≤ j ∧ j ≤ s.size ∧ k ≤ j ∧ ds.length ≤ 10000 ∧
      U = scriptF (s.size - f + 1) (s.data.toList.drop f) ds k ∧ s.data.toList.drop f = l ++ s.data.toList.drop j ∧ l.length = j - f ∧ (∀ c ∈ l, c ≠ 10) ∧ wr.ownsRow g0 53 8 out ds.length V ∧ DeedsV wr g0 ds V ∧ Below g0 w wr) (fun _ _ _ i _ => s.size - (intOf i).toNat)
    case atStart => exact ⟨0, 0, 0, [], [], [], rfl, rfl, rfl, by omega, by omega, by omega, by simp, HU0.out, rfl, rfl, by simp, World.ownsRow_nil _ _ _ _, rfl, Below.refl _ _⟩
    case round =>
      obtain ⟨w0, rfl⟩ : ∃ w0 : World, w0 = wr := ⟨_, rfl⟩
      obtain ⟨f, k, j, ds, V, l, rfl, rfl, rfl, hfj, hj, hkj, hds, hat, hsp, hll, hno, hrow, hdv, hbel⟩ := hrel
      have HO := Lib.hid hrow
      have HV := Lib.hid hdv
      have HB := Lib.hid hbel
      have HNO := Lib.hid hno
      have HSP := Lib.hid hsp
      have HLL := Lib.hid hll
      have hgs : g0 ≤ w0.heap.size := by rw [← hg0]; exact hbel.size
      clear hrow hdv hbel HU0 hno hsp hll
      by_cases hlt : j < s.size
      · obtain ⟨c, hc⟩ : ∃ c, s[j] = c := ⟨_, rfl⟩
        have hdj : s.data.toList.drop j = c :: s.data.toList.drop (j + 1) := by rw [← hc]; exact data_drop s j hlt
        have HDJ := Lib.hid hdj
        clear hdj
        by_cases h10 : c = 10
        · subst h10
          have hcut : cutLF (s.data.toList.drop f) = some (l, s.data.toList.drop (j + 1)) := by
            rw [HSP.out, HDJ.out]
            exact cutLF_of HNO.out _
          have hne : s.data.toList.drop f ≠ [] := by rw [HSP.out, HDJ.out]; simp
          have hlen : (s.data.toList.drop (j + 1)).length = s.size - (j + 1) := by rw [List.length_drop, data_len]
          unfold scriptF at hat
          rw [if_neg hne, hcut] at hat
          simp only at hat
          have hmore : ∀ ds k, scriptF (s.size - f) (s.data.toList.drop (j + 1)) ds k = scriptF (s.size - (j + 1) + 1) (s.data.toList.drop (j + 1)) ds k := fun ds k => scriptF_more _ _ _ _ _ (by omega) (by omega)
          have hnx : s.data.toList.drop (j + 1) = [] ++ s.data.toList.drop (j + 1) := rfl
          have e10 : ((10 : UInt8).toNat : Int) = 10 := rfl
          obtain ⟨X, hX⟩ : ∃ X : ByteArray, s.extract f j = X := ⟨_, rfl⟩
          have hXl : X.data.toList = l := by rw [← hX]; exact extract_mid HSP.out HLL.out
          have hXs : X.size = l.length := by rw [← data_len, hXl]
          have hXb : X.size ≤ 1048576 := by have := HLL.out; omega
          have HX := Lib.hid hX
          have HXl := Lib.hid hXl
          have hk1 : k + 1 ≤ j + 1 := by omega
          have hfjI : (f : Int) ≤ (j : Int) := by omega
          have hjI : (j : Int) < (s.size : Int) := by omega
          clear hcut hne hlen
          by_cases hq : quiet l = true
          · rw [if_pos hq, hmore] at hat
            have HU := Lib.hid hat
            clear hat hmore
            cases hl0 : l with
            | nil =>
              have hXe : X = ⟨#[]⟩ := bytes_inj (by rw [hXl, hl0])
              subst hXe
              clear hl0 hq hXl HXl hXs
              go_wp2
              go_roundw
              case rel => exact ⟨j + 1, k + 1, j + 1, ds, V, [], by go_num, by go_num, by go_num, by omega, by omega, by omega, hds, HU.out, rfl, by simp, by simp, HO.out, HV.out, HB.out⟩
              case measure => simp [intOf]; omega
            | cons c' l' =>
              have h0 : 0 < X.size := by rw [hXs, hl0]; simp
              have hat0 : X[0] = c' := by
                have h3 := get_data X 0 h0
                rw [hXl, hl0] at h3
                exact (Option.some.inj h3).symm
              have hne2 : (X.toList == []) = false := by rw [beq_eq_false_iff_ne, ByteArray.toList_eq, hXl, hl0]; simp
              rw [hl0] at hq
              have hc35 : c' = 35 := by simpa [quiet] using hq
              subst hc35
              have e35 : (((35 : UInt8).toNat : Int) == 35) = true := by decide
              clear hl0 hq hXl HXl hXs
              go_wp2
              go_roundw
              case rel => exact ⟨j + 1, k + 1, j + 1, ds, V, [], by go_num, by go_num, by go_num, by omega, by omega, by omega, hds, HU.out, rfl, by simp, by simp, HO.out, HV.out, HB.out⟩
              case measure => simp [intOf]; omega
          · rw [if_neg hq] at hat
            have hP := fun w => refLine_any X (by omega) w
            rw [hXl] at hP
            cases hl0 : l with
            | nil => rw [hl0] at hq; exact absurd rfl hq
            | cons c' l' =>
              have h0 : 0 < X.size := by rw [hXs, hl0]; simp
              have hat0 : X[0] = c' := by
                have h3 := get_data X 0 h0
                rw [hXl, hl0] at h3
                exact (Option.some.inj h3).symm
              have hne2 : (X.toList == []) = false := by rw [beq_eq_false_iff_ne, ByteArray.toList_eq, hXl, hl0]; simp
              rw [hl0] at hq
              have hc35 : c' ≠ 35 := by simpa [quiet] using hq
              have e35 : ((c'.toNat : Int) == 35) = false := by
                rw [beq_eq_false_iff_ne]
                intro h
                exact hc35 (UInt8.toNat_inj.1 (by simpa using (by omega : c'.toNat = 35)))
              obtain ⟨D, hD⟩ : ∃ D, lineD l = D := ⟨_, rfl⟩
              rw [hD] at hP hat
              replace hP := Lib.hid hP
              clear hl0 hq hXl HXl hXs hc35 hD
              cases D with
              | none =>
                simp only at hat
                have HU := Lib.hid hat
                clear hat hmore
                go_wp2_with (go_at_call 38; refine (hP.out _).mono ?_; rintro e w3 ⟨⟨vB, vC, vK, he, ho⟩, hb3⟩; obtain ⟨AB, qB, rfl, _⟩ := own_slice ho.b; obtain ⟨AC, qC, rfl, _⟩ := own_slice ho.c; obtain ⟨AK, qK, rfl, _⟩ := own_slice ho.k; simp only [c8, Option.getD_none, Option.isSome_none, Deed.of] at he; subst he)
                go_ret3
                rw [HU.out]
                exact ⟨_, [], rfl, World.ownsRow_nil _ _ _ _, rfl, HB.out.trans ((hb3.mono hgs).alloc (by have := hb3.size; omega) _)⟩
              | some d =>
                simp only at hat
                by_cases hmany : ds.length = 10000
                · rw [if_pos hmany] at hat
                  have HU := Lib.hid hat
                  clear hat hmore
                  have e5 : (10000 : Int) ≤ (ds.length : Int) := by omega
                  obtain ⟨Ao, co, rfl, _⟩ := own_slice HO.out
                  go_wp2_with (go_at_call 38; refine (hP.out _).mono ?_; rintro e w3 ⟨⟨vB, vC, vK, he, ho⟩, hb3⟩; obtain ⟨AB, qB, rfl, _⟩ := own_slice ho.b; obtain ⟨AC, qC, rfl, _⟩ := own_slice ho.c; obtain ⟨AK, qK, rfl, _⟩ := own_slice ho.k; simp only [c8, Option.getD_some, Option.isSome_some] at he; subst he)
                  go_ret3
                  rw [HU.out]
                  exact ⟨_, [], rfl, World.ownsRow_nil _ _ _ _, rfl, HB.out.trans ((hb3.mono hgs).alloc (by have := hb3.size; omega) _)⟩
                · rw [if_neg hmany, hmore] at hat
                  have HU := Lib.hid hat
                  clear hat hmore
                  have e5 : (ds.length : Int) < (10000 : Int) := by omega
                  obtain ⟨Ao, co, rfl, _⟩ := own_slice HO.out
                  go_wp2_with (first
                    | (go_at_call 38; refine (hP.out _).mono ?_; rintro e w3 ⟨⟨vB, vC, vK, he, ho⟩, hb3⟩; obtain ⟨AB, qB, rfl, _⟩ := own_slice ho.b; obtain ⟨AC, qC, rfl, _⟩ := own_slice ho.c; obtain ⟨AK, qK, rfl, _⟩ := own_slice ho.k; simp only [c8, Option.getD_some, Option.isSome_some] at he ho; subst he; have HO3 := Lib.hid (own_below HO.out hb3); have HV3 := Lib.hid (DeedsV.keep (Kept3.below hb3) HV.out); have H3 := Lib.hid (ho.base (by omega : g0 ≤ w0.heap.size)); have HB3 := Lib.hid (HB.out.trans (hb3.mono hgs)); have h3s := hb3.size; clear ho hb3)
                    | (at_builtin; refine wpList_app2 deed_ty rfl _ _ rfl g0 _ _ _ rfl (HO3.out.alloc _) 1 1 (cells8 d _ _ _) _ rfl (by simp) (by rfl) H3.out.one (by omega) (by simp only [maxLen]; omega) (by simp; omega) ?_; intro v' w4 hown hgr))
                  go_roundw
                  case rel =>
                    have K4 := (Kept3.below ((Below.refl w3.heap.size w3).alloc (Nat.le_refl _) _)).trans (Kept3.grown hgr fun q hq => by
                      obtain ⟨cur, h5, _⟩ := own_block (HO3.out.alloc _) q hq
                      exact ⟨cur, _, h5, by decide⟩)
                    refine ⟨j + 1, k + 1, j + 1, ds ++ [d], V ++ cells8 d _ _ _, [], by go_num, by go_num, by go_num, by omega, by omega, by omega, by rw [List.length_append]; simp; omega, HU.out, rfl, by simp, by simp, by rw [List.length_append]; exact hown, DeedsV.snoc (H3.out.keep K4) (DeedsV.keep K4 HV3.out), ?_⟩
                    exact (HB3.out.alloc (by omega) _).grown hgr (by simp; omega) fun q hq => (own_block HO3.out q hq).choose_spec.2
                  case measure => simp [intOf]; omega
        · have hn10 : ((c.toNat : Int) != 10) = true := by
            rw [bne_iff_ne]
            intro h
            exact h10 (UInt8.toNat_inj.1 (by simpa using (by omega : c.toNat = 10)))
          have hn10' : ((c.toNat : Int) == 10) = false := by
            rw [beq_eq_false_iff_ne]
            intro h
            exact h10 (UInt8.toNat_inj.1 (by simpa using (by omega : c.toNat = 10)))
          have HN : Hid (s.data.toList.drop f = (l ++ [c]) ++ s.data.toList.drop (j + 1)) := Lib.hid (by rw [HSP.out, HDJ.out]; simp)
          have HM : Hid (∀ x ∈ l ++ [c], x ≠ 10) := Lib.hid (by
            intro x hx
            rcases List.mem_append.1 hx with hx | hx
            · exact HNO.out x hx
            · rw [List.mem_singleton.1 hx]; exact h10)
          have HL2 : Hid ((l ++ [c]).length = j + 1 - f) := Lib.hid (by rw [List.length_append, HLL.out]; simp; omega)
          have HAT := Lib.hid hat
          clear hat h10
          go_wp2
          go_roundw
          case rel => exact ⟨f, k, j + 1, ds, V, l ++ [c], rfl, rfl, by go_num, by omega, by omega, by omega, hds, HAT.out, HN.out, HL2.out, HM.out, HO.out, HV.out, HB.out⟩
          case measure => simp [intOf]; omega
      · obtain rfl : j = s.size := by omega
        have hdr : s.data.toList.drop s.size = [] := List.drop_eq_nil_of_le (by rw [data_len]; exact Nat.le_refl _)
        have hsp := HSP.out
        rw [hdr, List.append_nil] at hsp
        clear hlt hdr
        by_cases hf : f < s.size
        · have hne : s.data.toList.drop f ≠ [] := by
            intro h
            have := congrArg List.length h
            rw [List.length_drop, data_len] at this
            simp at this
            omega
          unfold scriptF at hat
          rw [if_neg hne, cutLF_none.2 (by rw [hsp]; exact HNO.out)] at hat
          simp only at hat
          have HU := Lib.hid hat
          have hfI : (f : Int) < (s.size : Int) := by omega
          clear hat hne hsp
          go_wp2
          go_ret3
          rw [HU.out]
          exact ⟨_, [], rfl, World.ownsRow_nil _ _ _ _, rfl, HB.out⟩
        · obtain rfl : f = s.size := by omega
          have hl0 : l = [] := List.eq_nil_of_length_eq_zero (by rw [HLL.out]; omega)
          unfold scriptF at hat
          rw [if_pos (by rw [hsp, hl0])] at hat
          have HU := Lib.hid hat
          clear hat hsp hl0
          go_wp2
          go_ret3
          rw [HU.out]
          exact ⟨_, V, rfl, HO.out, HV.out, HB.out⟩
end Go.Proofs.Ytmcioedmjcbfbaa
