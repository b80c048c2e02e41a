/- Walk of layer 28: lines, read by the document. Condition: texts within 10^8 octets. -/
import Derived.Test.YtaddefjkjlkjnaaDoorAcc19
import Derived.Test.YtaddefjkjlkjnaaDoorAcc20
namespace Go.Proofs.YtaddefjkjlkjnaaDoor
open Go.RowKit IH
set_option maxRecDepth 100000
theorem extract_mid28 {s : ByteArray} {l : List UInt8} {f j : Nat} (h : s.data.toList.drop f = l ++ s.data.toList.drop j) (hl : l.length = j - f) : (s.extract f j).data.toList = l := by
  rw [Lib.extract_data]
  first
    | (rw [h, ← hl, List.take_left' rfl]; done)
    | (rw [List.drop_take, h, ← hl, List.take_left' rfl])
set_option maxHeartbeats 16000000 in
theorem refParse28_any (s : ByteArray) (hs : s.size ≤ 100000000) (w : World) :
    Calls Tryd.prog 33 #[.string s] w fun e w' => ∃ v, e = .returned (.tuple #[v, .int .i64 (readL one28 s.data.toList).2.1, .int .i64 (readL one28 s.data.toList).2.2]) ∧ w'.ownsRow w.heap.size 48 9 v (readL one28 s.data.toList).1.length (toldsV (readL one28 s.data.toList).1) ∧ Below w.heap.size w w' := by
  obtain ⟨U, hU⟩ : ∃ U, readL one28 s.data.toList = U := ⟨_, rfl⟩
  rw [hU]
  unfold readL at hU
  rw [data_len] at hU
  by_cases hbig : 1048576 < s.size
  · rw [if_pos hbig] at hU
    subst hU
    go_enter Tryd.func33, Tryd.ntmps33
    go_wp2
    go_ret3
    exact ⟨_, rfl, World.ownsRow_nil _ _ _ _, Below.refl _ _⟩
  · rw [if_neg hbig] at hU
    have HU0 := Lib.hid hU.symm
    obtain ⟨g0, hg0⟩ : ∃ g0, w.heap.size = g0 := ⟨_, rfl⟩
    rw [hg0]
    have hs' : s.size ≤ 1048576 := by omega
    clear hU hbig hs
    go_enter Tryd.func33, Tryd.ntmps33
    go_wp2
    go_loopw [5, 6, 7] (fun out fr i wr => ∃ (f j : Nat) (ts : List Reply) (l : List UInt8), fr = .int .i64 f ∧ i = .int .i64 j ∧ f ≤ j ∧ j ≤ s.size ∧ ts.length ≤ 10000 ∧
      U = readF one28 (s.size - f + 1) (s.data.toList.drop f) ts ∧ s.data.toList.drop f = l ++ s.data.toList.drop j ∧ l.length = j - f ∧ (∀ c ∈ l, c ≠ 10) ∧ wr.ownsRow g0 48 9 out ts.length (toldsV ts) ∧ Below g0 w wr) (fun _ _ i _ => s.size - (intOf i).toNat)
    case atStart => exact ⟨0, 0, [], [], rfl, rfl, by omega, by omega, by simp, HU0.out, rfl, rfl, by simp, World.ownsRow_nil _ _ _ _, Below.refl _ _⟩
    case round =>
      obtain ⟨w0, rfl⟩ : ∃ w0 : World, w0 = wr := ⟨_, rfl⟩
      obtain ⟨f, j, ts, l, rfl, rfl, hfj, hj, hts, hat, hsp, hll, hno, hrow, hbel⟩ := hrel
      obtain ⟨m, hm⟩ : ∃ m, ts.length = m := ⟨_, rfl⟩
      rw [hm] at hrow
      have HO := Lib.hid hrow
      have HB := Lib.hid hbel
      have HNO := Lib.hid hno
      have HSP := Lib.hid hsp
      have HLL := Lib.hid hll
      have HM := Lib.hid hm
      have hgs : g0 ≤ w0.heap.size := by rw [← hg0]; exact hbel.size
      have hm1 : m ≤ 10000 := by omega
      clear hrow hbel HU0 hno hsp hll
      by_cases hlt : j < s.size
      · obtain ⟨c, hc⟩ : ∃ c, s[j] = c := ⟨_, rfl⟩
        have hdj : s.data.toList.drop j = c :: s.data.toList.drop (j + 1) := by rw [← hc]; exact data_drop s j hlt
        have HDJ := Lib.hid hdj
        clear hdj
        by_cases h10 : c = 10
        · subst h10
          have hcut : cutLF (s.data.toList.drop f) = some (l, s.data.toList.drop (j + 1)) := by
            rw [HSP.out, HDJ.out]
            exact cutLF_of HNO.out _
          have hne : s.data.toList.drop f ≠ [] := by rw [HSP.out, HDJ.out]; simp
          have hlen : (s.data.toList.drop (j + 1)).length = s.size - (j + 1) := by rw [List.length_drop, data_len]
          unfold readF at hat
          rw [if_neg hne, hcut, hm] at hat
          simp only at hat
          have hmore : ∀ ts, readF one28 (s.size - f) (s.data.toList.drop (j + 1)) ts = readF one28 (s.size - (j + 1) + 1) (s.data.toList.drop (j + 1)) ts := fun ts => readF_more one28 _ _ _ _ (by omega) (by omega)
          have hnx : s.data.toList.drop (j + 1) = [] ++ s.data.toList.drop (j + 1) := rfl
          have e10 : ((10 : UInt8).toNat : Int) = 10 := rfl
          obtain ⟨X, hX⟩ : ∃ X : ByteArray, s.extract f j = X := ⟨_, rfl⟩
          have hXl : X.data.toList = l := by rw [← hX]; exact extract_mid28 HSP.out HLL.out
          have hXs : X.size = l.length := by rw [← data_len, hXl]
          have hXb : X.size ≤ 1048576 := by have := HLL.out; omega
          have hfjI : (f : Int) ≤ (j : Int) := by omega
          have hjI : (j : Int) < (s.size : Int) := by omega
          have hP := fun w => refOne28_any X (by omega) w
          rw [hXl] at hP
          obtain ⟨D, hD⟩ : ∃ D, one28 l = D := ⟨_, rfl⟩
          rw [hD] at hP hat
          replace hP := Lib.hid hP
          clear hcut hne hlen hXl hXs hD
          have HX := Lib.hid hX
          cases D with
          | none =>
            simp only at hat
            have HU := Lib.hid hat
            obtain ⟨Ao, co, rfl, _⟩ := own_slice HO.out
            clear hat hmore
            go_wp2_with (go_at_call 82; refine (hP.out _).mono ?_; rintro e w3 ⟨he, hb3⟩; simp only [Option.isSome_none, Option.getD_none, toldCells, zero28] at he; subst he; have B3 := Lib.hid (HB.out.trans (hb3.mono hgs)); have g3 := Nat.le_trans hgs hb3.size; clear hb3)
            go_ret3
            rw [HU.out]
            exact ⟨_, by first | rfl | (simp), World.ownsRow_nil _ _ _ _, B3.out.alloc g3 _⟩
          | some t =>
            simp only at hat
            by_cases hmany : 10000 ≤ m
            · rw [if_pos hmany] at hat
              have HU := Lib.hid hat
              clear hat hmore
              have e5 : (10000 : Int) ≤ (m : Int) := by omega
              obtain ⟨Ao, co, rfl, _⟩ := own_slice HO.out
              go_wp2_with (go_at_call 82; refine (hP.out _).mono ?_; rintro e w3 ⟨he, hb3⟩; simp only [Option.isSome_some, Option.getD_some, toldCells] at he; subst he; have B3 := Lib.hid (HB.out.trans (hb3.mono hgs)); have g3 := Nat.le_trans hgs hb3.size; clear hb3)
              go_ret3
              rw [HU.out]
              exact ⟨_, by first | rfl | (simp), World.ownsRow_nil _ _ _ _, B3.out.alloc g3 _⟩
            · rw [if_neg hmany, hmore] at hat
              have HU := Lib.hid hat
              clear hat hmore
              have e5 : (m : Int) < (10000 : Int) := by omega
              obtain ⟨Ao, co, rfl, _⟩ := own_slice HO.out
              go_wp2_with (first
                | (go_at_call 82; refine (hP.out _).mono ?_; rintro e w3 ⟨he, hb3⟩; simp only [Option.isSome_some, Option.getD_some, toldCells] at he; subst he; have HO3 := Lib.hid (own_below HO.out hb3); have B3 := Lib.hid (HB.out.trans (hb3.mono hgs)); have g3 := Nat.le_trans hgs hb3.size; clear hb3)
                | (at_builtin; refine wpList_app2 told_ty rfl _ _ rfl g0 _ _ _ rfl (HO3.out.alloc _) 1 1 (toldCells t) _ rfl (by simp) (by rfl) (told_one t) (by omega) (by simp only [maxLen]; omega) (by simp; omega) ?_; intro v' w4 hown hgr))
              go_roundw
              case rel =>
                refine ⟨j + 1, j + 1, ts ++ [t], [], by go_num, by go_num, by omega, by omega, by rw [List.length_append, hm]; simp; omega, HU.out, rfl, by simp, by simp, by rw [List.length_append, toldsV_snoc, hm]; exact hown, ?_⟩
                exact (B3.out.alloc g3 _).grown hgr (by simp; omega) fun q hq => (HO3.out.lt q hq).1
              case measure => simp [intOf]; omega
        · have hn10 : ((c.toNat : Int) != 10) = true := by
            rw [bne_iff_ne]
            intro h
            exact h10 (UInt8.toNat_inj.1 (by simpa using (by omega : c.toNat = 10)))
          have hn10' : ((c.toNat : Int) == 10) = false := by
            rw [beq_eq_false_iff_ne]
            intro h
            exact h10 (UInt8.toNat_inj.1 (by simpa using (by omega : c.toNat = 10)))
          have HN : Hid (s.data.toList.drop f = (l ++ [c]) ++ s.data.toList.drop (j + 1)) := Lib.hid (by rw [HSP.out, HDJ.out]; simp)
          have HM2 : Hid (∀ x ∈ l ++ [c], x ≠ 10) := Lib.hid (by
            intro x hx
            rcases List.mem_append.1 hx with hx | hx
            · exact HNO.out x hx
            · rw [List.mem_singleton.1 hx]; exact h10)
          have HL2 : Hid ((l ++ [c]).length = j + 1 - f) := Lib.hid (by rw [List.length_append, HLL.out]; simp; omega)
          have HAT := Lib.hid hat
          clear hat h10
          go_wp2
          go_roundw
          case rel => exact ⟨f, j + 1, ts, l ++ [c], rfl, by go_num, by omega, by omega, hts, HAT.out, HN.out, HL2.out, HM2.out, by rw [hm]; exact HO.out, HB.out⟩
          case measure => simp [intOf]; omega
      · obtain rfl : j = s.size := by omega
        have hdr : s.data.toList.drop s.size = [] := List.drop_eq_nil_of_le (by rw [data_len]; exact Nat.le_refl _)
        have hsp := HSP.out
        rw [hdr, List.append_nil] at hsp
        obtain ⟨Ao, co, rfl, _⟩ := own_slice HO.out
        clear hlt hdr
        by_cases hf : f < s.size
        · have hne : s.data.toList.drop f ≠ [] := by
            intro h
            have := congrArg List.length h
            rw [List.length_drop, data_len] at this
            simp at this
            omega
          unfold readF at hat
          rw [if_neg hne, cutLF_none.2 (by rw [hsp]; exact HNO.out), hm] at hat
          simp only at hat
          have HU := Lib.hid hat
          have hfI : (f : Int) < (s.size : Int) := by omega
          clear hat hne hsp
          go_wp2
          go_ret3
          rw [HU.out]
          exact ⟨_, by first | rfl | (simp), World.ownsRow_nil _ _ _ _, HB.out⟩
        · obtain rfl : f = s.size := by omega
          have hl0 : l = [] := List.eq_nil_of_length_eq_zero (by rw [HLL.out]; omega)
          unfold readF at hat
          rw [if_pos (by rw [hsp, hl0]), hm] at hat
          have HU := Lib.hid hat
          clear hat hsp hl0
          go_wp2
          go_ret3
          rw [HU.out]
          exact ⟨_, rfl, by rw [hm]; exact HO.out, HB.out⟩
end Go.Proofs.YtaddefjkjlkjnaaDoor
