/- Walk of layer 5: a path without dots, by the document. Condition: a path that begins with a slash, of at most 10^8 octets. -/
import Derived.Test.YtaddefjkjlkjnaaDoorTar5
namespace Go.Proofs.YtaddefjkjlkjnaaDoor
open Go.RowKit IH
set_option maxRecDepth 100000
theorem flat_take {O : List (List UInt8)} {x : List UInt8} : (flat (O ++ [x])).take (flat O).length = flat O := by rw [flat_snoc, List.take_left' rfl]
/-- The last slash of a flat path: where its last segment begins. -/
theorem flat_at {O : List (List UInt8)} {x : List UInt8} (hx : ∀ c ∈ x, c ≠ 47) (k : Nat) (c : UInt8) (hk : (flat (O ++ [x]))[k]? = some c) (hl : (flat O).length ≤ k) : c = 47 ↔ k = (flat O).length := by
  rw [flat_snoc, List.getElem?_append_right hl] at hk
  constructor
  · intro e
    subst e
    rcases Nat.lt_or_ge (flat O).length k with h | h
    · rw [show k - (flat O).length = (k - (flat O).length - 1) + 1 by omega, List.getElem?_cons_succ] at hk
      exact absurd rfl (hx _ (List.mem_of_getElem? hk))
    · omega
  · intro e
    rw [e, Nat.sub_self, List.getElem?_cons_zero] at hk
    exact (Option.some.inj hk).symm
/-- Segments without a slash. -/
def freeS (l : List (List UInt8)) : Prop := ∀ s ∈ l, ∀ c ∈ s, c ≠ 47
set_option maxHeartbeats 16000000 in
theorem dots_any (s : ByteArray) (hs : s.size ≤ 100000000) (hh : s.data.toList.head? = some 47) (w : World) :
    Calls Tryd.prog 176 #[.string s] w fun e w' => e = .returned (.string ⟨(segL s.data.toList).toArray⟩) ∧ Below w.heap.size w w' := by
  obtain ⟨l, hl0, hl1, hl2, hl3⟩ := path_flat hh
  have hseg : segL s.data.toList = flat (segGo l []) := by unfold segL; rw [hl1]
  rw [hseg]
  obtain ⟨X, hX⟩ : ∃ X, segGo l [] = X := ⟨_, rfl⟩
  rw [hX]
  have HX := Lib.hid hX
  have H2 := Lib.hid hl2
  have H3 : Hid (freeS l) := Lib.hid hl3
  clear hl1 hseg hh hX hl2 hl0 hl3
  go_enter Tryd.func176, Tryd.ntmps176
  go_wp2
  go_loopw [0, 3] (fun iv ov wr => ∃ (I T : ByteArray) (L O : List (List UInt8)), iv = .string I ∧ ov = .string T ∧ I.data.toList = flat L ∧ T.data.toList = flat O ∧ freeS L ∧ freeS O ∧ segGo L O = X ∧ I.size + T.size ≤ s.size ∧ Below w.heap.size w wr) (fun iv _ _ => match iv with | .string I => I.size | _ => 0)
  case atStart => exact ⟨s, ⟨#[]⟩, l, [], rfl, rfl, H2.out, rfl, H3.out, fun y hy => (by cases hy), HX.out, by show s.size + 0 ≤ _; omega, Below.refl _ _⟩
  case round =>
    obtain ⟨w0, rfl⟩ : ∃ w0 : World, w0 = wr := ⟨_, rfl⟩
    obtain ⟨I, T, L, O, rfl, rfl, hI, hT, hL, hO, hat, hsz, hbel⟩ := hrel
    have HI := Lib.hid hI
    have HT := Lib.hid hT
    have HFL := Lib.hid hL
    have HFO := Lib.hid hO
    have HB := Lib.hid hbel
    clear hT hL hO hbel
    cases L with
    | nil =>
      have hI0 : I = ⟨#[]⟩ := bytes_inj (by rw [hI]; rfl)
      have HXO : Hid (O = X) := Lib.hid hat
      subst hI0
      clear hI hat
      go_wp2
      go_ret
      exact ⟨ret_str (bytes_eq (by rw [HT.out, HXO.out])), HB.out⟩
    | cons x L =>
      have hne : (I.toList == []) = false := by rw [beq_eq_false_iff_ne, ByteArray.toList_eq, hI, flat_cons]; simp
      have hxf : ∀ c ∈ x, c ≠ 47 := HFL.out x (by simp)
      have hLf : freeS L := fun y hy => HFL.out y (by simp [hy])
      have hIs : I.size = 1 + x.length + (flat L).length := by rw [← data_len, hI, flat_cons]; simp; omega
      obtain ⟨E, hE⟩ : ∃ E, 1 + x.length = E := ⟨_, rfl⟩
      have hEI : E ≤ I.size := by omega
      have hend : ∀ k c, I.data.toList[k]? = some c → 1 ≤ k → k ≤ E → (c = 47 ↔ k = E) := by
        intro k c hk h1 h2
        rw [hI, flat_cons, show k = (k - 1) + 1 by omega, List.getElem?_cons_succ] at hk
        constructor
        · intro e
          subst e
          rcases Nat.lt_or_ge (k - 1) x.length with h | h
          · rw [List.getElem?_append_left h] at hk
            exact absurd rfl (hxf _ (List.mem_of_getElem? hk))
          · omega
        · intro e
          rw [List.getElem?_append_right (by omega), show k - 1 - x.length = 0 by omega] at hk
          cases L with
          | nil => simp [flat] at hk
          | cons y L => rw [flat_cons, List.getElem?_cons_zero] at hk; exact (Option.some.inj hk).symm
      have HEND := Lib.hid hend
      have Hxf := Lib.hid hxf
      have HLf := Lib.hid hLf
      obtain ⟨S, hS⟩ : ∃ S : ByteArray, I.extract 0 E = S := ⟨_, rfl⟩
      obtain ⟨R, hR⟩ : ∃ R : ByteArray, I.extract E I.size = R := ⟨_, rfl⟩
      have hSl : S.data.toList = 47 :: x := by
        rw [← hS, take_data I E hEI, hI, flat_cons, ← hE, Nat.add_comm, List.take_succ_cons, List.take_left' rfl]
      have hRl : R.data.toList = flat L := by
        rw [← hR, drop_data, hI, flat_cons, ← hE, Nat.add_comm, List.drop_succ_cons, List.drop_left' rfl]
      have hSs : S.size = E := by rw [← data_len, hSl, List.length_cons]; omega
      have hRs : R.size + E = I.size := by rw [← data_len, hRl]; omega
      have hRe : (R.toList == []) = decide (L = []) := by
        rw [ByteArray.toList_eq, hRl]
        cases L with
        | nil => rfl
        | cons y L => rw [flat_cons]; simp
      have e1 : (S.toList == [47, 46]) = decide (x = [46]) := by rw [ByteArray.toList_eq, hSl, Bool.eq_iff_iff, beq_iff_eq, decide_eq_true_eq]; simp
      have e2 : (S.toList == [47, 46, 46]) = decide (x = [46, 46]) := by rw [ByteArray.toList_eq, hSl, Bool.eq_iff_iff, beq_iff_eq, decide_eq_true_eq]; simp
      have E1 := Lib.hid e1
      have E2 := Lib.hid e2
      have ERe := Lib.hid hRe
      have HRl := Lib.hid hRl
      have HSl := Lib.hid hSl
      have HAT := Lib.hid hat
      have hE0 : 1 ≤ E := by omega
      have hRlt : R.size < I.size := by omega
      clear hne hxf hLf hend hSl hRl hRe e1 e2 hat hI hE hIs
      have hne : (I.toList == []) = false := by rw [beq_eq_false_iff_ne, ByteArray.toList_eq, HI.out, flat_cons]; simp
      go_upto_block 2 with fail
      go_cut [4] from 9 to 20 (fun s4 wx => s4 = .int .i64 E ∧ wx = w0)
      case first =>
        go_wp2_with fail
        go_loopw [4] (fun s4 wr => ∃ k : Nat, 1 ≤ k ∧ k ≤ E ∧ s4 = .int .i64 k ∧ wr = w0) (fun s4 _ => E - (intOf s4).toNat)
        case atStart => exact ⟨1, by omega, by omega, rfl, rfl⟩
        case round =>
          obtain ⟨k, h1, h2, rfl, rfl⟩ := hrel
          by_cases hkE : k = E
          · subst hkE
            by_cases hks : k < I.size
            · obtain ⟨c, hc⟩ : ∃ c, I[k] = c := ⟨_, rfl⟩
              have h47 : c = 47 := (HEND.out k c (by rw [get_data I k hks, hc]) h1 (Nat.le_refl _)).2 rfl
              subst h47
              have kI : (k : Int) < (I.size : Int) := by omega
              have e47 : (((47 : UInt8).toNat : Int) != 47) = false := by decide
              go_wp2_with fail
              go_meet
              exact ⟨rfl, rfl⟩
            · have kI : ¬ ((k : Int) < (I.size : Int)) := by omega
              go_wp2_with fail
              go_meet
              exact ⟨rfl, rfl⟩
          · have hks : k < I.size := by omega
            obtain ⟨c, hc⟩ : ∃ c, I[k] = c := ⟨_, rfl⟩
            have h47 : c ≠ 47 := fun e => hkE ((HEND.out k c (by rw [get_data I k hks, hc]) h1 h2).1 e)
            have kI : (k : Int) < (I.size : Int) := by omega
            have e47' : ((c.toNat : Int) == 47) = false := by rw [byteLit c 47 47 rfl, beq_eq_false_iff_ne]; intro h; exact h47 (UInt8.toNat_inj.1 h)
            have e47 : ((c.toNat : Int) != 47) = true := by rw [bne, e47']; rfl
            clear h47
            go_wp2_with fail
            go_roundw
            case rel => exact ⟨k + 1, by omega, by omega, by go_num, by first | rfl | trivial⟩
            case measure => simp [intOf]; omega
      case rest =>
        obtain ⟨rfl, rfl⟩ := hcut
        have EI : (E : Int) ≤ (I.size : Int) := by omega
        have E0I : (0 : Int) ≤ (E : Int) := by omega
        by_cases hdd : x = [46, 46]
        · have e1 : (S.toList == [47, 46]) = false := by rw [E1.out]; exact decide_eq_false (by rw [hdd]; simp)
          have e2 : (S.toList == [47, 46, 46]) = true := by rw [E2.out]; exact decide_eq_true hdd
          have HGo : Hid (segGo (x :: L) O = if L = [] then O.dropLast ++ [[]] else segGo L O.dropLast) := Lib.hid (by rw [seg_dots x _ _ (by rw [hdd]; rfl), if_pos hdd])
          have HOD : Hid (freeS O.dropLast) := Lib.hid (fun y hy => HFO.out y ((List.dropLast_sublist O).subset hy))
          obtain ⟨q, hq⟩ : ∃ q : Nat, (if O = [] then 0 else (flat O.dropLast).length + 1) = q := ⟨_, rfl⟩
          have HQ := Lib.hid hq
          clear hdd hq
          have HTL : Hid (T.size = (flat O).length) := Lib.hid (by rw [← data_len, HT.out])
          go_upto_block 4 with fail
          go_cut [6] from 37 to 47 (fun s6 wx => s6 = .int .i64 q ∧ wx = wc)
          case first =>
            go_wp2_with fail
            go_loopw [6] (fun s6 wr => ∃ k : Nat, q ≤ k ∧ k ≤ T.size ∧ s6 = .int .i64 k ∧ wr = wc) (fun s6 _ => (intOf s6).toNat)
            case atStart =>
              refine ⟨T.size, ?_, Nat.le_refl _, rfl, rfl⟩
              rw [← HQ.out]
              split
              · omega
              · rename_i h0
                obtain ⟨O', y, rfl⟩ : ∃ O' y, O = O' ++ [y] := ⟨O.dropLast, O.getLast h0, (List.dropLast_concat_getLast h0).symm⟩
                rw [List.dropLast_concat, HTL.out, flat_snoc]
                simp
            case round =>
              obtain ⟨k, h1, h2, rfl, rfl⟩ := hrel
              by_cases hkq : k = q
              · subst hkq
                rcases Nat.eq_zero_or_pos k with rfl | h0
                · go_wp2_with fail
                  go_meet
                  exact ⟨rfl, rfl⟩
                · obtain ⟨p, rfl⟩ : ∃ p, k = p + 1 := ⟨k - 1, by omega⟩
                  have hps : p < T.size := by omega
                  obtain ⟨c, hc⟩ : ∃ c, T[p] = c := ⟨_, rfl⟩
                  have h47 : c = 47 := by
                    have hqq := HQ.out
                    split at hqq
                    · exact absurd hqq (by omega)
                    · rename_i hn
                      obtain ⟨O', y, rfl⟩ : ∃ O' y, O = O' ++ [y] := ⟨O.dropLast, O.getLast hn, (List.dropLast_concat_getLast hn).symm⟩
                      rw [List.dropLast_concat] at hqq
                      exact (flat_at (HFO.out y (by simp)) p c (by rw [← HT.out, get_data T p hps, hc]) (by omega)).2 (by omega)
                  subst h47
                  have wp : IntKind.i64.wrap (((p + 1 : Nat) : Int) - 1) = (p : Int) := by rw [show ((p + 1 : Nat) : Int) - 1 = (p : Int) by omega]; exact IntWalk.i64_in _ ⟨by omega, by omega⟩
                  have pI : (p : Int) < (T.size : Int) := by omega
                  have p0 : (0 : Int) < ((p + 1 : Nat) : Int) := by omega
                  have e47 : (((47 : UInt8).toNat : Int) != 47) = false := by decide
                  go_wp2_with fail
                  go_meet
                  exact ⟨rfl, rfl⟩
              · obtain ⟨p, rfl⟩ : ∃ p, k = p + 1 := ⟨k - 1, by omega⟩
                have hps : p < T.size := by omega
                obtain ⟨c, hc⟩ : ∃ c, T[p] = c := ⟨_, rfl⟩
                have h47 : c ≠ 47 := by
                  intro e
                  have hqq := HQ.out
                  split at hqq
                  · rename_i hn
                    have hTlen := HTL.out
                    rw [hn] at hTlen
                    have h0 : (flat ([] : List (List UInt8))).length = 0 := rfl
                    omega
                  · rename_i hn
                    obtain ⟨O', y, rfl⟩ : ∃ O' y, O = O' ++ [y] := ⟨O.dropLast, O.getLast hn, (List.dropLast_concat_getLast hn).symm⟩
                    rw [List.dropLast_concat] at hqq
                    have := (flat_at (HFO.out y (by simp)) p c (by rw [← HT.out, get_data T p hps, hc]) (by omega)).1 e
                    omega
                have e47' : ((c.toNat : Int) == 47) = false := by rw [byteLit c 47 47 rfl, beq_eq_false_iff_ne]; intro h; exact h47 (UInt8.toNat_inj.1 h)
                have e47 : ((c.toNat : Int) != 47) = true := by rw [bne, e47']; rfl
                have wp : IntKind.i64.wrap (((p + 1 : Nat) : Int) - 1) = (p : Int) := by rw [show ((p + 1 : Nat) : Int) - 1 = (p : Int) by omega]; exact IntWalk.i64_in _ ⟨by omega, by omega⟩
                have pI : (p : Int) < (T.size : Int) := by omega
                have p0 : (0 : Int) < ((p + 1 : Nat) : Int) := by omega
                clear h47 e47'
                go_wp2_with fail
                go_roundw
                case rel => exact ⟨p, by omega, by omega, by go_num, by first | rfl | trivial⟩
                case measure => simp [intOf]
          case rest =>
            obtain ⟨rfl, rfl⟩ := hcut
            by_cases hO0 : O = []
            · have hq0 : q = 0 := by rw [← HQ.out, if_pos hO0]
              subst hq0
              have HTD : Hid (T.data.toList = flat O.dropLast) := Lib.hid (by rw [HT.out, hO0]; rfl)
              clear hO0 HQ
              by_cases hz : L = []
              · have e3 : (R.toList == []) = true := by rw [ERe.out]; exact decide_eq_true hz
                have HA2 : Hid (segGo [] (O.dropLast ++ [[]]) = X) := Lib.hid (by have := HAT.out; rw [HGo.out, if_pos hz] at this; exact this)
                have HTT : Hid ((T ++ (⟨#[47]⟩ : ByteArray)).data.toList = flat (O.dropLast ++ [[]])) := Lib.hid (by rw [append_data, HTD.out, flat_snoc])
                have HRz : Hid (R.data.toList = flat []) := Lib.hid (by rw [HRl.out, hz])
                have HFz : Hid (freeS (O.dropLast ++ [[]])) := Lib.hid (by
                  intro y hy
                  rcases List.mem_append.1 hy with hy | hy
                  · exact HOD.out y hy
                  · rw [List.mem_singleton.1 hy]; simp)
                have hTz : (T ++ (⟨#[47]⟩ : ByteArray)).size = T.size + 1 := by rw [← data_len, append_data, List.length_append, data_len]; rfl
                have Hsz : Hid (R.size + (T ++ (⟨#[47]⟩ : ByteArray)).size ≤ s.size) := Lib.hid (by omega)
                clear hz hTz
                go_wp2_with fail
                go_roundw
                case rel => exact ⟨R, _, [], _, rfl, rfl, HRz.out, HTT.out, fun y hy => (by cases hy), HFz.out, HA2.out, Hsz.out, HB.out⟩
                case measure => exact hRlt
              · have e3 : (R.toList == []) = false := by rw [ERe.out]; exact decide_eq_false hz
                have HA2 : Hid (segGo L O.dropLast = X) := Lib.hid (by have := HAT.out; rw [HGo.out, if_neg hz] at this; exact this)
                have HTT : Hid (T.data.toList = flat O.dropLast) := Lib.hid (by rw [HTD.out])
                have Hsz : Hid (R.size + T.size ≤ s.size) := Lib.hid (by omega)
                clear hz
                go_wp2_with fail
                go_roundw
                case rel => exact ⟨R, _, L, _, rfl, rfl, HRl.out, HTT.out, HLf.out, HOD.out, HA2.out, Hsz.out, HB.out⟩
                case measure => exact hRlt
            · obtain ⟨r, rfl⟩ : ∃ r, q = r + 1 := ⟨(flat O.dropLast).length, by rw [← HQ.out, if_neg hO0]⟩
              have hr : (flat O.dropLast).length = r := by have := HQ.out; rw [if_neg hO0] at this; omega
              obtain ⟨O', y, rfl⟩ : ∃ O' y, O = O' ++ [y] := ⟨O.dropLast, O.getLast hO0, (List.dropLast_concat_getLast hO0).symm⟩
              rw [List.dropLast_concat] at hr HGo HOD
              have hrT : r + 1 ≤ T.size := by rw [HTL.out, flat_snoc, List.length_append, List.length_cons, hr]; omega
              obtain ⟨V, hV⟩ : ∃ V : ByteArray, T.extract 0 r = V := ⟨_, rfl⟩
              have HTD : Hid (V.data.toList = flat O') := Lib.hid (by rw [← hV, take_data T r (by omega), HT.out, ← hr, flat_take])
              have hVs : V.size ≤ T.size := by rw [← data_len, HTD.out, hr]; omega
              have wp : IntKind.i64.wrap (((r + 1 : Nat) : Int) - 1) = (r : Int) := by rw [show ((r + 1 : Nat) : Int) - 1 = (r : Int) by omega]; exact IntWalk.i64_in _ ⟨by omega, by omega⟩
              have rI : (r : Int) ≤ (T.size : Int) := by omega
              have r0 : (0 : Int) < ((r + 1 : Nat) : Int) := by omega
              have rr0 : (0 : Int) ≤ (r : Int) := by omega
              have hVz : V.size + 1 ≤ T.size := by rw [← data_len, HTD.out, hr]; omega
              clear hO0 HQ hr HTL
              by_cases hz : L = []
              · have e3 : (R.toList == []) = true := by rw [ERe.out]; exact decide_eq_true hz
                have HA2 : Hid (segGo [] (O' ++ [[]]) = X) := Lib.hid (by have := HAT.out; rw [HGo.out, if_pos hz] at this; exact this)
                have HTT : Hid ((V ++ (⟨#[47]⟩ : ByteArray)).data.toList = flat (O' ++ [[]])) := Lib.hid (by rw [append_data, HTD.out, flat_snoc])
                have HRz : Hid (R.data.toList = flat []) := Lib.hid (by rw [HRl.out, hz])
                have HFz : Hid (freeS (O' ++ [[]])) := Lib.hid (by
                  intro y hy
                  rcases List.mem_append.1 hy with hy | hy
                  · exact HOD.out y hy
                  · rw [List.mem_singleton.1 hy]; simp)
                have hTz : (V ++ (⟨#[47]⟩ : ByteArray)).size = V.size + 1 := by rw [← data_len, append_data, List.length_append, data_len]; rfl
                have Hsz : Hid (R.size + (V ++ (⟨#[47]⟩ : ByteArray)).size ≤ s.size) := Lib.hid (by omega)
                clear hz hTz
                go_wp2_with fail
                go_roundw
                case rel => exact ⟨R, _, [], _, rfl, rfl, HRz.out, HTT.out, fun y hy => (by cases hy), HFz.out, HA2.out, Hsz.out, HB.out⟩
                case measure => exact hRlt
              · have e3 : (R.toList == []) = false := by rw [ERe.out]; exact decide_eq_false hz
                have HA2 : Hid (segGo L O' = X) := Lib.hid (by have := HAT.out; rw [HGo.out, if_neg hz] at this; exact this)
                have HTT : Hid (V.data.toList = flat O') := Lib.hid (by rw [HTD.out])
                have Hsz : Hid (R.size + V.size ≤ s.size) := Lib.hid (by omega)
                clear hz
                go_wp2_with fail
                go_roundw
                case rel => exact ⟨R, _, L, _, rfl, rfl, HRl.out, HTT.out, HLf.out, HOD.out, HA2.out, Hsz.out, HB.out⟩
                case measure => exact hRlt
        · have e2 : (S.toList == [47, 46, 46]) = false := by rw [E2.out]; exact decide_eq_false hdd
          by_cases hd : x = [46]
          · have e1 : (S.toList == [47, 46]) = true := by rw [E1.out]; exact decide_eq_true hd
            have HGo : Hid (segGo (x :: L) O = if L = [] then O ++ [[]] else segGo L O) := Lib.hid (by rw [seg_dots x _ _ (by rw [hd]; rfl), if_neg hdd])
            have HOD : Hid (freeS O) := HFO
            clear hd hdd
            by_cases hz : L = []
            · have e3 : (R.toList == []) = true := by rw [ERe.out]; exact decide_eq_true hz
              have HA2 : Hid (segGo [] (O ++ [[]]) = X) := Lib.hid (by have := HAT.out; rw [HGo.out, if_pos hz] at this; exact this)
              have HTT : Hid ((T ++ (⟨#[47]⟩ : ByteArray)).data.toList = flat (O ++ [[]])) := Lib.hid (by rw [append_data, HT.out, flat_snoc])
              have HRz : Hid (R.data.toList = flat []) := Lib.hid (by rw [HRl.out, hz])
              have HFz : Hid (freeS (O ++ [[]])) := Lib.hid (by
                intro y hy
                rcases List.mem_append.1 hy with hy | hy
                · exact HOD.out y hy
                · rw [List.mem_singleton.1 hy]; simp)
              have hTz : (T ++ (⟨#[47]⟩ : ByteArray)).size = T.size + 1 := by rw [← data_len, append_data, List.length_append, data_len]; rfl
              have Hsz : Hid (R.size + (T ++ (⟨#[47]⟩ : ByteArray)).size ≤ s.size) := Lib.hid (by omega)
              clear hz hTz
              go_wp2_with fail
              go_roundw
              case rel => exact ⟨R, _, [], _, rfl, rfl, HRz.out, HTT.out, fun y hy => (by cases hy), HFz.out, HA2.out, Hsz.out, HB.out⟩
              case measure => exact hRlt
            · have e3 : (R.toList == []) = false := by rw [ERe.out]; exact decide_eq_false hz
              have HA2 : Hid (segGo L O = X) := Lib.hid (by have := HAT.out; rw [HGo.out, if_neg hz] at this; exact this)
              have HTT : Hid (T.data.toList = flat O) := Lib.hid (by rw [HT.out])
              have Hsz : Hid (R.size + T.size ≤ s.size) := Lib.hid (by omega)
              clear hz
              go_wp2_with fail
              go_roundw
              case rel => exact ⟨R, _, L, _, rfl, rfl, HRl.out, HTT.out, HLf.out, HOD.out, HA2.out, Hsz.out, HB.out⟩
              case measure => exact hRlt
          · have e1 : (S.toList == [47, 46]) = false := by rw [E1.out]; exact decide_eq_false hd
            have HA2 : Hid (segGo L (O ++ [x]) = X) := Lib.hid (by have := HAT.out; rw [seg_word x _ _ (by unfold dots; simp [hd, hdd])] at this; exact this)
            have HTT : Hid ((T ++ S).data.toList = flat (O ++ [x])) := Lib.hid (by rw [append_data, HT.out, HSl.out, flat_snoc])
            have HFz : Hid (freeS (O ++ [x])) := Lib.hid (by
              intro y hy
              rcases List.mem_append.1 hy with hy | hy
              · exact HFO.out y hy
              · rw [List.mem_singleton.1 hy]; exact Hxf.out)
            have hTz : (T ++ S).size = T.size + S.size := by rw [← data_len, append_data, List.length_append, data_len, data_len]
            have Hsz : Hid (R.size + (T ++ S).size ≤ s.size) := Lib.hid (by omega)
            clear hd hdd hTz
            go_wp2_with fail
            go_roundw
            case rel => exact ⟨R, _, L, _, rfl, rfl, HRl.out, HTT.out, HLf.out, HFz.out, HA2.out, Hsz.out, HB.out⟩
            case measure => exact hRlt
end Go.Proofs.YtaddefjkjlkjnaaDoor
