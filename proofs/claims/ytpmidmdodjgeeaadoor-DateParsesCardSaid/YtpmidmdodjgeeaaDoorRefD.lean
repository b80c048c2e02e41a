/- Walks of layer 2's document: numbers and months read sign by sign. Condition: places within bounds. -/
import Derived.Test.YtpmidmdodjgeeaaDoorRefB
import Derived.Test.YtpmidmdodjgeeaaDoorCal3
namespace Go.Proofs.YtpmidmdodjgeeaaDoor
open Go.RowKit IH
set_option maxRecDepth 100000
theorem decV_snoc (l : List UInt8) (c : UInt8) : decV (l ++ [c]) = decV l * 10 + (c.toNat : Int) - 48 := by simp [decV]
theorem take_at {l : List UInt8} {a k : Nat} {c : UInt8} (h : l[a + k]? = some c) : (l.drop a).take (k + 1) = (l.drop a).take k ++ [c] := by
  rw [List.take_add_one, List.getElem?_drop, h]; rfl

theorem refNum_bad {l : List UInt8} {a b j : Nat} (hj : j < b - a) (h : ∀ c, l[a + j]? = some c → isDig c = false) : refNum l a b = -1 := by
  unfold refNum
  rw [if_neg]
  rintro ⟨hl, hall⟩
  have hlt : j < ((l.drop a).take (b - a)).length := by omega
  have hm := List.all_eq_true.1 hall _ (List.getElem_mem hlt)
  have hg : l[a + j]? = some (((l.drop a).take (b - a))[j]) := by
    rw [List.getElem_take, List.getElem_drop]
    exact List.getElem?_eq_getElem _
  rw [h _ hg] at hm
  cases hm
set_option maxHeartbeats 4000000 in
theorem refNum_any (s : ByteArray) (a b : Nat) (hab : a ≤ b) (hb : b ≤ a + 4) (ha : a ≤ 1000) (hs : s.size ≤ 1000000000) (w : World) :
    Calls Tryd.prog 59 #[.string s, .int .i64 a, .int .i64 b] w fun e w' => e = .returned (.int .i64 (refNum s.data.toList a b)) ∧ w = w' := by
  go_enter Tryd.func59, Tryd.ntmps59
  go_wp2
  go_loop [7, 8] (fun x i => ∃ k : Nat, k ≤ b - a ∧ i = .int .i64 ((a + k : Nat) : Int) ∧ a + k ≤ max a s.size ∧ x = .int .i64 (decV ((s.data.toList.drop a).take k)) ∧ ((s.data.toList.drop a).take k).length = k ∧ ((s.data.toList.drop a).take k).all isDig = true) (fun _ i => b - (intOf i).toNat)
  case atStart => exact ⟨0, by omega, by simp, by omega, by simp [decV], by simp, by simp⟩
  case round =>
    obtain ⟨k, hk, rfl, hmx, rfl, hlen, hall⟩ := hrel
    have hbd := decV_bd _ hall
    rw [hlen] at hbd
    have hbd2 : decV ((s.data.toList.drop a).take k) < 10000 := by
      have : (10 : Int) ^ k ≤ 10 ^ 4 := by
        have hk4 : k = 0 ∨ k = 1 ∨ k = 2 ∨ k = 3 ∨ k = 4 := by omega
        rcases hk4 with rfl | rfl | rfl | rfl | rfl <;> decide
      have e : (10 : Int) ^ 4 = 10000 := by decide
      omega
    have Hall := Lib.hid hall
    have Hlen := Lib.hid hlen
    clear hall hlen
    by_cases hlt : a + k < b
    · by_cases hin : a + k < s.size
      · obtain ⟨c, hc⟩ : ∃ c, s[a + k] = c := ⟨_, rfl⟩
        have hget : s.data.toList[a + k]? = some c := by rw [← hc]; exact get_data s (a + k) hin
        by_cases hd : isDig c = true
        · have hts := take_at hget
          have hnx : decV ((s.data.toList.drop a).take (k + 1)) = decV ((s.data.toList.drop a).take k) * 10 + (c.toNat : Int) - 48 := by rw [hts, decV_snoc]
          have hnl : ((s.data.toList.drop a).take (k + 1)).length = k + 1 := by rw [hts, List.length_append, Hlen.out]; rfl
          have hna : ((s.data.toList.drop a).take (k + 1)).all isDig = true := by rw [hts, List.all_append, Hall.out]; simp [hd]
          have Hnx := Lib.hid hnx; have Hnl := Lib.hid hnl; have Hna := Lib.hid hna
          simp only [isDig, Bool.and_eq_true, decide_eq_true_eq] at hd
          obtain ⟨hd1, hd2⟩ := hd
          obtain ⟨hb0, _⟩ := hbd
          clear hts hnx hnl hna hget
          generalize decV ((s.data.toList.drop a).take k) = V at *
          go_wp2
          go_round
          case rel => exact ⟨k + 1, by omega, by go_num, by omega, by rw [Hnx.out], Hnl.out, Hna.out⟩
          case measure => simp [intOf]; omega
        · have hbad : refNum s.data.toList a b = -1 := refNum_bad (j := k) (by omega) (fun c' h => by rw [hget] at h; obtain rfl := Option.some.inj h; simpa using hd)
          have Hbad := Lib.hid hbad
          have hq : c.toNat < 48 ∨ 57 < c.toNat := by
            simp only [isDig, Bool.and_eq_true, decide_eq_true_eq] at hd
            omega
          clear hbad hget hd hbd hbd2
          rcases hq with hq | hq
          all_goals
            go_wp2
            go_ret
            rw [Hbad.out]
            exact ⟨rfl, rfl⟩
      · have hbad : refNum s.data.toList a b = -1 := refNum_bad (j := k) (by omega) (fun c' h => by
          have := (List.getElem?_eq_some_iff.1 h).1
          rw [data_len] at this
          omega)
        have Hbad := Lib.hid hbad
        clear hbad hbd hbd2
        go_wp2
        go_ret
        rw [Hbad.out]
        exact ⟨rfl, rfl⟩
    · obtain rfl : k = b - a := by omega
      have hfin : refNum s.data.toList a b = decV ((s.data.toList.drop a).take (b - a)) := by
        unfold refNum
        rw [if_pos ⟨Hlen.out, Hall.out⟩]
      have Hfin := Lib.hid hfin
      clear hfin hbd hbd2
      generalize decV ((s.data.toList.drop a).take (b - a)) = V at *
      go_wp2
      go_ret
      rw [Hfin.out]
      exact ⟨rfl, rfl⟩
end Go.Proofs.YtpmidmdodjgeeaaDoor
