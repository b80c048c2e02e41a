/- Walks of layer 28: what a text stands for, its number, a word's kind; the document's cut and number. Condition: texts within 10^9 octets. -/
import Derived.Test.YtaddefjkjlkjnaaDoorAcc14
import Derived.Test.YtaddefjkjlkjnaaDoorMath28b
import Derived.Test.YtaddefjkjlkjnaaDoorOct8
namespace Go.Proofs.YtaddefjkjlkjnaaDoor
open Go.RowKit IH
set_option maxRecDepth 100000
theorem bare28_any (S : ByteArray) (w : World) : Calls Tryd.prog 126 #[.string S] w fun e w' => e = .returned (.string ⟨(bare28 S.data.toList).toArray⟩) ∧ w = w' := by
  have e0 : (S.toList == [45]) = decide (S.data.toList = [45]) := by rw [ByteArray.toList_eq, Bool.eq_iff_iff, beq_iff_eq, decide_eq_true_eq]
  unfold bare28
  by_cases h : S.data.toList = [45]
  · rw [if_pos h]
    rw [decide_eq_true h] at e0
    clear h
    go_enter Tryd.func126, Tryd.ntmps126
    go_wp2
    go_ret
    exact ⟨rfl, rfl⟩
  · rw [if_neg h, Lib.mk_data]
    rw [decide_eq_false h] at e0
    clear h
    go_enter Tryd.func126, Tryd.ntmps126
    go_wp2
    go_ret
    exact ⟨rfl, rfl⟩
theorem said28_any (S : ByteArray) (hs : S.size ≤ 1000000000) (w : World) : Calls Tryd.prog 124 #[.string S] w fun e w' => e = .returned (.int .i64 (said28 S.data.toList)) ∧ Below w.heap.size w w' := by
  have NA := fun w => Number_any S hs 1099511627776 (by omega) (by omega) w
  unfold said28
  obtain ⟨x, hx⟩ : ∃ x, (numR 10 1099511627776 S.data.toList).1 = x := ⟨_, rfl⟩
  obtain ⟨y, hy⟩ : ∃ x, (numR 10 1099511627776 S.data.toList).2 = x := ⟨_, rfl⟩
  rw [hx, hy] at NA
  rw [hx]
  replace NA := Lib.hid NA
  clear hx hy
  go_enter Tryd.func124, Tryd.ntmps124
  go_wp2_with (go_at_call 137; refine (NA.out _).mono ?_; rintro e w1 ⟨rfl, hb1⟩)
  go_ret
  exact ⟨rfl, hb1⟩
theorem refNumber28_any (S : ByteArray) (hs : S.size ≤ 1000000000) (w : World) : Calls Tryd.prog 129 #[.string S] w fun e w' => e = .returned (.int .i64 (said28 S.data.toList)) ∧ w = w' := by
  have NA := fun w => refNumber10_any S hs 1099511627776 (by omega) (by omega) w
  unfold said28
  obtain ⟨x, hx⟩ : ∃ x, (numR 10 1099511627776 S.data.toList).1 = x := ⟨_, rfl⟩
  obtain ⟨y, hy⟩ : ∃ x, (numR 10 1099511627776 S.data.toList).2 = x := ⟨_, rfl⟩
  rw [hx, hy] at NA
  rw [hx]
  replace NA := Lib.hid NA
  clear hx hy
  go_enter Tryd.func129, Tryd.ntmps129
  go_wp2_with (go_at_call 142; refine (NA.out _).mono ?_; rintro e w1 ⟨rfl, rfl⟩)
  go_ret
  exact ⟨rfl, rfl⟩
theorem word28_w28 (k : Int) : word28 k = w28 k := rfl
/-- The kind of a word, from the k-th on. -/
def kindFrom (w : List UInt8) : Nat → Nat → Int
  | 0, _ => 0
  | f + 1, k => if w28 k = w then (k : Int) else kindFrom w f (k + 1)
theorem kindFrom_all (w : List UInt8) : kindFrom w 5 1 = kind28 w := by
  unfold kind28
  simp only [kindFrom]
  simp only [eq_comm (a := w)]
  rfl
set_option maxHeartbeats 4000000 in
theorem kind28_any (S : ByteArray) (w : World) : Calls Tryd.prog 125 #[.string S] w fun e w' => e = .returned (.int .i64 (kind28 S.data.toList)) ∧ w = w' := by
  have WD := Lib.hid (fun (k : Int) (w : World) => Word_any k w)
  obtain ⟨U, hU⟩ : ∃ U, kind28 S.data.toList = U := ⟨_, rfl⟩
  have HU : Hid (kindFrom S.data.toList 5 1 = U) := Lib.hid (by rw [kindFrom_all, hU])
  rw [hU]
  clear hU
  go_enter Tryd.func125, Tryd.ntmps125
  go_wp2
  go_loop [3] (fun i => ∃ k : Nat, 1 ≤ k ∧ k ≤ 6 ∧ i = .int .i64 k ∧ kindFrom S.data.toList (6 - k) k = U) (fun i => 6 - (intOf i).toNat)
  case atStart => exact ⟨1, by omega, by omega, rfl, HU.out⟩
  case round =>
    obtain ⟨k, h1, h6, rfl, hk⟩ := hrel
    by_cases hlt : k < 6
    · have kI : (k : Int) ≤ 5 := by omega
      obtain ⟨f, hf⟩ : ∃ f, 6 - k = f + 1 := ⟨5 - k, by omega⟩
      rw [hf] at hk
      unfold kindFrom at hk
      have W1 := fun w => WD.out (k : Int) w
      rw [word28_w28] at W1
      have e0 : ((⟨(w28 k).toArray⟩ : ByteArray).toList == S.toList) = decide (w28 k = S.data.toList) := by rw [ByteArray.toList_eq, ByteArray.toList_eq, Bool.eq_iff_iff, beq_iff_eq, decide_eq_true_eq]
      by_cases he : w28 k = S.data.toList
      · rw [if_pos he] at hk
        rw [decide_eq_true he] at e0
        generalize (⟨(w28 k).toArray⟩ : ByteArray) = X at *
        have HK := Lib.hid hk
        replace W1 := Lib.hid W1
        clear hk he hf
        go_wp2_with (go_at_call 28; refine (W1.out _).mono ?_; rintro e w' ⟨rfl, rfl⟩)
        go_ret
        rw [← HK.out]
        exact ⟨rfl, rfl⟩
      · rw [if_neg he] at hk
        rw [decide_eq_false he] at e0
        generalize (⟨(w28 k).toArray⟩ : ByteArray) = X at *
        rw [show f = 6 - (k + 1) by omega] at hk
        have HK := Lib.hid hk
        replace W1 := Lib.hid W1
        clear hk he hf
        go_wp2_with (go_at_call 28; refine (W1.out _).mono ?_; rintro e w' ⟨rfl, rfl⟩)
        go_round
        case rel => exact ⟨k + 1, by omega, by omega, by go_num, HK.out⟩
        case measure => simp [intOf]; omega
    · obtain rfl : k = 6 := by omega
      have HK := Lib.hid hk
      clear hk
      go_wp2
      go_ret
      rw [← HK.out]
      exact ⟨rfl, rfl⟩
/-- Up to the first blank, and what is behind it; is there one? -/
def cut32 (l : List UInt8) : List UInt8 × List UInt8 × Bool := match l.dropWhile (· != 32) with
  | [] => ([], [], false)
  | _ :: r => (l.takeWhile (· != 32), r, true)
theorem cut32_at {l a r : List UInt8} (h : l = a ++ 32 :: r) (ha : ∀ c ∈ a, c ≠ 32) : cut32 l = (a, r, true) := by
  subst h
  have key : ∀ a : List UInt8, (∀ c ∈ a, c ≠ 32) → (a ++ 32 :: r).takeWhile (· != 32) = a ∧ (a ++ 32 :: r).dropWhile (· != 32) = 32 :: r := by
    intro a
    induction a with
    | nil => intro _; simp
    | cons c a ih =>
      intro h
      have h1 := h c (by simp)
      have h2 := ih fun d hd => h d (by simp [hd])
      simp [h1, h2.1, h2.2]
  obtain ⟨h1, h2⟩ := key a ha
  unfold cut32
  rw [h1, h2]
theorem drop32 : ∀ {l : List UInt8}, (∀ c ∈ l, c ≠ 32) → l.dropWhile (· != 32) = []
  | [], _ => rfl
  | c :: l, h => by
    have h1 := h c (by simp)
    rw [List.dropWhile_cons, if_pos (by simpa using h1)]
    exact drop32 fun x hx => h x (by simp [hx])
theorem cut32_no {l : List UInt8} (h : ∀ c ∈ l, c ≠ 32) : cut32 l = ([], [], false) := by
  unfold cut32
  rw [drop32 h]
set_option maxHeartbeats 4000000 in
theorem refCut_any (S : ByteArray) (hs : S.size ≤ 1000000000) (w : World) :
    Calls Tryd.prog 128 #[.string S] w fun e w' => e = .returned (.tuple #[.string ⟨(cut32 S.data.toList).1.toArray⟩, .string ⟨(cut32 S.data.toList).2.1.toArray⟩, .bool (cut32 S.data.toList).2.2]) ∧ ∃ q, w' = w.drewN q := by
  go_enter Tryd.func128, Tryd.ntmps128
  go_wp2
  go_loop [5] (fun i => ∃ k : Nat, k ≤ S.size ∧ i = .int .i64 k ∧ ∀ c ∈ S.data.toList.take k, c ≠ 32) (fun i => S.size - (intOf i).toNat)
  case atStart => exact ⟨0, by omega, rfl, by simp⟩
  case round =>
    obtain ⟨k, hk, rfl, hno⟩ := hrel
    by_cases hlt : k < S.size
    · obtain ⟨c, hc⟩ : ∃ c, S[k] = c := ⟨_, rfl⟩
      have kI : (k : Int) < (S.size : Int) := by omega
      by_cases h32 : c = 32
      · subst h32
        have hsp : S.data.toList = S.data.toList.take k ++ 32 :: S.data.toList.drop (k + 1) := by rw [← hc]; exact data_split S k hlt
        have HCUT := Lib.hid (cut32_at hsp hno)
        have e1 : Hid ((⟨(S.data.toList.take k).toArray⟩ : ByteArray) = S.extract 0 k) := Lib.hid (bytes_eq (take_data S k (by omega))).symm
        have e2 : Hid ((⟨(S.data.toList.drop (k + 1)).toArray⟩ : ByteArray) = S.extract (k + 1) S.size) := Lib.hid (bytes_eq (drop_data S (k + 1))).symm
        have e32 : (((32 : UInt8).toNat : Int) == 32) = true := by decide
        have wr : IntKind.i64.wrap ((k : Int) + 1) = (k : Int) + 1 := IntWalk.i64_in _ ⟨by omega, by omega⟩
        have k1 : k + 1 ≤ S.size := by omega
        clear hsp hno
        go_wp2
        go_region
        go_wp2
        go_ret3
        rw [HCUT.out]
        simp only
        rw [e1.out, e2.out]
        exact ⟨rfl, 1, rfl⟩
      · have e32 : ((c.toNat : Int) == 32) = false := by
          rw [beq_eq_false_iff_ne]
          intro h
          exact h32 (UInt8.toNat_inj.1 (by simpa using (by omega : c.toNat = 32)))
        have HN : Hid (∀ x ∈ S.data.toList.take (k + 1), x ≠ 32) := Lib.hid (by
          rw [data_take_succ S k hlt, hc]
          intro x hx
          rcases List.mem_append.1 hx with hx | hx
          · exact hno x hx
          · rw [List.mem_singleton.1 hx]; exact h32)
        clear hno h32
        go_wp2
        go_round
        case rel => exact ⟨k + 1, by omega, by go_num, HN.out⟩
        case measure => simp [intOf]; omega
    · obtain rfl : k = S.size := by omega
      rw [List.take_of_length_le (by rw [data_len]; exact Nat.le_refl _)] at hno
      have HCUT := Lib.hid (cut32_no hno)
      clear hno
      go_wp2
      go_ret3
      rw [HCUT.out]
      exact ⟨rfl, 0, rfl⟩
end Go.Proofs.YtaddefjkjlkjnaaDoor
