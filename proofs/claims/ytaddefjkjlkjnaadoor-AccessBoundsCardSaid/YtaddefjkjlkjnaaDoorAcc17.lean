/- Layer 28: a line cut at its first eight blanks, by package strings. Condition: the world's shape; texts within 10^9 octets. -/
import Derived.Test.YtaddefjkjlkjnaaDoorAcc16
import Derived.Test.YtaddefjkjlkjnaaDoorShape
namespace Go.Proofs.YtaddefjkjlkjnaaDoor
open Go.RowKit IH
set_option maxRecDepth 100000
theorem cutN_none (k : Nat) {s : List UInt8} (h : ∀ c ∈ s, c ≠ 32) : cutN (k + 1) s = none := by
  unfold cutN
  rw [drop32 h]
theorem split_cutN : ∀ (k : Nat) (s : List UInt8), (∃ p, cutN k s = some p ∧ Lib.splitK [32] 0 k s = p ∧ p.length = k + 1 ∧ k ≤ s.length) ∨ (cutN k s = none ∧ (Lib.splitK [32] 0 k s).length ≤ k)
  | 0, s => .inl ⟨[s], rfl, rfl, rfl, Nat.zero_le _⟩
  | k + 1, s => by
    by_cases hm : (32 : UInt8) ∈ s
    · obtain ⟨a, b, rfl, ha⟩ := List.eq_append_cons_of_mem hm
      have ha' : ∀ x ∈ a, x ≠ 32 := fun x hx e => ha (e ▸ hx)
      have hi : Lib.index (a ++ 32 :: b) [32] = (a.length : Nat) := by rw [Lib.index_one, indexByte_mid 32 a b ha']
      have hd : (a ++ 32 :: b).drop (a.length + 1) = b := by rw [← List.drop_drop, List.drop_left']; rfl; rfl
      have hne : (Lib.index (a ++ 32 :: b) [32] == -1) = false := by rw [hi, beq_eq_false_iff_ne]; omega
      have hs : Lib.splitK [32] 0 (k + 1) (a ++ 32 :: b) = a :: Lib.splitK [32] 0 k b := by
        conv => lhs; unfold Lib.splitK
        rw [hne, hi]
        simp only [Bool.false_eq_true, if_false, Int.toNat_natCast, Nat.add_zero]
        rw [show a.length + [(32 : UInt8)].length = a.length + 1 from rfl, hd, List.take_left']
        rfl
      rw [cutN_word ha', hs]
      rcases split_cutN k b with ⟨p, h1, h2, h3, h4⟩ | ⟨h1, h2⟩
      · left
        rw [h1, h2]
        exact ⟨a :: p, rfl, rfl, by simp [h3], by simp; omega⟩
      · right
        rw [h1]
        exact ⟨rfl, by simp; omega⟩
    · have hno : ∀ c ∈ s, c ≠ 32 := fun x hx e => hm (e ▸ hx)
      have hi : Lib.index s [32] = -1 := by rw [Lib.index_one]; exact indexByte_no 32 s hno
      right
      refine ⟨cutN_none k hno, ?_⟩
      unfold Lib.splitK
      rw [hi]
      simp
theorem splitK_len : ∀ (k : Nat) (s : List UInt8), (Lib.splitK [32] 0 k s).length ≤ k + 1 := fun k s => by
  rcases split_cutN k s with ⟨p, _, h2, h3, _⟩ | ⟨_, h2⟩
  · rw [h2, h3]; exact Nat.le_refl _
  · omega
theorem SplitN9_any (s : ByteArray) (w : World) (hsh : w.ShapedOpen Tryd.prog) (hs : s.size ≤ 1000000000) :
    Calls Tryd.prog 123 #[.string s, .string ⟨#[32]⟩, .int .i64 9] w fun e w' => ∃ (L : List (List UInt8)) (c : Nat), e = .returned (.slice (some ⟨w.heap.size, 0, none⟩) L.length c) ∧ RowAt w' w.heap.size 9 (strsV L) ∧ Below w.heap.size w w' ∧
      ((cutN 8 s.data.toList = some L ∧ L.length = 9) ∨ (cutN 8 s.data.toList = none ∧ L.length ≠ 9)) := by
  refine (Tryd.strings_SplitN_shaped s ⟨#[32]⟩ 9 w hsh (by omega) (by show 1 ≤ 1; omega) (by omega) (by omega)).mono ?_
  rintro e w' ⟨rfl, rfl⟩
  obtain ⟨k, hk⟩ : ∃ k, min 9 (s.size + 1) - 1 = k := ⟨_, rfl⟩
  have hk8 : k ≤ 8 := by omega
  rw [hk]
  have hd := Lib.splitB_data ⟨#[32]⟩ 0 k s
  rw [show (⟨#[32]⟩ : ByteArray).data.toList = [32] from rfl] at hd
  obtain ⟨Q, hQ⟩ : ∃ Q, Lib.splitB ⟨#[32]⟩ 0 k s = Q := ⟨_, rfl⟩
  rw [hQ] at hd ⊢
  obtain ⟨L, hL⟩ : ∃ L, Lib.splitK [32] 0 k s.data.toList = L := ⟨_, rfl⟩
  rw [hL] at hd
  have hlen : L.length = Q.length := by rw [← hd, List.length_map]
  have hst : Q.map Value.string = strsV L := by
    rw [← hd]
    unfold strsV
    rw [List.map_map]
    apply List.map_congr_left
    intro x _
    simp
  refine ⟨L, _, by rw [hlen], ?_, (Below.refl _ _).alloc (Nat.le_refl _) _, ?_⟩
  · refine ⟨_, 0, 0, heap_alloc_new w _, ?_, by simp⟩
    unfold Lib.cellsOf
    rw [hst, List.take_left']
    rfl
  · by_cases h8 : 8 ≤ s.size
    · obtain rfl : k = 8 := by omega
      rcases split_cutN 8 s.data.toList with ⟨p, h1, h2, h3, _⟩ | ⟨h1, h2⟩
      · left
        rw [← hL, h2]
        exact ⟨h1, h3⟩
      · right
        rw [← hL]
        exact ⟨h1, by omega⟩
    · right
      have hks : k = s.size := by omega
      have h9 := splitK_len k s.data.toList
      rw [hL] at h9
      refine ⟨?_, by omega⟩
      rcases split_cutN 8 s.data.toList with ⟨p, _, _, _, h4⟩ | ⟨h1, _⟩
      · rw [data_len] at h4; omega
      · exact h1
end Go.Proofs.YtaddefjkjlkjnaaDoor
