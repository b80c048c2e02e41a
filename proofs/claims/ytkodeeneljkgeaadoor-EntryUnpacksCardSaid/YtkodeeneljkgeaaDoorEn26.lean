/- Walks of layer 19: the document's numbers and texts at a place, in one form each. Condition: at most 10^9 octets, the place is within them. -/
import Derived.Test.YtkodeeneljkgeaaDoorEn25
namespace Go.Proofs.YtkodeeneljkgeaaDoor
open Go.RowKit IH
set_option maxRecDepth 100000
theorem getN_at {k p : Nat} {l : List UInt8} (hp : p ≤ l.length) : getN k (l.drop p) = if l.length < p + k then none else some (valB ((l.drop p).take k), l.drop (p + k)) := by
  unfold getN
  rw [List.length_drop, List.drop_drop]
  by_cases h : l.length < p + k
  · rw [if_pos (by omega), if_pos h]
  · rw [if_neg (by omega), if_neg h]
theorem got_form (B : Nat) (A : Option Addr) (n c : Nat) (l : List UInt8) (p k : Nat) (w : World) (hin : SliceIn w B 1 A n c (bytesV l)) (hn : n ≤ 1000000000) (hp : p ≤ n) (hk : k ≤ 8) :
    Calls Tryd.prog 20 #[.slice A n c, .int .i64 p, .int .i64 k] w fun e w' =>
      ((getN k (l.drop p) = none ∧ e = .returned (.tuple #[.int .i64 0, .bool false])) ∨ (∃ m, getN k (l.drop p) = some (m, l.drop (p + k)) ∧ p + k ≤ n ∧ e = .returned (.tuple #[.int .i64 (i64 m), .bool true]))) ∧ w = w' := by
  have hln : l.length = n := by have := hin.1; rw [bytesV_length] at this; omega
  have hg := getN_at (k := k) (p := p) (l := l) (by omega)
  by_cases h1 : n < p + k
  · rw [if_pos (by omega)] at hg
    refine (got_bad B A n c l p k w hin hn (by omega) hk h1).mono ?_
    rintro e w' ⟨rfl, rfl⟩
    exact ⟨.inl ⟨hg, rfl⟩, rfl⟩
  · rw [if_neg (by omega)] at hg
    refine (got_ok B A n c l p k w hin hn hk (by omega)).mono ?_
    rintro e w' ⟨rfl, rfl⟩
    exact ⟨.inr ⟨_, hg, by omega, rfl⟩, rfl⟩
theorem said_form (B b0 off n c : Nat) (l : List UInt8) (p : Nat) (w : World) (hin : SliceIn w B 1 (some ⟨b0, off, none⟩) n c (bytesV l)) (hn : n ≤ 1000000000) (hp : p ≤ n) :
    Calls Tryd.prog 21 #[.slice (some ⟨b0, off, none⟩) n c, .int .i64 p] w fun e w' =>
      ((getT (l.drop p) = none ∧ e = .returned (.tuple #[.string ⟨#[]⟩, .int .i64 0, .bool false])) ∨
       (∃ t, getT (l.drop p) = some (t, l.drop (p + 2 + t.length)) ∧ p + 2 + t.length ≤ n ∧ e = .returned (.tuple #[.string ⟨t.toArray⟩, .int .i64 ((p + 2 + t.length : Nat) : Int), .bool true]))) ∧ w = w' := by
  have hln : l.length = n := by have := hin.1; rw [bytesV_length] at this; omega
  have hg := getN_at (k := 2) (p := p) (l := l) (by omega)
  by_cases h1 : n < p + 2
  · rw [if_pos (by omega)] at hg
    refine (said_bad1 B _ n c l p w hin hn (by omega) h1).mono ?_
    rintro e w' ⟨rfl, rfl⟩
    exact ⟨.inl ⟨by unfold getT; rw [hg], rfl⟩, rfl⟩
  · rw [if_neg (by omega)] at hg
    obtain ⟨v, hv⟩ : ∃ v, valB ((l.drop p).take 2) = v := ⟨_, rfl⟩
    have hv2 := (getN_lt hg).1
    rw [hv] at hg hv2
    by_cases h2 : n < p + 2 + v
    · refine (said_bad2 B _ n c l p w hin hn (by omega) v hv (by omega) h2).mono ?_
      rintro e w' ⟨rfl, rfl⟩
      refine ⟨.inl ⟨?_, rfl⟩, rfl⟩
      unfold getT
      rw [hg]
      simp only
      rw [if_pos (by rw [List.length_drop]; omega)]
    · refine (said_ok B b0 off n c l p w hin hn (by omega) v hv (by omega) (by omega)).mono ?_
      rintro e w' ⟨rfl, rfl⟩
      have ht : ((l.drop (p + 2)).take v).length = v := by rw [List.length_take, List.length_drop]; omega
      refine ⟨.inr ⟨(l.drop (p + 2)).take v, ?_, by rw [ht]; omega, by rw [ht]⟩, rfl⟩
      unfold getT
      rw [hg]
      simp only
      rw [if_neg (by rw [List.length_drop]; omega), ht, List.drop_drop]
end Go.Proofs.YtkodeeneljkgeaaDoor
