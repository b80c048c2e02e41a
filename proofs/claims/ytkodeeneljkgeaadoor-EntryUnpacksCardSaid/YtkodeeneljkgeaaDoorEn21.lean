/- Walks of layer 19: entry.Unpack at all octets, in one form. Condition: at most 10^9 octets; what the octets spell is of bounded size. -/
import Derived.Test.YtkodeeneljkgeaaDoorEn20
namespace Go.Proofs.YtkodeeneljkgeaaDoor
open Go.RowKit IH
set_option maxRecDepth 100000
/-- The entry that octets are, if they are one. -/
def unpackE (l : List UInt8) : Option Entry :=
  match readE l with
  | some (e, r) => if r = [] ∧ l.length ≤ 8000 ∧ rightE e = true then some e else none
  | none => none
/-- The empty entry, as cells. -/
def zeroE : List Value := [.string ⟨#[]⟩, .slice none 0 0, .string ⟨#[]⟩, .string ⟨#[]⟩, .string ⟨#[]⟩, .int .i64 0, .string ⟨#[]⟩, .int .i64 0, .slice none 0 0, .int .i64 0, .int .i64 0, .int .i64 0, .int .i64 0, .int .u32 0, .slice none 0 0]
theorem unpack_any (b0 off n c : Nat) (l : List UInt8) (w : World) (hin : SliceIn w w.heap.size 1 (some ⟨b0, off, none⟩) n c (bytesV l)) (hb0 : b0 < w.heap.size) (hl : l.length ≤ 1000000000)
    (hes : ∀ e r, readE l = some (e, r) → ∀ W p, EntIn W W.heap.size e p → EntS e p) :
    Calls Tryd.prog 7 #[.slice (some ⟨b0, off, none⟩) n c] w fun x w' =>
      ((unpackE l = none ∧ x = .returned (.tuple #[.agg zeroE.toArray, .int .i64 10])) ∨ (∃ e p, unpackE l = some e ∧ x = .returned (.tuple #[.agg (entC e p).toArray, .int .i64 0]) ∧ EntIn w' w'.heap.size e p)) ∧ Below w.heap.size w w' := by
  cases hr : readE l with
  | none =>
    refine (unpack_panic b0 off n c l w hin hl hr).mono ?_
    rintro x w' ⟨rfl, hb⟩
    exact ⟨.inl ⟨by unfold unpackE; rw [hr], rfl⟩, hb⟩
  | some y =>
    obtain ⟨e, r⟩ := y
    by_cases h1 : r = []
    · subst h1
      by_cases h8 : 8000 < l.length
      · refine (unpack_left_b b0 off n c l e w hin hl hr (by omega)).mono ?_
        rintro x w' ⟨rfl, hb⟩
        exact ⟨.inl ⟨by unfold unpackE; rw [hr]; simp; omega, rfl⟩, hb⟩
      · cases hq : rightE e with
        | false =>
          refine (unpack_left_c b0 off n c l e w hin hl hr (by omega) hq (hes e [] hr)).mono ?_
          rintro x w' ⟨rfl, hb⟩
          exact ⟨.inl ⟨by unfold unpackE; rw [hr]; simp [hq], rfl⟩, hb⟩
        | true =>
          refine (unpack_ok b0 off n c l e w hin hb0 (by omega) hr hq (hes e [] hr)).mono ?_
          rintro x w' ⟨p, rfl, ho, hb⟩
          exact ⟨.inr ⟨e, p, by unfold unpackE; rw [hr]; simp [hq]; omega, rfl, ho.ent⟩, hb⟩
    · refine (unpack_left_a b0 off n c l r e w hin hl hr h1).mono ?_
      rintro x w' ⟨rfl, hb⟩
      exact ⟨.inl ⟨by unfold unpackE; rw [hr]; simp [h1], rfl⟩, hb⟩
end Go.Proofs.YtkodeeneljkgeaaDoor
