/- Layer 19: what octets spell is of bounded size, in plain Lean. No condition. -/
import Derived.Test.YtkodeeneljkgeaaDoorEn21
namespace Go.Proofs.YtkodeeneljkgeaaDoor
open Go.RowKit IH
set_option maxRecDepth 100000
theorem getT_len {l s r : List UInt8} (h : getT l = some (s, r)) : s.length < 65536 := by
  obtain ⟨n, r1, h1, h2, rfl, rfl⟩ := getT_some h
  have := (getN_lt h1).1
  rw [List.length_take]
  omega
theorem getF_len {l r : List UInt8} {f : Fld} (h : getF l = some (f, r)) : f.1.length < 65536 ∧ f.2.length < 65536 := by
  unfold getF at h
  cases h1 : getT l with
  | none => rw [h1] at h; cases h
  | some x =>
    obtain ⟨a, s⟩ := x
    rw [h1] at h
    simp only at h
    cases h2 : getT s with
    | none => rw [h2] at h; cases h
    | some y =>
      obtain ⟨b, t⟩ := y
      rw [h2] at h
      simp only [Option.map_some, Option.some.injEq, Prod.mk.injEq] at h
      obtain ⟨rfl, rfl⟩ := h
      exact ⟨getT_len h1, getT_len h2⟩
theorem getAll_all {α : Type} {p : List UInt8 → Option (α × List UInt8)} {Q : α → Prop} (hp : ∀ l x r, p l = some (x, r) → Q x) : ∀ n l L r, getAll p n l = some (L, r) → L.length = n ∧ ∀ x ∈ L, Q x := by
  intro n
  induction n with
  | zero =>
    intro l L r h
    simp only [getAll, Option.some.injEq, Prod.mk.injEq] at h
    obtain ⟨rfl, rfl⟩ := h
    exact ⟨rfl, fun x hx => by cases hx⟩
  | succ n ih =>
    intro l L r h
    unfold getAll at h
    cases h1 : p l with
    | none => rw [h1] at h; cases h
    | some y =>
      obtain ⟨x, s⟩ := y
      rw [h1] at h
      simp only at h
      cases h2 : getAll p n s with
      | none => rw [h2] at h; cases h
      | some z =>
        obtain ⟨M, t⟩ := z
        rw [h2] at h
        simp only [Option.map_some, Option.some.injEq, Prod.mk.injEq] at h
        obtain ⟨rfl, rfl⟩ := h
        obtain ⟨h3, h4⟩ := ih _ _ _ h2
        refine ⟨by rw [List.length_cons, h3], fun u hu => ?_⟩
        rcases List.mem_cons.1 hu with rfl | hu
        · exact hp _ _ _ h1
        · exact h4 u hu
theorem head_size {l r : List UInt8} {h : Head19} (e : readHead l = some (h, r)) : h.size < 4294967296 := by
  unfold readHead at e
  repeat' split at e
  all_goals first | (cases e; done) | skip
  simp only [Option.some.injEq, Prod.mk.injEq] at e
  obtain ⟨rfl, rfl⟩ := e
  rename_i h4 _ _ _ _
  first
    | exact (getN_lt (by assumption : getN 4 _ = some (_, _))).1
theorem tail_in {l r : List UInt8} {h : Head19} {x : Entry} (e : readTail h l = some (x, r)) :
    x.method = [] ∧ x.target = [] ∧ x.size = h.size ∧ x.uri.length < 65536 ∧ x.variant.length < 65536 ∧ x.reason.length < 65536 ∧ x.names.length < 256 ∧ (∀ s ∈ x.names, s.length < 65536) ∧ x.fields.length < 256 ∧ (∀ f ∈ x.fields, f.1.length < 65536 ∧ f.2.length < 65536) ∧ x.body.length < 256 := by
  unfold readTail at e
  repeat' split at e
  all_goals first | (cases e; done) | skip
  rename_i h1 _ _ _ h2 _ _ _ h3 _ _ _ h4 _ _ _ h5 _ _ _ h6 _ _ _ h7 _ _ _ h8 _ _ _ h9
  simp only [Option.some.injEq, Prod.mk.injEq] at e
  obtain ⟨rfl, rfl⟩ := e
  obtain ⟨a1, a2⟩ := getAll_all (Q := fun s => s.length < 65536) (fun _ _ _ h => getT_len h) _ _ _ _ h5
  obtain ⟨b1, b2⟩ := getAll_all (Q := fun f : Fld => f.1.length < 65536 ∧ f.2.length < 65536) (fun _ _ _ h => getF_len h) _ _ _ _ h7
  obtain ⟨c1, _⟩ := getAll_all (p := getX) (Q := fun _ => True) (fun _ _ _ _ => trivial) _ _ _ _ h9
  have n1 := (getN_lt h4).1
  have n2 := (getN_lt h6).1
  have n3 := (getN_lt h8).1
  exact ⟨rfl, rfl, rfl, getT_len h1, getT_len h2, getT_len h3, Nat.lt_of_le_of_lt (Nat.le_of_eq a1) n1, a2, Nat.lt_of_le_of_lt (Nat.le_of_eq b1) n2, b2, Nat.lt_of_le_of_lt (Nat.le_of_eq c1) n3⟩
theorem read_ents {l r : List UInt8} {x : Entry} (e : readE l = some (x, r)) (w : World) (B : Nat) (p : EntA) (hin : EntIn w B x p) : EntS x p := by
  unfold readE at e
  cases h1 : readHead l with
  | none => rw [h1] at e; cases e
  | some y =>
    obtain ⟨h, s⟩ := y
    rw [h1] at e
    simp only at e
    obtain ⟨t1, t2, t3, t4, t5, t6, t7, t8, t9, t10, t11⟩ := tail_in e
    have z := head_size h1
    have q1 : x.names.length = p.n1 := by have := hin.names.1; rw [strsV_length] at this; omega
    have q2 := fld_count hin.fields
    have q3 := ext_count hin.body
    exact ⟨by omega, by omega, by rw [t1]; simp, by rw [t2]; simp, by omega, by omega, by omega, by omega, fun s hs => by have := t8 s hs; omega, fun f hf => by have := t10 f hf; omega, by omega, by omega⟩
end Go.Proofs.YtkodeeneljkgeaaDoor
