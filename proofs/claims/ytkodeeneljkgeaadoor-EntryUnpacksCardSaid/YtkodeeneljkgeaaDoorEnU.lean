/- Layer 19 in plain Lean: an entry out of octets, by the document's places, is the code's. No program in sight; condition: none. -/
import Derived.Test.YtkodeeneljkgeaaDoorEn26
namespace IH
set_option maxRecDepth 100000
def mkE (h : Head19) (T N : List (List UInt8)) (F : List Fld) (X : List (Int × Int)) : Entry :=
  ⟨T[0]?.getD [], N, T[1]?.getD [], [], [], h.status, T[2]?.getD [], h.minor, F, i64 h.asked, i64 h.got, i64 h.order, h.size, h.sum, X⟩
/-- What is behind the three texts, and what is left. -/
def restR (h : Head19) (T : List (List UInt8)) (s : List UInt8) : Option (Entry × List UInt8) := match getN 1 s with
  | none => none
  | some (n, s) => match getAll getT n s with
    | none => none
    | some (N, s) => match getN 1 s with
      | none => none
      | some (n, s) => match getAll getF n s with
        | none => none
        | some (F, s) => match getN 1 s with
          | none => none
          | some (n, s) => match getAll getX n s with
            | none => none
            | some (X, s) => some (mkE h T N F X, s)
/-- The same, as the document has it: the extents take all that is left, and the entry is right. -/
def bodyU (h : Head19) (T N : List (List UInt8)) (F : List Fld) (s : List UInt8) : Option Entry := match getN 1 s with
  | none => none
  | some (n, s) => if s.length ≠ 8 * n then none else match getAll getX n s with
    | none => none
    | some (X, _) => if rightE (mkE h T N F X) = true then some (mkE h T N F X) else none
def fieldsU (h : Head19) (T N : List (List UInt8)) (s : List UInt8) : Option Entry := match getN 1 s with
  | none => none
  | some (n, s) => match getAll getF n s with
    | none => none
    | some (F, s) => bodyU h T N F s
def namesU (h : Head19) (T : List (List UInt8)) (s : List UInt8) : Option Entry := match getN 1 s with
  | none => none
  | some (n, s) => match getAll getT n s with
    | none => none
    | some (N, s) => fieldsU h T N s
def tailU (h : Head19) (s : List UInt8) : Option Entry := match getAll getT 3 s with
  | none => none
  | some (T, s) => namesU h T s
def headU (l : List UInt8) : Head19 := ⟨valB ((l.drop 1).take 2), valB ((l.drop 3).take 1), valB ((l.drop 4).take 8), valB ((l.drop 12).take 8), valB ((l.drop 20).take 8), valB ((l.drop 28).take 4), valB ((l.drop 32).take 4)⟩
theorem getN_sz {k m : Nat} {s r : List UInt8} (h : getN k s = some (m, r)) : s.length = k + r.length := by
  unfold getN at h
  split at h
  · cases h
  · simp only [Option.some.injEq, Prod.mk.injEq] at h
    obtain ⟨_, rfl⟩ := h
    rw [List.length_drop]; omega
theorem head_of {l : List UInt8} (h : 36 ≤ l.length) (h0 : l.head? = some 69) : readHead l = some (headU l, l.drop 36) := by
  have g : ∀ k p, p + k ≤ l.length → getN k (l.drop p) = some (valB ((l.drop p).take k), l.drop (p + k)) := fun k p hk => by
    unfold getN
    rw [List.length_drop, List.drop_drop, if_neg (by omega)]
  have g0 := g 1 0 (by omega)
  have e0 : valB ((l.drop 0).take 1) = 69 := by
    cases l with
    | nil => cases h0
    | cons c l =>
      simp only [List.head?_cons, Option.some.injEq] at h0
      subst h0
      rfl
  rw [e0, List.drop_zero] at g0
  unfold readHead
  rw [g0]
  simp only [Nat.zero_add, ne_eq, not_true_eq_false, if_false]
  rw [g 2 1 (by omega)]
  simp only [Nat.reduceAdd]
  rw [g 1 3 (by omega)]
  simp only [Nat.reduceAdd]
  rw [g 8 4 (by omega)]
  simp only [Nat.reduceAdd]
  rw [g 8 12 (by omega)]
  simp only [Nat.reduceAdd]
  rw [g 8 20 (by omega)]
  simp only [Nat.reduceAdd]
  rw [g 4 28 (by omega)]
  simp only [Nat.reduceAdd]
  rw [g 4 32 (by omega)]
  rfl
theorem head_bad {l : List UInt8} (h : l.length < 36 ∨ l.head? ≠ some 69) : readHead l = none := by
  cases hr : readHead l with
  | none => rfl
  | some x =>
    exfalso
    unfold readHead at hr
    repeat' split at hr
    all_goals first | (cases hr; done) | skip
    rename_i m s h1 h69 _ _ _ h2 _ _ _ h3 _ _ _ h4 _ _ _ h5 _ _ _ h6 _ _ _ h7 _ _ _ h8
    have a1 := getN_sz h1
    have a2 := getN_sz h2
    have a3 := getN_sz h3
    have a4 := getN_sz h4
    have a5 := getN_sz h5
    have a6 := getN_sz h6
    have a7 := getN_sz h7
    have a8 := getN_sz h8
    rcases h with h | h
    · omega
    · apply h
      cases l with
      | nil => simp at a1; omega
      | cons c l =>
        unfold getN at h1
        split at h1
        · cases h1
        · simp only [Option.some.injEq, Prod.mk.injEq] at h1
          obtain ⟨h1, _⟩ := h1
          have hc : valB (List.take 1 (c :: l)) = c.toNat := by simp [valB]
          rw [hc] at h1
          have h9 : c.toNat = 69 := by
            rcases Nat.decEq m 69 with hm | hm
            · exact absurd hm h69
            · omega
          simp only [List.head?_cons, Option.some.injEq]
          exact UInt8.toNat_inj.1 h9
theorem getX_sz {s r : List UInt8} {x : Int × Int} (h : getX s = some (x, r)) : s.length = 8 + r.length := by
  unfold getX at h
  split at h
  · cases h
  · rename_i a r1 h1
    obtain ⟨y, h2, h3⟩ := Option.map_eq_some_iff.1 h
    obtain ⟨b, r2⟩ := y
    simp only [Prod.mk.injEq] at h3
    obtain ⟨_, rfl⟩ := h3
    have := getN_sz h1
    have := getN_sz h2
    omega
theorem getXs_sz : ∀ (n : Nat) (s r : List UInt8) (L : List (Int × Int)), getAll getX n s = some (L, r) → s.length = 8 * n + r.length
  | 0, s, r, L, h => by
    simp only [getAll, Option.some.injEq, Prod.mk.injEq] at h
    obtain ⟨_, rfl⟩ := h
    omega
  | n + 1, s, r, L, h => by
    unfold getAll at h
    split at h
    · cases h
    · rename_i x r1 h1
      obtain ⟨y, h2, h3⟩ := Option.map_eq_some_iff.1 h
      obtain ⟨M, r2⟩ := y
      simp only [Prod.mk.injEq] at h3
      obtain ⟨_, rfl⟩ := h3
      have := getX_sz h1
      have := getXs_sz n r1 r2 M h2
      omega
theorem tail_three (h : Head19) (s : List UInt8) : readTail h s = match getAll getT 3 s with
    | none => none
    | some (T, s) => restR h T s := by
  unfold readTail
  cases h1 : getT s with
  | none => simp [getAll, h1]
  | some x =>
    obtain ⟨a, r⟩ := x
    simp only
    cases h2 : getT r with
    | none => simp [getAll, h1, h2]
    | some y =>
      obtain ⟨b, r2⟩ := y
      simp only
      cases h3 : getT r2 with
      | none => simp [getAll, h1, h2, h3]
      | some z =>
        obtain ⟨c, r3⟩ := z
        simp only [getAll, h1, h2, h3, Option.map_some]
        unfold restR
        cases getN 1 r3 with
        | none => rfl
        | some q =>
          obtain ⟨n, r4⟩ := q
          simp only
          cases getAll getT n r4 with
          | none => rfl
          | some q =>
            obtain ⟨N, r5⟩ := q
            simp only
            cases getN 1 r5 with
            | none => rfl
            | some q =>
              obtain ⟨n2, r6⟩ := q
              simp only
              cases getAll getF n2 r6 with
              | none => rfl
              | some q =>
                obtain ⟨F, r7⟩ := q
                simp only
                cases getN 1 r7 with
                | none => rfl
                | some q =>
                  obtain ⟨n3, r8⟩ := q
                  simp only
                  cases getAll getX n3 r8 with
                  | none => rfl
                  | some q => rfl
def keepU : Option (Entry × List UInt8) → Option Entry
  | none => none
  | some (e, r) => if r = [] ∧ rightE e = true then some e else none
theorem rest_doc (h : Head19) (T : List (List UInt8)) (s : List UInt8) : keepU (restR h T s) = namesU h T s := by
  unfold restR namesU
  cases getN 1 s with
  | none => rfl
  | some q =>
    obtain ⟨n, r4⟩ := q
    simp only
    cases getAll getT n r4 with
    | none => rfl
    | some q =>
      obtain ⟨N, r5⟩ := q
      simp only
      unfold fieldsU
      cases getN 1 r5 with
      | none => rfl
      | some q =>
        obtain ⟨n2, r6⟩ := q
        simp only
        cases getAll getF n2 r6 with
        | none => rfl
        | some q =>
          obtain ⟨F, r7⟩ := q
          simp only
          unfold bodyU
          cases getN 1 r7 with
          | none => rfl
          | some q =>
            obtain ⟨n3, r8⟩ := q
            simp only
            cases hx : getAll getX n3 r8 with
            | none => simp [keepU]
            | some q =>
              obtain ⟨X, r9⟩ := q
              have hz := getXs_sz _ _ _ _ hx
              simp only [keepU]
              by_cases h8 : r8.length = 8 * n3
              · have h9 : r9 = [] := List.eq_nil_of_length_eq_zero (by omega)
                subst h9
                simp [h8]
              · have h9 : r9 ≠ [] := fun e => by rw [e] at hz; simp at hz; omega
                simp [h8, h9]
end IH
namespace Go.Proofs.YtkodeeneljkgeaaDoor
open Go.RowKit IH
set_option maxRecDepth 100000
theorem unpack_none1 {l : List UInt8} (h : l.length < 36 ∨ l.head? ≠ some 69) : unpackE l = none := by
  unfold unpackE readE
  rw [head_bad h]
theorem unpack_none2 {l : List UInt8} (h : 8000 < l.length) : unpackE l = none := by
  unfold unpackE
  cases readE l with
  | none => rfl
  | some x => obtain ⟨e, r⟩ := x; simp only; rw [if_neg (by omega)]
theorem unpack_doc {l : List UInt8} (h : 36 ≤ l.length) (h0 : l.head? = some 69) (h8 : l.length ≤ 8000) : unpackE l = tailU (headU l) (l.drop 36) := by
  unfold unpackE readE
  rw [head_of h h0]
  simp only
  rw [tail_three]
  unfold tailU
  cases getAll getT 3 (l.drop 36) with
  | none => rfl
  | some q =>
    obtain ⟨T, s⟩ := q
    simp only
    rw [← rest_doc]
    cases restR (headU l) T s with
    | none => rfl
    | some q =>
      obtain ⟨e, r⟩ := q
      simp only [keepU]
      congr 1
      simp [h8]
end Go.Proofs.YtkodeeneljkgeaaDoor
