/- Deeds in memory: their cells, the rows of a deed that a call has made, lists of deeds. No condition but as each states. -/
import Derived.Test.YtmcioedmjcbfbaaKt
import Derived.Test.YtmcioedmjcbfbaaScr7
import Derived.Test.YtmcioedmjcbfbaaPm
namespace Go.Proofs.Ytmcioedmjcbfbaa
open Go.RowKit IH
set_option maxRecDepth 100000
def intsV (l : List Int) : List Value := l.map (.int .i64)
theorem intsV_length (l : List Int) : (intsV l).length = l.length := by simp [intsV]
theorem intsV_append (a b : List Int) : intsV (a ++ b) = intsV a ++ intsV b := by simp [intsV]
theorem intsV_one (l : List Int) : ∀ u ∈ intsV l, u.oneCell' = true := by
  intro u hu
  obtain ⟨b, _, rfl⟩ := List.mem_map.1 hu
  rfl
theorem int_ty : SliceTy Try.prog 48 3 (.int .i64 0) 1 8 := ⟨Try.underlying48, by kernel_rfl, rfl, by decide⟩
def deedZ : Value := .agg #[.int .i64 0, .int .i64 0, .int .i64 0, .slice none 0 0, .slice none 0 0, .slice none 0 0, .int .i64 0, .int .i64 0]
theorem deed_ty : SliceTy Try.prog 37 53 deedZ 8 112 := ⟨Try.underlying37, by kernel_rfl, rfl, by decide⟩

/-- Own rows where their blocks are kept. -/
theorem own_keep {w w' : World} {base : Nat} {e : TypeId} {size n : Nat} {v : Value} {xs : List Value} (h : w.ownsRow base e size v n xs)
    (hk : ∀ (k : Nat) (cur : Array Value), w.heap[k]? = some (.cells cur e (0, 0)) → w'.heap[k]? = w.heap[k]?) : w'.ownsRow base e size v n xs := by
  refine ⟨h.1, ?_⟩
  rcases h.2 with h2 | ⟨g, cap, cur, hv, hg, hh, r⟩
  · exact .inl h2
  · exact .inr ⟨g, cap, cur, hv, hg, (hk g cur hh).trans hh, r⟩
theorem own_base {w : World} {base base' : Nat} {e : TypeId} {size n : Nat} {v : Value} {xs : List Value} (h : w.ownsRow base e size v n xs) (hb : base' ≤ base) : w.ownsRow base' e size v n xs := by
  refine ⟨h.1, ?_⟩
  rcases h.2 with h2 | ⟨g, cap, cur, hv, hg, hh, r⟩
  · exact .inl h2
  · exact .inr ⟨g, cap, cur, hv, by omega, hh, r⟩
/-- Blocks of the types of a deed's rows are kept. -/
def Kept3 (w w' : World) : Prop := ∀ (k : Nat) (cur : Array Value) (e : TypeId), (e = 5 ∨ e = 3 ∨ e = 4) → w.heap[k]? = some (.cells cur e (0, 0)) → w'.heap[k]? = w.heap[k]?
theorem Kept3.refl (w : World) : Kept3 w w := fun _ _ _ _ _ => rfl
theorem Kept3.trans {a b c : World} (h : Kept3 a b) (k : Kept3 b c) : Kept3 a c := fun i cur e he hh => (k i cur e he ((h i cur e he hh).trans hh)).trans (h i cur e he hh)
theorem Kept3.below {w w' : World} (h : Below w.heap.size w w') : Kept3 w w' := fun k _ _ _ hh => h.block k (Array.getElem?_eq_some_iff.1 hh).1
theorem Kept3.only {w w' : World} {g : Nat} {t : TypeId} {cs : List Value} (h : Only g w w') (hr : RowAt w g t cs) (ht : t ≠ 5 ∧ t ≠ 3 ∧ t ≠ 4) : Kept3 w w' := by
  intro k cur e he hh
  refine h.block k ?_
  rintro rfl
  obtain ⟨cur', lo, hi, h2, _⟩ := hr
  rw [hh] at h2
  injection h2 with h2
  injection h2 with _ h3
  subst h3
  rcases he with rfl | rfl | rfl
  · exact ht.1 rfl
  · exact ht.2.1 rfl
  · exact ht.2.2 rfl
theorem Kept3.grown {w w' : World} {row : Option Nat} (h : w.grownBy w' row) (hr : ∀ (g : Nat), row = some g → ∃ (cur : Array Value) (t : TypeId), w.heap[g]? = some (.cells cur t (0, 0)) ∧ t ≠ 5 ∧ t ≠ 3 ∧ t ≠ 4) : Kept3 w w' := by
  intro k cur e he hh
  refine h.block k (Array.getElem?_eq_some_iff.1 hh).1 ?_
  intro hk
  obtain ⟨cur', t, h2, ht⟩ := hr k hk.symm
  rw [hh] at h2
  injection h2 with h2
  injection h2 with _ h3
  subst h3
  rcases he with rfl | rfl | rfl
  · exact ht.1 rfl
  · exact ht.2.1 rfl
  · exact ht.2.2 rfl
theorem own_block {w : World} {base : Nat} {e : TypeId} {size n : Nat} {v : Value} {xs : List Value} (h : w.ownsRow base e size v n xs) : ∀ (g : Nat), v.ownBlock = some g → ∃ cur : Array Value, w.heap[g]? = some (.cells cur e (0, 0)) ∧ base ≤ g := by
  intro g hg
  rcases h.2 with ⟨rfl, _⟩ | ⟨k, cap, cur, rfl, hk, hh, _⟩
  · cases hg
  · injection hg with hg
    subst hg
    exact ⟨cur, hh, hk⟩

theorem RowAt.grown {w w' : World} {g : Nat} {t e : TypeId} {cs : List Value} {row : Option Nat} {base : Nat} (h : RowAt w g t cs) (hg : w.grownBy w' row) (hr : ∀ (k : Nat), row = some k → ∃ cur : Array Value, w.heap[k]? = some (.cells cur e (0, 0)) ∧ base ≤ k) (hne : t ≠ e) : RowAt w' g t cs := by
  refine h.keep (hg.block g h.lt ?_)
  intro hk
  obtain ⟨cur, h2, _⟩ := hr g hk.symm
  obtain ⟨cur', lo, hi, h3, _⟩ := h
  rw [h3] at h2
  injection h2 with h2
  injection h2 with _ h4
  exact hne h4
theorem own_grown {w w' : World} {base base' size n : Nat} {e e' : TypeId} {v : Value} {xs : List Value} {row : Option Nat} (h : w.ownsRow base e size v n xs) (hg : w.grownBy w' row) (hr : ∀ (k : Nat), row = some k → ∃ cur : Array Value, w.heap[k]? = some (.cells cur e' (0, 0)) ∧ base' ≤ k) (hne : e ≠ e') : w'.ownsRow base e size v n xs := by
  refine own_keep h fun k cur hh => hg.block k (Array.getElem?_eq_some_iff.1 hh).1 ?_
  intro hk
  obtain ⟨cur', h2, _⟩ := hr k hk.symm
  rw [hh] at h2
  injection h2 with h2
  injection h2 with _ h4
  exact hne h4

/-- A deed's cells; its rows are the call's own. -/
def cells8 (d : Deed) (vB vC vK : Value) : List Value := [.int .i64 d.kind, .int .i64 d.conn, .int .i64 d.n, vB, vC, vK, .int .i64 d.torn, .int .i64 d.part]
structure Own3 (w : World) (B : Nat) (d : Deed) (vB vC vK : Value) : Prop where
  b : w.ownsRow B 5 1 vB d.b.length (bytesV d.b)
  c : w.ownsRow B 3 1 vC d.calls.length (intsV d.calls)
  k : w.ownsRow B 4 1 vK d.keep.length (boolsV d.keep)
theorem Own3.keep {w w' : World} {B : Nat} {d : Deed} {vB vC vK : Value} (h : Own3 w B d vB vC vK) (hk : Kept3 w w') : Own3 w' B d vB vC vK :=
  ⟨own_keep h.b fun k cur hh => hk k cur _ (.inl rfl) hh, own_keep h.c fun k cur hh => hk k cur _ (.inr (.inl rfl)) hh, own_keep h.k fun k cur hh => hk k cur _ (.inr (.inr rfl)) hh⟩
theorem Own3.base {w : World} {B B' : Nat} {d : Deed} {vB vC vK : Value} (h : Own3 w B d vB vC vK) (hb : B' ≤ B) : Own3 w B' d vB vC vK := ⟨own_base h.b hb, own_base h.c hb, own_base h.k hb⟩
theorem Own3.of (w : World) (B : Nat) (k : Int) : Own3 w B (Deed.of k) (.slice none 0 0) (.slice none 0 0) (.slice none 0 0) := ⟨World.ownsRow_nil _ _ _ _, World.ownsRow_nil _ _ _ _, World.ownsRow_nil _ _ _ _⟩
theorem own_one {w : World} {base : Nat} {e : TypeId} {size n : Nat} {v : Value} {xs : List Value} (h : w.ownsRow base e size v n xs) : v.oneCell' = true := by
  rcases h.2 with ⟨rfl, _⟩ | ⟨g, cap, cur, rfl, _⟩ <;> rfl
theorem Own3.one {w : World} {B : Nat} {d : Deed} {vB vC vK : Value} (h : Own3 w B d vB vC vK) : ∀ u ∈ cells8 d vB vC vK, u.oneCell' = true := by
  intro u hu
  simp only [cells8, List.mem_cons, List.not_mem_nil, or_false] at hu
  rcases hu with rfl | rfl | rfl | rfl | rfl | rfl | rfl | rfl
  · rfl
  · rfl
  · rfl
  · exact own_one h.b
  · exact own_one h.c
  · exact own_one h.k
  · rfl
  · rfl
/-- The deed in block g. -/
def DeedAt (w : World) (g : Nat) (t : TypeId) (B : Nat) (d : Deed) : Prop := ∃ vB vC vK, RowAt w g t (cells8 d vB vC vK) ∧ Own3 w B d vB vC vK
theorem DeedAt.below {w w' : World} {g : Nat} {t : TypeId} {B : Nat} {d : Deed} (h : DeedAt w g t B d) (hb : Below w.heap.size w w') : DeedAt w' g t B d := by
  obtain ⟨vB, vC, vK, h1, h2⟩ := h
  exact ⟨vB, vC, vK, h1.below hb h1.lt, h2.keep (Kept3.below hb)⟩
/-- Deeds, one behind the other. -/
def DeedsV (w : World) (B : Nat) : List Deed → List Value → Prop
  | [], V => V = []
  | d :: L, V => ∃ vB vC vK V', V = cells8 d vB vC vK ++ V' ∧ Own3 w B d vB vC vK ∧ DeedsV w B L V'
theorem DeedsV.keep {w w' : World} {B : Nat} (hk : Kept3 w w') : ∀ {L : List Deed} {V : List Value}, DeedsV w B L V → DeedsV w' B L V
  | [], _, h => h
  | _ :: _, _, ⟨vB, vC, vK, V', h1, h2, h3⟩ => ⟨vB, vC, vK, V', h1, h2.keep hk, DeedsV.keep hk h3⟩
theorem DeedsV.snoc {w : World} {B : Nat} {d : Deed} {vB vC vK : Value} (h : Own3 w B d vB vC vK) : ∀ {L : List Deed} {V : List Value}, DeedsV w B L V → DeedsV w B (L ++ [d]) (V ++ cells8 d vB vC vK)
  | [], V, (hV : V = []) => by subst hV; exact ⟨vB, vC, vK, [], by simp, h, rfl⟩
  | _ :: _, _, ⟨xB, xC, xK, V', h1, h2, h3⟩ => ⟨xB, xC, xK, V' ++ cells8 d vB vC vK, by rw [h1, List.append_assoc], h2, DeedsV.snoc h h3⟩
theorem DeedsV.length {w : World} {B : Nat} : ∀ {L : List Deed} {V : List Value}, DeedsV w B L V → V.length = L.length * 8
  | [], V, (hV : V = []) => by subst hV; rfl
  | _ :: L, V, ⟨xB, xC, xK, V', h1, _, h3⟩ => by
    rw [h1, List.length_append, DeedsV.length h3, List.length_cons]; simp [cells8]; omega
theorem DeedsV.one {w : World} {B : Nat} : ∀ {L : List Deed} {V : List Value}, DeedsV w B L V → ∀ u ∈ V, u.oneCell' = true
  | [], V, (hV : V = []), u, hu => by subst hV; cases hu
  | _ :: L, V, ⟨xB, xC, xK, V', h1, h2, h3⟩, u, hu => by
    rw [h1, List.mem_append] at hu
    rcases hu with hu | hu
    · exact h2.one u hu
    · exact DeedsV.one h3 u hu

/-- A deed that can be read: its slices read as lists. -/
def DeedR (w : World) (B : Nat) (d : Deed) (cs : List Value) : Prop := ∃ AB nB cB AC nC cC AK nK cK, cs = cells8 d (.slice AB nB cB) (.slice AC nC cC) (.slice AK nK cK) ∧
  SliceIn w B 1 AB nB cB (bytesV d.b) ∧ SliceIn w B 1 AC nC cC (intsV d.calls) ∧ SliceIn w B 1 AK nK cK (boolsV d.keep)
theorem DeedR.below {w w' : World} {B : Nat} {d : Deed} {cs : List Value} (h : DeedR w B d cs) (hb : Below B w w') : DeedR w' B d cs := by
  obtain ⟨AB, nB, cB, AC, nC, cC, AK, nK, cK, e, h1, h2, h3⟩ := h
  exact ⟨AB, nB, cB, AC, nC, cC, AK, nK, cK, e, h1.below hb, h2.below hb, h3.below hb⟩
theorem DeedR.more {w : World} {B B' : Nat} {d : Deed} {cs : List Value} (h : DeedR w B d cs) (hb : B ≤ B') : DeedR w B' d cs := by
  obtain ⟨AB, nB, cB, AC, nC, cC, AK, nK, cK, e, h1, h2, h3⟩ := h
  exact ⟨AB, nB, cB, AC, nC, cC, AK, nK, cK, e, h1.more hb, h2.more hb, h3.more hb⟩
theorem Own3.read {w : World} {B : Nat} {d : Deed} {vB vC vK : Value} (h : Own3 w B d vB vC vK) : DeedR w w.heap.size d (cells8 d vB vC vK) := by
  obtain ⟨AB, cB, rfl, h1⟩ := own_slice h.b
  obtain ⟨AC, cC, rfl, h2⟩ := own_slice h.c
  obtain ⟨AK, cK, rfl, h3⟩ := own_slice h.k
  exact ⟨AB, _, cB, AC, _, cC, AK, _, cK, rfl, h1, h2, h3⟩
def DeedsR (w : World) (B : Nat) : List Deed → List Value → Prop
  | [], V => V = []
  | d :: L, V => ∃ cs V', V = cs ++ V' ∧ DeedR w B d cs ∧ DeedsR w B L V'
theorem DeedsV.read {w : World} {B : Nat} : ∀ {L : List Deed} {V : List Value}, DeedsV w B L V → DeedsR w w.heap.size L V
  | [], _, h => h
  | _ :: _, _, ⟨_, _, _, V', h1, h2, h3⟩ => ⟨_, V', h1, h2.read, DeedsV.read h3⟩
theorem DeedsR.below {w w' : World} {B : Nat} (hb : Below B w w') : ∀ {L : List Deed} {V : List Value}, DeedsR w B L V → DeedsR w' B L V
  | [], _, h => h
  | _ :: _, _, ⟨cs, V', h1, h2, h3⟩ => ⟨cs, V', h1, h2.below hb, DeedsR.below hb h3⟩
theorem DeedsR.more {w : World} {B B' : Nat} (hb : B ≤ B') : ∀ {L : List Deed} {V : List Value}, DeedsR w B L V → DeedsR w B' L V
  | [], _, h => h
  | _ :: _, _, ⟨cs, V', h1, h2, h3⟩ => ⟨cs, V', h1, h2.more hb, DeedsR.more hb h3⟩
theorem DeedR.length {w : World} {B : Nat} {d : Deed} {cs : List Value} (h : DeedR w B d cs) : cs.length = 8 := by
  obtain ⟨AB, nB, cB, AC, nC, cC, AK, nK, cK, e, _⟩ := h
  rw [e]; rfl
theorem DeedsR.get {w : World} {B : Nat} : ∀ {L : List Deed} {V : List Value}, DeedsR w B L V → ∀ (k : Nat) (d : Deed), L[k]? = some d → ∃ cs, DeedR w B d cs ∧ ∀ j u, cs[j]? = some u → V[k * 8 + j]? = some u
  | [], _, _, k, d, hk => by simp at hk
  | x :: L, V, ⟨cs, V', h1, h2, h3⟩, k, d, hk => by
    cases k with
    | zero =>
      simp only [List.getElem?_cons_zero, Option.some.injEq] at hk
      subst hk
      refine ⟨cs, h2, fun j u hu => ?_⟩
      rw [h1, Nat.zero_mul, Nat.zero_add, List.getElem?_append_left (List.getElem?_eq_some_iff.1 hu).1]
      exact hu
    | succ k =>
      rw [List.getElem?_cons_succ] at hk
      obtain ⟨cs', h4, h5⟩ := DeedsR.get h3 k d hk
      refine ⟨cs', h4, fun j u hu => ?_⟩
      have hl := h2.length
      rw [h1, List.getElem?_append_right (by omega), hl, show (k + 1) * 8 + j - 8 = k * 8 + j by omega]
      exact h5 j u hu
theorem DeedsR.length {w : World} {B : Nat} : ∀ {L : List Deed} {V : List Value}, DeedsR w B L V → V.length = L.length * 8
  | [], V, (hV : V = []) => by subst hV; rfl
  | _ :: L, V, ⟨cs, V', h1, h2, h3⟩ => by
    rw [h1, List.length_append, DeedsR.length h3, List.length_cons, h2.length]; omega
/-- A deed of a slice: its cells. -/
theorem deed_at {w : World} {B n c : Nat} {A : Option Addr} {L : List Deed} {V : List Value} (h : SliceIn w B 8 A n c V) (hR : DeedsR w B L V) {k : Nat} {d : Deed} (hk : L[k]? = some d) :
    ∃ b off cs, A = some ⟨b, off, none⟩ ∧ b < B ∧ DeedR w B d cs ∧ ∀ j u, cs[j]? = some u → w.cell? ⟨b, off + k * 8 + j, none⟩ = some u := by
  obtain ⟨h1, h2, h3, h4⟩ := h
  have hkl : k < L.length := (List.getElem?_eq_some_iff.1 hk).1
  rw [hR.length] at h1
  obtain ⟨b, off, rfl, hb, hc⟩ := h4 (by omega)
  obtain ⟨cs, h5, h6⟩ := hR.get k d hk
  exact ⟨b, off, cs, rfl, hb, h5, fun j u hu => by rw [Nat.add_assoc]; exact hc _ _ (h6 j u hu)⟩
end Go.Proofs.Ytmcioedmjcbfbaa
