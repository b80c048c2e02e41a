/- Walk of layer 27: the document's deed of a line. Condition: lines within 10^8 octets. -/
import Derived.Test.YtmcioedmjcbfbaaScr20
import Derived.Test.YtmcioedmjcbfbaaScr6
import Derived.Test.YtmcioedmjcbfbaaScr11
import Derived.Test.YtmcioedmjcbfbaaPm
namespace Go.Proofs.Ytmcioedmjcbfbaa
open Go.RowKit IH
set_option maxRecDepth 100000
theorem words_le {s : List UInt8} {x : List UInt8} (h : x ∈ wordsL s) : x.length ≤ s.length := by
  obtain ⟨w, ws, h1, h2⟩ := words_join s
  rw [h1] at h
  rw [h2, List.length_append]
  rcases List.mem_cons.1 h with rfl | h
  · omega
  · obtain ⟨a, b, rfl⟩ := List.append_of_mem h
    simp only [List.flatMap_append, List.flatMap_cons, List.length_append, List.length_cons]
    omega
def NAMES27 : List Value := [0, 1, 2, 3, 4, 5, 6, 7, 8, 9, 10].map fun k : Nat => .string ⟨(nameK k).toArray⟩
def COUNTS27 : List Value := [0, 1, 2, 3, 4, 5, 6, 7, 8, 9, 10].map fun k : Nat => .int .i64 (wordsN k)
theorem names_get {k : Nat} (h : k < 11) : NAMES27[k]? = some (.string ⟨(nameK k).toArray⟩) ∧ COUNTS27[k]? = some (.int .i64 (wordsN k)) := by
  have : k = 0 ∨ k = 1 ∨ k = 2 ∨ k = 3 ∨ k = 4 ∨ k = 5 ∨ k = 6 ∨ k = 7 ∨ k = 8 ∨ k = 9 ∨ k = 10 := by omega
  rcases this with rfl | rfl | rfl | rfl | rfl | rfl | rfl | rfl | rfl | rfl | rfl <;> exact ⟨rfl, rfl⟩
theorem names_lit : NAMES27.toArray = #[.string ⟨#[111, 112, 101, 110]⟩, .string ⟨#[99, 108, 105, 101, 110, 116]⟩, .string ⟨#[111, 114, 105, 103, 105, 110]⟩, .string ⟨#[104, 97, 110, 103]⟩, .string ⟨#[113, 117, 105, 116]⟩, .string ⟨#[112, 105, 99, 107]⟩, .string ⟨#[116, 105, 99, 107]⟩, .string ⟨#[102, 97, 105, 108]⟩, .string ⟨#[108, 105, 109, 105, 116]⟩, .string ⟨#[99, 114, 97, 115, 104]⟩, .string ⟨#[115, 121, 110, 99]⟩] := by kernel_rfl
theorem counts_lit : COUNTS27.toArray = #[.int .i64 1, .int .i64 3, .int .i64 3, .int .i64 2, .int .i64 2, .int .i64 3, .int .i64 2, .int .i64 (-1), .int .i64 2, .int .i64 5, .int .i64 1] := by kernel_rfl
theorem Own3.nil (w : World) (B : Nat) (d : Deed) (hb : d.b = []) (hc : d.calls = []) (hk : d.keep = []) : Own3 w B d (.slice none 0 0) (.slice none 0 0) (.slice none 0 0) := by
  refine ⟨?_, ?_, ?_⟩
  · rw [hb]; exact World.ownsRow_nil _ _ _ _
  · rw [hc]; exact World.ownsRow_nil _ _ _ _
  · rw [hk]; exact World.ownsRow_nil _ _ _ _
theorem len2 {α : Type} {l : List α} (h : l.length = 2) : ∃ a b, l = [a, b] := by
  rcases l with _ | ⟨a, _ | ⟨b, _ | ⟨c, l⟩⟩⟩
  · simp at h
  · simp at h
  · exact ⟨a, b, rfl⟩
  · simp at h
theorem len4 {α : Type} {l : List α} (h : l.length = 4) : ∃ a b c d, l = [a, b, c, d] := by
  rcases l with _ | ⟨a, _ | ⟨b, _ | ⟨c, _ | ⟨d, _ | ⟨e, l⟩⟩⟩⟩⟩
  · simp at h
  · simp at h
  · simp at h
  · simp at h
  · exact ⟨a, b, c, d, rfl⟩
  · simp at h
theorem own_oct {w : World} {gd B : Nat} {cs : List Value} {d : Deed} {vB : Value} {n : Nat} (u v : Value) (hr : RowAt w gd 53 cs) (hv : w.ownsRow B 5 1 vB n (bytesV d.b)) (hn : n = d.b.length) (hc : d.calls = []) (hk : d.keep = []) :
    Own3 ((w.setCell ⟨gd, 1, none⟩ u).setCell ⟨gd, 3, none⟩ v) B d vB (.slice none 0 0) (.slice none 0 0) := by
  have K : Kept3 w ((w.setCell ⟨gd, 1, none⟩ u).setCell ⟨gd, 3, none⟩ v) := Kept3.only ((Only.setCell gd 1 w u).trans (Only.setCell gd 3 _ v)) hr (by decide)
  refine ⟨?_, ?_, ?_⟩
  · rw [← hn]; exact own_keep hv fun k cur hh => K k cur _ (.inl rfl) hh
  · rw [hc]; exact World.ownsRow_nil _ _ _ _
  · rw [hk]; exact World.ownsRow_nil _ _ _ _
theorem far_cell {w : World} {p q : Addr} {u x : Value} (h : w.cell? q = some x) (hb : q.block ≠ p.block) : (w.setCell p u).cell? q = some x := (World.cell?_setCell_other w p q u (fun e => hb (by rw [e]))).trans h
theorem flat_len : ∀ ws : List (List UInt8), ws.length ≤ (ws.flatMap fun x => 32 :: x).length
  | [] => by simp
  | x :: ws => by
    have := flat_len ws
    simp only [List.flatMap_cons, List.length_append, List.length_cons]
    omega
theorem own_at {w : World} {base : Nat} {e : TypeId} {n : Nat} {v : Value} {xs : List Value} (h : w.ownsRow base e 1 v n xs) (hn : 0 < n) :
    ∃ b cap, v = .slice (some ⟨b, 0, none⟩) n cap ∧ base ≤ b ∧ b < w.heap.size ∧ ∀ j u, xs[j]? = some u → w.cell? ⟨b, j, none⟩ = some u := by
  rcases h.2 with ⟨_, h0⟩ | ⟨g, cap, cur, rfl, hb, hh, _⟩
  · omega
  · refine ⟨g, cap, rfl, hb, (Array.getElem?_eq_some_iff.1 hh).1, fun j u hu => ?_⟩
    have := h.cells (g := g) rfl j u hu
    rwa [add_plain, Nat.zero_add] at this
theorem three_one {a b c : Value} (ha : a.oneCell' = true) (hb : b.oneCell' = true) (hc : c.oneCell' = true) : ∀ u ∈ [a, b, c], u.oneCell' = true := by
  intro u hu
  simp only [List.mem_cons, List.not_mem_nil, or_false] at hu
  rcases hu with rfl | rfl | rfl
  · exact ha
  · exact hb
  · exact hc
theorem lt_of_cell {w : World} {b o : Nat} {u : Value} (h : w.cell? ⟨b, o, none⟩ = some u) : b < w.heap.size := by
  rcases Nat.lt_or_ge b w.heap.size with hlt | hge
  · exact hlt
  · unfold World.cell? at h
    rw [Array.getElem?_eq_none hge] at h
    simp at h
/-- Store of a struct that is the last part of a block's known cells. -/
theorem wp_store_tail {P : Program} {Q : Exit → Act → World → Prop} {op : Oper} {a : Act} {w : World} {K : Act → World → Prop} (ty : TypeId) (x y : Operand) (ho : op.op = .store ty x y)
    (g off : Nat) (e : TypeId) (pre cs olds : List Value) (hoff : off = pre.length) (hx : a.eval x = .pointer (some ⟨g, off, none⟩)) (hy : a.eval y = .agg cs.toArray) (hr : RowAt w g e (pre ++ olds)) (hl : olds.length = cs.length)
    (hi : (P.info? ty).map (·.size) = some cs.length) (h1 : ∀ v ∈ cs, v.oneCell' = true)
    (h : ∀ w', RowAt w' g e (pre ++ cs) → Only g w w' → K (a.put op.dst undef) w') : op.wp P a w K Q := by
  subst hoff
  refine wp_store_mid ty x y ho g pre.length cs.toArray hx hy (fun j hj => ?_) (by simpa using hi) (all_oneCell_toArray h1) ?_
  · have hj' : pre.length + j < (pre ++ olds).length := by simp at hj ⊢; omega
    exact ⟨by rw [hr.cell (j := pre.length + j) (List.getElem?_eq_getElem hj')]; rfl, hr.frozen hj'⟩
  · rw [List.toList_toArray]
    exact h _ (row_sets cs olds pre w hr hl) (Only.setCells g cs pre.length w)
/-- What the document's reading of a line answers. -/
def rlineV (U : Option Deed) (B : Nat) (e : Ending) (w : World) : Prop :=
  ∃ vB vC vK, e = .returned (.tuple #[.agg (cells8 (U.getD (Deed.of 0)) vB vC vK).toArray, .bool U.isSome]) ∧ Own3 w B (U.getD (Deed.of 0)) vB vC vK
end Go.Proofs.Ytmcioedmjcbfbaa
