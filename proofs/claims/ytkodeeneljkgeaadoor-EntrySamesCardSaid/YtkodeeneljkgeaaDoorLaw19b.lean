/- Layer 19's laws: EntrySames for all entries that came in. Condition: the entries' own (EntW). -/
import Derived.Test.YtkodeeneljkgeaaDoorLaw19a
import Derived.Test.YtkodeeneljkgeaaDoorLaw19c
namespace Go.Proofs.YtkodeeneljkgeaaDoor
open Go.RowKit IH
set_option maxRecDepth 100000
theorem esames_walk (w : World) (a : Entry) (p : EntA) (ha : EntIn w w.heap.size a p) (wa : EntW a) (b : Entry) (q : EntA) (hb : EntIn w w.heap.size b q) (wb : EntW b) :
    Calls Tryd.prog 4 #[.agg (entC a p).toArray, .agg (entC b q).toArray] w fun e w' => e = .returned (.bool true) ∧ Below w.heap.size w w' := by
  have FA := fun W (hW : Below w.heap.size w W) => few_any a p W (ha.at_ hW)
  have FB := fun W (hW : Below w.heap.size w W) => few_any b q W (hb.at_ hW)
  cases hfa : fewE a
  · rw [hfa] at FA
    exact esames_1 (entC a p) (entC b q) (entc_len a p) (entc_len b q) w FA
  cases hfb : fewE b
  · rw [hfa] at FA
    rw [hfb] at FB
    exact esames_2 (entC a p) (entC b q) (entc_len a p) (entc_len b q) w FA FB
  rw [hfa] at FA
  rw [hfb] at FB
  have fa := fewE_iff.1 hfa
  have fb := fewE_iff.1 hfb
  have sa := ents_of fa ha wa
  have sb := ents_of fb hb wb
  have bn : p.n1 ≤ 1000000000 ∧ p.n2 ≤ 1000000000 ∧ p.n3 ≤ 1000000000 := ⟨by have := sa.n1; omega, by have := sa.n2; omega, by have := sa.n3; omega⟩
  have SM := fun W (hW : Below w.heap.size w W) => rsame19_any a b p q W (ha.at_ hW) (hb.at_ hW) bn
  have ES := fun W (hW : Below w.heap.size w W) => esame_any a b p q W (ha.at_ hW) (hb.at_ hW) bn
  have EA : ∀ W, Below w.heap.size w W → Calls Tryd.prog 11 #[.agg (entC a p).toArray, .agg (entC a p).toArray] W fun e w' => e = .returned (.bool true) ∧ Below W.heap.size W w' := fun W hW => by
    have h := esame_any a a p p W (ha.at_ hW) (ha.at_ hW) bn
    rw [sameE_refl] at h
    exact h
  have RA := fun W (hW : Below w.heap.size w W) => rright19_any a p W (ha.at_ hW) sa
  have RB := fun W (hW : Below w.heap.size w W) => rright19_any b q W (hb.at_ hW) sb
  cases hra : rightE a
  · rw [hra] at RA
    exact esames_3 (entC a p) (entC b q) (entc_len a p) (entc_len b q) w _ FA FB SM ES EA RA
  cases hrb : rightE b
  · rw [hra] at RA
    rw [hrb] at RB
    exact esames_4 (entC a p) (entC b q) (entc_len a p) (entc_len b q) w _ FA FB SM ES EA RA RB
  rw [hra] at RA
  rw [hrb] at RB
  obtain ⟨ea, XA, PA, pa⟩ := pack_form a p w ha fa wa hra
  obtain ⟨eb, XB, PB, pb⟩ := pack_form b q w hb fb wb hrb
  by_cases za : ea = 0
  · subst za
    by_cases zb : eb = 0
    · subst zb
      obtain rfl := pa rfl
      obtain rfl := pb rfl
      refine esames_7 (entC a p) (entC b q) (entc_len a p) (entc_len b q) w _ _ _ FA FB SM ES EA RA RB PA PB ?_
      rw [Bool.eq_iff_iff, beq_iff_eq, sameE_iff]
      exact pack_same (packok_of fa wa hra) (packok_of fb wb hrb)
    · exact esames_6 (entC a p) (entC b q) (entc_len a p) (entc_len b q) w _ _ _ _ FA FB SM ES EA RA RB PA PB zb
  · exact esames_5 (entC a p) (entC b q) (entc_len a p) (entc_len b q) w _ _ _ _ _ FA FB SM ES EA RA RB PA PB za
end Go.Proofs.YtkodeeneljkgeaaDoor
