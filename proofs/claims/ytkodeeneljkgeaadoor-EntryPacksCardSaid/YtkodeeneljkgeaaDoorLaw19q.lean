/- Layer 19's laws: EntryPacks for all entries that came in. Condition: the entry's own (EntW). -/
import Derived.Test.YtkodeeneljkgeaaDoorLaw19p
import Derived.Test.YtkodeeneljkgeaaDoorLaw19c
import Derived.Test.YtkodeeneljkgeaaDoorEn19
namespace Go.Proofs.YtkodeeneljkgeaaDoor
open Go.RowKit IH
set_option maxRecDepth 100000
theorem entc_one (e : Entry) (p : EntA) : ∀ v ∈ entC e p, v.oneCell' = true := by
  intro v hv
  simp only [entC, List.mem_cons, List.not_mem_nil, or_false] at hv
  rcases hv with rfl | rfl | rfl | rfl | rfl | rfl | rfl | rfl | rfl | rfl | rfl | rfl | rfl | rfl | rfl <;> rfl
theorem epacks_walk (w : World) (e : Entry) (p : EntA) (hin : EntIn w w.heap.size e p) (hw : EntW e) :
    Calls Tryd.prog 5 #[.agg (entC e p).toArray] w fun x w' => x = .returned (.bool true) ∧ Below w.heap.size w w' := by
  have FA := fun W (hW : Below w.heap.size w W) => few_any e p W (hin.at_ hW)
  cases hfa : fewE e
  · rw [hfa] at FA
    exact epacks_1 (entC e p) (entc_len e p) w FA
  rw [hfa] at FA
  have fa := fewE_iff.1 hfa
  have sa := ents_of fa hin hw
  have RA := fun W (hW : Below w.heap.size w W) => rright19_any e p W (hin.at_ hW) sa
  have ER := fun W (hW : Below w.heap.size w W) => eright_any e p W (hin.at_ hW) sa
  cases hra : rightE e
  · rw [hra] at RA ER
    exact epacks_2 (entC e p) (entc_len e p) w FA RA (fun W hW => pack_bad e p W (hin.at_ hW) sa hra) ER
  rw [hra] at RA ER
  have hk := packok_of fa hw hra
  have hl := few_pack fa
  have RP : ∀ W, Below w.heap.size w W → Calls Tryd.prog 15 #[.agg (entC e p).toArray] W fun x w' => ∃ A c, x = .returned (.slice A (packL e).length c) ∧ SliceIn w' w'.heap.size 1 A (packL e).length c (bytesV (packL e)) ∧ Below W.heap.size W w' := fun W hW => by
    refine (rpack_any e p W (hin.at_ hW) sa hk (by omega)).mono ?_
    rintro x w' ⟨v, rfl, ho, hb⟩
    obtain ⟨A, k, rfl, hs⟩ := own_slice ho
    exact ⟨A, k, rfl, hs, hb⟩
  by_cases h8 : 8000 < (packL e).length
  · refine epacks_3 (entC e p) (entc_len e p) w (packL e) FA RA (fun W hW => ?_) ER RP (by omega)
    refine (epack_any e p W (hin.at_ hW) sa hra hk (by omega)).mono ?_
    rintro x w' ⟨⟨h1, _⟩, hb⟩
    exact ⟨h1 h8, hb⟩
  · refine epacks_4 (entC e p) (entc_len e p) w (packL e) (fun D W => ∃ q, D = entC e q ∧ EntIn W W.heap.size e q) FA RA (fun W hW => ?_) ER RP (fun W A c hW hs => ?_) (fun D W W' hG hb => ?_) (fun W D hW hG => ?_) (fun W D hW hG => ?_) (by omega)
    · refine (epack_any e p W (hin.at_ hW) sa hra hk (by omega)).mono ?_
      rintro x w' ⟨⟨_, h1⟩, hb⟩
      obtain ⟨v, rfl, ho⟩ := h1 (by omega)
      obtain ⟨A, k, rfl, hsl⟩ := own_slice ho
      exact ⟨A, k, rfl, hsl, hb⟩
    · obtain ⟨b0, off, rfl, hb0, _⟩ := hs.2.2.2 (by unfold packL; simp)
      refine (unpack_ok b0 off _ c (packL e) e W hs hb0 (by omega) (read_pack hk) hra (fun W q h => ents_of fa h hw)).mono ?_
      rintro x w' ⟨q, rfl, ho, hb⟩
      exact ⟨entC e q, rfl, ⟨q, rfl, ho.ent⟩, entc_len e q, entc_one e q, hb⟩
    · obtain ⟨q, rfl, h⟩ := hG
      exact ⟨q, rfl, h.at_ hb⟩
    · obtain ⟨q, rfl, h⟩ := hG
      have sq := ents_of fa h hw
      have r := rsame19_any e e q p W h (hin.at_ hW) ⟨by have := sq.n1; omega, by have := sq.n2; omega, by have := sq.n3; omega⟩
      rw [sameE_refl] at r
      exact r
    · obtain ⟨q, rfl, h⟩ := hG
      have sq := ents_of fa h hw
      have r := esame_any e e q p W h (hin.at_ hW) ⟨by have := sq.n1; omega, by have := sq.n2; omega, by have := sq.n3; omega⟩
      rw [sameE_refl] at r
      exact r
end Go.Proofs.YtkodeeneljkgeaaDoor
