/- Layer 19's laws: what a law's few gives: sizes, octets. Condition: the entry's own (EntW). -/
import Derived.Test.YtkodeeneljkgeaaDoorEc
import Derived.Test.YtkodeeneljkgeaaDoorEo
import Derived.Test.YtkodeeneljkgeaaDoorEn7
namespace Go.Proofs.YtkodeeneljkgeaaDoor
open Go.RowKit IH
set_option maxRecDepth 100000
theorem entc_len (e : Entry) (p : EntA) : (entC e p).length = 15 := rfl
theorem ents_of {w : World} {B : Nat} {e : Entry} {p : EntA} (h : FewE e) (hin : EntIn w B e p) (hw : EntW e) : EntS e p := by
  have h1 : e.names.length = p.n1 := by have := hin.names.1; rw [strsV_length] at this; omega
  have h2 := fld_count hin.fields
  have h3 := ext_count hin.body
  exact ⟨by have := h.u; omega, by have := h.v; omega, hw.m, hw.t, by have := h.r; omega, by have := h.n; omega, by have := h.f; omega, by have := h.b; omega, fun s hs => by have := h.ns s hs; omega, fun f hf => by have := h.fs f hf; omega, hw.z0, hw.z⟩
theorem packok_of {e : Entry} (h : FewE e) (hw : EntW e) (hr : rightE e = true) : PackOk e :=
  right_pack hr ⟨hw.u0, hw.u1⟩ (fun s hs => by have := h.ns s hs; omega) (fun f hf => by have := h.fs f hf; omega)
theorem below_out {w W w' : World} (h : Below w.heap.size w W) (hb : Below W.heap.size W w') : Below w.heap.size w w' := below_step h hb
/-- entry.Pack of a right entry, in one form. -/
theorem pack_form (e : Entry) (p : EntA) (w : World) (hin : EntIn w w.heap.size e p) (h : FewE e) (hw : EntW e) (hr : rightE e = true) :
    ∃ (c : Int) (X : List UInt8), (∀ W, Below w.heap.size w W → Calls Tryd.prog 13 #[.agg (entC e p).toArray] W fun x w' => ∃ A n k, x = .returned (.tuple #[.slice A n k, .int .i64 c]) ∧ SliceIn w' w'.heap.size 1 A n k (bytesV X) ∧ Below W.heap.size W w') ∧ (c = 0 → X = packL e) := by
  have hs := ents_of h hin hw
  have hk := packok_of h hw hr
  have hl := few_pack h
  by_cases h8 : 8000 < (packL e).length
  · refine ⟨12, [], fun W hW => ?_, fun h => by cases h⟩
    refine (epack_any e p W (hin.at_ hW) hs hr hk (by omega)).mono ?_
    rintro x w' ⟨⟨h1, _⟩, hb⟩
    exact ⟨none, 0, 0, h1 h8, SliceIn.none_ (Nat.zero_le _), hb⟩
  · refine ⟨0, packL e, fun W hW => ?_, fun _ => rfl⟩
    refine (epack_any e p W (hin.at_ hW) hs hr hk (by omega)).mono ?_
    rintro x w' ⟨⟨_, h1⟩, hb⟩
    obtain ⟨v, rfl, ho⟩ := h1 (by omega)
    obtain ⟨A, k, rfl, hsl⟩ := own_slice ho
    exact ⟨A, _, k, rfl, hsl, hb⟩
end Go.Proofs.YtkodeeneljkgeaaDoor
