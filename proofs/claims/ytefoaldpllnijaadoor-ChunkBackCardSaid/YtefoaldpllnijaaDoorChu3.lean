/- A decoder in memory; walks of layer 7: a new one, a size line taken. Conditions: texts within 10^9 octets; the decoder's numbers within bounds. -/
import Derived.Test.YtefoaldpllnijaaDoorChu2
import Derived.Test.YtefoaldpllnijaaDoorCk
namespace Go.Proofs.YtefoaldpllnijaaDoor
open Go.RowKit IH
set_option maxRecDepth 100000
def decV (d : Dec) : List Value := [.int .i64 d.w, .int .i64 d.left, .int .i64 d.total, .int .i64 d.fields, .int .i64 d.fault]
theorem SliceIn.save {w w' : World} {B g b0 off size n c : Nat} {xs : List Value} (h : SliceIn w B size (some ⟨b0, off, none⟩) n c xs) (hs : Save B g w w') (hne : b0 ≠ g) : SliceIn w' B size (some ⟨b0, off, none⟩) n c xs :=
  ⟨h.1, h.2.1, h.2.2.1, fun hn => by
    obtain ⟨b, o, e, hb, hc⟩ := h.2.2.2 hn
    simp only [Option.some.injEq, Addr.mk.injEq, and_true] at e
    obtain ⟨rfl, rfl⟩ := e
    exact ⟨_, _, rfl, hb, fun j u hu => (World.cell?_of_block (hs.block _ hb hne)).trans (hc j u hu)⟩⟩
theorem Save.grown {B g : Nat} {a w w' : World} {row : Option Nat} (h : Save B g a w) (hg : w.grownBy w' row) (hB : B ≤ w.heap.size) (hr : ∀ k, row = some k → B ≤ k) : Save B g a w' :=
  h.trans ⟨hg.os, hg.tape, hg.output, hg.size, fun k hk _ => hg.block k (by omega) (fun e => by have := hr k e.symm; omega)⟩
theorem Save.refl (B g : Nat) (w : World) : Save B g w w := ⟨rfl, rfl, rfl, Nat.le_refl _, fun _ _ _ => rfl⟩
theorem cnew_any (w : World) :
    Calls Tryd.prog 22 #[] w fun e w' => e = .returned (.pointer (some ⟨w.heap.size, 0, none⟩)) ∧ RowAt w' w.heap.size 96 (decV Dec.new) ∧ Below w.heap.size w w' := by
  have h1 := RowAt.new w 96 (decV Dec.new)
  have h2 := below_al w (.cells (decV Dec.new).toArray 96)
  rw [show (decV Dec.new).toArray = #[.int .i64 0, .int .i64 0, .int .i64 0, .int .i64 0, .int .i64 0] from rfl] at h1 h2
  replace h1 := Lib.hid h1
  replace h2 := Lib.hid h2
  go_enter Tryd.func22, Tryd.ntmps22
  go_wp2
  go_ret
  exact ⟨rfl, h1.out, h2.out⟩
set_option maxHeartbeats 4000000 in
theorem cbegin_any (g : Nat) (d : Dec) (s : ByteArray) (w : World) (hr : RowAt w g 96 (decV d)) (hd : DecIn d) (hs : s.size ≤ 1000000000) :
    Calls Tryd.prog 75 #[.pointer (some ⟨g, 0, none⟩), .string s] w fun e w' => e = .returned (.int .i64 (beginC d s.data.toList).1) ∧ RowAt w' g 96 (decV (beginC d s.data.toList).2) ∧ Save w.heap.size g w w' := by
  have SZ := csize_any s hs w
  obtain ⟨z, hz⟩ : ∃ z, sizeC s.data.toList = z := ⟨_, rfl⟩
  unfold beginC
  rw [hz] at SZ ⊢
  obtain ⟨a1, a2, a3, a4, a5, a6, a7, a8⟩ := hd
  have hgl := hr.lt
  have Hr := Lib.hid hr
  clear hr hz hs
  have key : ∀ w2, Below w.heap.size w w2 → Hid (RowAt w2 g 96 (decV d)) ∧ Hid (Save w.heap.size g w w2) := fun w2 hb => ⟨Lib.hid (Hr.out.below hb hgl), Lib.hid (below_save hb)⟩
  by_cases h1 : z < 0
  · rw [if_pos h1] at SZ
    rw [if_pos h1]
    rw [show max 0 z = 0 by omega] at SZ
    replace SZ := Lib.hid SZ
    clear h1
    go_enter Tryd.func75, Tryd.ntmps75
    go_wp2_with (go_at_call 94; refine SZ.out.mono ?_; rintro e w2 ⟨rfl, hb2⟩; obtain ⟨R2, S2⟩ := key w2 hb2; clear hb2)
    go_ret
    exact ⟨rfl, R2.out, S2.out⟩
  · rw [if_neg h1] at SZ
    rw [if_neg h1]
    rw [show max 0 z = z by omega] at SZ
    replace SZ := Lib.hid SZ
    by_cases h2 : z = 0
    · subst h2
      rw [if_pos rfl]
      clear h1
      go_enter Tryd.func75, Tryd.ntmps75
      go_wp2_with (go_at_call 94; refine SZ.out.mono ?_; rintro e w2 ⟨rfl, hb2⟩; obtain ⟨R2, S2⟩ := key w2 hb2; have f0 := R2.out.frozen (j := 0) (show 0 < 5 by omega); have d0 := R2.out.cell (j := 0) rfl; clear hb2)
      go_ret
      exact ⟨rfl, R2.out.set_ (j := 0) (show 0 < 5 by omega) _, S2.out.setCell _ _⟩
    · rw [if_neg h2]
      have h2b : (z == 0) = false := by rw [beq_eq_false_iff_ne]; exact h2
      have hw1 : IntKind.i64.wrap (1048576 - d.total) = 1048576 - d.total := IntWalk.i64_in _ ⟨by omega, by omega⟩
      by_cases h3 : 1048576 - d.total < z
      · rw [if_pos h3]
        clear h1
        go_enter Tryd.func75, Tryd.ntmps75
        go_wp2_with (go_at_call 94; refine SZ.out.mono ?_; rintro e w2 ⟨rfl, hb2⟩; obtain ⟨R2, S2⟩ := key w2 hb2; have d2 := R2.out.cell (j := 2) rfl; clear hb2)
        go_ret
        exact ⟨rfl, R2.out, S2.out⟩
      · rw [if_neg h3]
        have hw2 : IntKind.i64.wrap (d.total + z) = d.total + z := IntWalk.i64_in _ ⟨by omega, by omega⟩
        go_enter Tryd.func75, Tryd.ntmps75
        go_wp2_with (go_at_call 94; refine SZ.out.mono ?_; rintro e w2 ⟨rfl, hb2⟩; obtain ⟨R2, S2⟩ := key w2 hb2; have f0 := R2.out.frozen (j := 0) (show 0 < 5 by omega); have f1 := R2.out.frozen (j := 1) (show 1 < 5 by omega); have f2 := R2.out.frozen (j := 2) (show 2 < 5 by omega); have d0 := R2.out.cell (j := 0) rfl; have d1 := R2.out.cell (j := 1) rfl; have d2 := R2.out.cell (j := 2) rfl; clear hb2)
        go_ret
        exact ⟨rfl, ((R2.out.set_ (j := 0) (show 0 < 5 by omega) _).set_ (j := 1) (show 1 < 5 by omega) _).set_ (j := 2) (show 2 < 5 by omega) _, ((S2.out.setCell _ _).setCell _ _).setCell _ _⟩
end Go.Proofs.YtefoaldpllnijaaDoor
