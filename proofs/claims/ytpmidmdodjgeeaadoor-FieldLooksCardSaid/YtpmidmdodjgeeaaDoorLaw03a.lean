/- Layer 3's laws: the document's examples hold; FieldParses, walked. Condition: the world's shape. -/
import Derived.Test.YtpmidmdodjgeeaaDoorFie12
import Derived.Test.YtpmidmdodjgeeaaDoorFld3
namespace Go.Proofs.YtpmidmdodjgeeaaDoor
open Go.RowKit IH
set_option maxRecDepth 100000
theorem const_bytes (t e : TypeId) (cs : Array Value) (n c : Nat) (ht : Program.underlying Tryd.prog t = some (.slice e)) (he : Program.underlying Tryd.prog e = some (.int .u8)) (w : World) :
    (convert t t (.slice (some ⟨w.heap.size, 0, none⟩) n c)).run Tryd.prog (w.alloc (.cells cs e)) = .ok (.slice (some ⟨w.heap.size, 0, none⟩) n c) (w.alloc (.cells cs e (cs.size, cs.size + 1))) := Lib.run_convert_bytes_const (P := Tryd.prog) w t e cs n c ht he
theorem slice_of_flds {w : World} {g : Nat} {L : List Fld} (h : RowAt w g 44 (fldsV L)) (n c : Nat) (hn : L.length = n) (hc : n ≤ c) (hm : c ≤ maxLen) : SliceIn w w.heap.size 2 (some ⟨g, 0, none⟩) n c (fldsV L) :=
  h.slice (by rw [fldsV_length, hn]) hc hm
theorem small_ex1 : smallF 1000000000 [([65], [49]), ([66], [50])] := by
  intro f hf
  simp at hf
  rcases hf with rfl | rfl <;> simp
theorem small_ex2 : smallF 1000000000 [([97], [51])] := by
  intro f hf
  simp at hf
  subst hf
  simp
set_option maxHeartbeats 1000000 in
theorem awake03_any (w : World) (hsh : w.ShapedOpen Tryd.prog) : Calls Tryd.prog 13 #[] w fun e w' => e = .returned (.bool true) ∧ Below w.heap.size w w' := by
  have kc : ∀ w : World, (convert 22 22 (.slice (some ⟨w.heap.size, 0, none⟩) 13 13)).run Tryd.prog (w.alloc (.cells #[.int .u8 65, .int .u8 58, .int .u8 32, .int .u8 98, .int .u8 13, .int .u8 10, .int .u8 67, .int .u8 58, .int .u8 13, .int .u8 10, .int .u8 13, .int .u8 10, .int .u8 120] 5)) = .ok (.slice (some ⟨w.heap.size, 0, none⟩) 13 13) (w.alloc (.cells #[.int .u8 65, .int .u8 58, .int .u8 32, .int .u8 98, .int .u8 13, .int .u8 10, .int .u8 67, .int .u8 58, .int .u8 13, .int .u8 10, .int .u8 13, .int .u8 10, .int .u8 120] 5 (13, 14))) := fun w => const_bytes 22 5 _ 13 13 Tryd.underlying22 Tryd.underlying5 w
  have hr := (RowAt.lit w 5 (bytesV ex3)).slice (size := 1) (n := 13) (c := 13) rfl (Nat.le_refl _) (by simp [maxLen])
  have B1 : Hid (Below w.heap.size w (w.alloc (.cells #[.int .u8 65, .int .u8 58, .int .u8 32, .int .u8 98, .int .u8 13, .int .u8 10, .int .u8 67, .int .u8 58, .int .u8 13, .int .u8 10, .int .u8 13, .int .u8 10, .int .u8 120] 5 (13, 14)))) := Lib.hid (below_al w _)
  have PA := fparse_any w.heap.size 0 13 13 ex3 (w.alloc (.cells #[.int .u8 65, .int .u8 58, .int .u8 32, .int .u8 98, .int .u8 13, .int .u8 10, .int .u8 67, .int .u8 58, .int .u8 13, .int .u8 10, .int .u8 13, .int .u8 10, .int .u8 120] 5 (13, 14))) (shaped_below hsh B1.out) hr (by omega)
  rw [ex3_parse] at PA
  replace PA := Lib.hid PA
  clear hr hsh
  go_enter Tryd.func13, Tryd.ntmps13
  go_wp2_with (first
    | (go_at_call 14; refine PA.out.mono ?_; rintro e w2 ⟨v2, rfl, hrow, hb2⟩; have B2 := Lib.hid (below_al_step hb2); obtain ⟨A2, C2, rfl, hsl⟩ := own_slice hrow; have R2 := Lib.hid hsl; clear hrow hb2 hsl; have B3 := Lib.hid ((B2.out.alloc B2.out.size (.cells #[.string ⟨#[65]⟩, .string ⟨#[49]⟩, .string ⟨#[66]⟩, .string ⟨#[50]⟩] 44)).alloc (by simp; have := B2.out.size; omega) (.cells #[.string ⟨#[97]⟩, .string ⟨#[51]⟩] 44)); have R3 := Lib.hid ((R2.out.alloc (Nat.le_refl _) (.cells #[.string ⟨#[65]⟩, .string ⟨#[49]⟩, .string ⟨#[66]⟩, .string ⟨#[50]⟩] 44)).alloc (by simp) (.cells #[.string ⟨#[97]⟩, .string ⟨#[51]⟩] 44)))
    | (go_at_call 21; have h1 := (slice_of_flds (L := [([65], [49]), ([66], [50])]) ((RowAt.new w2 44 (fldsV [([65], [49]), ([66], [50])])).alloc (.cells #[.string ⟨#[97]⟩, .string ⟨#[51]⟩] 44)) 2 2 rfl (Nat.le_refl _) (by simp [maxLen])); have h2 := (slice_of_flds (L := [([97], [51])]) (row_size (RowAt.new (w2.alloc (.cells (fldsV [([65], [49]), ([66], [50])]).toArray 44)) 44 (fldsV [([97], [51])])) (g' := w2.heap.size + 1) (by simp)) 1 1 rfl (Nat.le_refl _) (by simp [maxLen])); have WI := With_any (some ⟨w2.heap.size, 0, none⟩) 2 2 [([65], [49]), ([66], [50])] (some ⟨w2.heap.size + 1, 0, none⟩) 1 1 [([97], [51])] _ h1 (by omega) small_ex1 h2 (by omega) small_ex2; rw [ex3_with] at WI; refine WI.mono ?_; rintro e w3 ⟨v3, rfl, hrow3, hb3⟩; clear h1 h2 WI; have B4 := Lib.hid (below_step B3.out hb3); have R4 := Lib.hid (R3.out.below (hb3.mono (by simp; omega))); obtain ⟨A3, C3, rfl, hsl3⟩ := own_slice hrow3; have M4 := Lib.hid hsl3; have hq : w2.heap.size ≤ w3.heap.size := (by have := hb3.size; simp at this; omega); clear hrow3 hb3 hsl3))
  have h3 := (slice_of_flds (L := [([65], [98]), ([67], [])]) (RowAt.new w3 44 (fldsV [([65], [98]), ([67], [])])) 2 2 rfl (Nat.le_refl _) (by simp [maxLen]))
  have SA := refSame3_any A2 2 C2 (some ⟨w3.heap.size, 0, none⟩) 2 2 [([65], [98]), ([67], [])] (w3.alloc (.cells #[.string ⟨#[65]⟩, .string ⟨#[98]⟩, .string ⟨#[67]⟩, .string ⟨#[]⟩] 44)) ((R4.out.alloc hq _).more (by simp; omega)) h3 (by omega)
  refine SA.mono ?_
  rintro e w5 ⟨rfl, hb5⟩
  clear h3 SA
  have B5 := Lib.hid (below_step (B4.out.alloc B4.out.size (.cells #[.string ⟨#[65]⟩, .string ⟨#[98]⟩, .string ⟨#[67]⟩, .string ⟨#[]⟩] 44)) hb5)
  have M5 := Lib.hid ((M4.out.alloc (Nat.le_refl _) (.cells #[.string ⟨#[65]⟩, .string ⟨#[98]⟩, .string ⟨#[67]⟩, .string ⟨#[]⟩] 44)).below (hb5.mono (by simp)))
  have hq2 : w3.heap.size ≤ w5.heap.size := by have := hb5.size; simp at this; omega
  clear hb5
  go_wp2_with fail
  have h4 := (slice_of_flds (L := [([97], [51]), ([66], [50])]) (RowAt.new w5 44 (fldsV [([97], [51]), ([66], [50])])) 2 2 rfl (Nat.le_refl _) (by simp [maxLen]))
  have SB := refSame3_any A3 2 C3 (some ⟨w5.heap.size, 0, none⟩) 2 2 [([97], [51]), ([66], [50])] (w5.alloc (.cells #[.string ⟨#[97]⟩, .string ⟨#[51]⟩, .string ⟨#[66]⟩, .string ⟨#[50]⟩] 44)) ((M5.out.alloc hq2 _).more (by simp; omega)) h4 (by omega)
  refine SB.mono ?_
  rintro e w6 ⟨rfl, hb6⟩
  clear h4 SB
  have B6 := Lib.hid (below_step (B5.out.alloc B5.out.size (.cells #[.string ⟨#[97]⟩, .string ⟨#[51]⟩, .string ⟨#[66]⟩, .string ⟨#[50]⟩] 44)) hb6)
  clear hb6
  go_wp2
  go_ret
  exact ⟨rfl, B6.out⟩
end Go.Proofs.YtpmidmdodjgeeaaDoor
