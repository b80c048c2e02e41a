/- Layer 26: the document's example. Condition: the world's shape. -/
import Derived.Test.YtclgkkencpkjpaaGreatDoorMt
import Derived.Test.YtclgkkencpkjpaaGreatDoorFresh
namespace Go.Proofs.YtclgkkencpkjpaaGreatDoor
open Go.RowKit IH
set_option maxRecDepth 100000
set_option maxHeartbeats 8000000 in
theorem awake26_any (w : World) (hsh : w.ShapedOpen Tryz.prog) : Calls Tryz.prog 21 #[] w fun e w' => e = .returned (.bool true) ∧ Below w.heap.size w w' := by
  have hL : ((⟨#[71, 69, 84, 32, 47, 32, 72, 84, 84, 80, 47, 49, 46, 49, 13, 10, 65, 58, 32, 98, 13, 10, 13, 10]⟩ : ByteArray) ++ (⟨#[71, 69, 84, 32, 47, 32, 72, 84, 84, 80, 47, 49, 46, 49, 13, 10, 65, 58, 32, 98, 13, 10, 13, 10]⟩ : ByteArray) ++ (⟨#[71, 69, 84, 32, 47, 32, 72, 84, 84, 80, 47, 49, 46, 49, 13, 10, 65, 58, 32, 98, 13, 10, 13, 10]⟩ : ByteArray).extract 0 9).data.toList = printM ex26M [] ++ (printM ex26M [] ++ [71, 69, 84, 32, 47, 32, 72, 84, 84]) := by decide +kernel
  have hS : ((⟨#[71, 69, 84, 32, 47, 32, 72, 84, 84, 80, 47, 49, 46, 49, 13, 10, 65, 58, 32, 98, 13, 10, 13, 10]⟩ : ByteArray) ++ (⟨#[71, 69, 84, 32, 47, 32, 72, 84, 84, 80, 47, 49, 46, 49, 13, 10, 65, 58, 32, 98, 13, 10, 13, 10]⟩ : ByteArray) ++ (⟨#[71, 69, 84, 32, 47, 32, 72, 84, 84, 80, 47, 49, 46, 49, 13, 10, 65, 58, 32, 98, 13, 10, 13, 10]⟩ : ByteArray).extract 0 9).size = 57 := by decide +kernel
  have RQ := Lib.hid (fun (W : World) (hW : Below w.heap.size w W) (g cap : Nat) (h : SliceIn W W.heap.size 1 (some ⟨g, 0, none⟩) 57 cap (bytesV ((⟨#[71, 69, 84, 32, 47, 32, 72, 84, 84, 80, 47, 49, 46, 49, 13, 10, 65, 58, 32, 98, 13, 10, 13, 10]⟩ : ByteArray) ++ (⟨#[71, 69, 84, 32, 47, 32, 72, 84, 84, 80, 47, 49, 46, 49, 13, 10, 65, 58, 32, 98, 13, 10, 13, 10]⟩ : ByteArray) ++ (⟨#[71, 69, 84, 32, 47, 32, 72, 84, 84, 80, 47, 49, 46, 49, 13, 10, 65, 58, 32, 98, 13, 10, 13, 10]⟩ : ByteArray).extract 0 9).data.toList)) => (areq26_any (some ⟨g, 0, none⟩) 57 cap _ W (shaped_below hsh hW) h (by decide)).mono (fun e w' h => (show ∃ A c, e = .returned (.tuple #[.slice A 2 c, .int .i64 11]) ∧ Below W.heap.size W w' from by
    obtain ⟨v, CS, rfl, h1, h2, h3⟩ := h
    rw [hL, ex26_two] at h1 ⊢
    obtain ⟨A, c, rfl, -⟩ := own_slice h1
    exact ⟨A, c, rfl, h3⟩)))
  clear hL hsh
  go_enter Tryz.func21, Tryz.ntmps21
  go_wp2_with (first
    | (refine wpList_conv rfl 9 38 5 _ _ 57 rfl rfl Tryz.underlying9 Tryz.underlying38 Tryz.underlying5 hS (by omega) ?_; intro g cap w1 hs hg hb1; have HSL := Lib.hid hs; have B1 := Lib.hid hb1; clear hs hb1)
    | (go_at_call 22; (with_reducible refine (RQ.out w1 B1.out g cap HSL.out).mono ?_); rintro e w2 ⟨A, c, rfl, hb2⟩; have B2 := Lib.hid (below_step B1.out hb2); clear hb2))
  go_ret
  exact ⟨by first | rfl | (simp; done) | decide, B2.out⟩
end Go.Proofs.YtclgkkencpkjpaaGreatDoor
