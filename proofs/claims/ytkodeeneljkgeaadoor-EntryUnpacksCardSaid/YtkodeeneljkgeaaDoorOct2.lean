/- Walks of layer 1's functions on texts: trimming, tokens and values by the document's answer. No condition but that lengths are within bounds. -/
import Derived.Test.YtkodeeneljkgeaaDoorOct1
import Derived.Shelf.Strings.SlTrimAscii
namespace Go.Proofs.YtkodeeneljkgeaaDoor
open Go.RowKit IH

theorem trimS_eq (l : List UInt8) : Lib.trimS l [32, 9] = trim l := by
  have hp : (fun x : UInt8 => [32, 9].contains x) = isBlank := by
    funext c
    rw [Bool.eq_iff_iff]
    simp [isBlank, ← UInt8.toNat_inj]
  unfold Lib.trimS Lib.trimLeftS Lib.trimRightS trim trimR trimL
  rw [hp]

theorem Trim_any (s : ByteArray) (hs : s.size ≤ 1000000000) (w : World) :
    Calls Tryd.prog 75 #[.string s] w fun e w' => e = .returned (.string ⟨(trim s.data.toList).toArray⟩) ∧ Below w.heap.size w w' := by
  have c := Any.strings_Trim_laid Tryd.lays160 (by kernel_rfl) s ⟨#[32, 9]⟩ w (by omega) (by decide) (ascii_of_all (by decide))
  simp only [trimS_eq] at c
  have C := Lib.hid c; clear c
  go_enter Tryd.func75, Tryd.ntmps75
  go_wp2_with (go_at_call 79; refine C.out.mono ?_; rintro e w' ⟨rfl, hb⟩)
  go_ret
  exact ⟨rfl, hb⟩

def strSize : Value → Nat
  | .string t => t.size
  | _ => 0

end Go.Proofs.YtkodeeneljkgeaaDoor
