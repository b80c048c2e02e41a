/- Walks of layer 1's functions on texts: trimming, tokens and values by the document's answer. No condition but that lengths are within bounds. -/
import Derived.Test.YtmcioedmjcbfbaaOct1
import Derived.Shelf.Strings.SlTrimAscii
namespace Go.Proofs.Ytmcioedmjcbfbaa
open Go.RowKit IH

theorem trimS_eq (l : List UInt8) : Lib.trimS l [32, 9] = trim l := by
  have hp : (fun x : UInt8 => [32, 9].contains x) = isBlank := by
    funext c
    rw [Bool.eq_iff_iff]
    simp [isBlank, ← UInt8.toNat_inj]
  unfold Lib.trimS Lib.trimLeftS Lib.trimRightS trim trimR trimL
  rw [hp]


def strSize : Value → Nat
  | .string t => t.size
  | _ => 0

end Go.Proofs.Ytmcioedmjcbfbaa
