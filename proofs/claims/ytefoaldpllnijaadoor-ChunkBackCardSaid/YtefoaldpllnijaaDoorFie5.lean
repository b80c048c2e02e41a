/- Walks of layer 3: the document's answer on a name's values, on fields without a name, on two lists; a name's only value. Condition: at most 10^6 fields, texts within 10^9 octets. -/
import Derived.Test.YtefoaldpllnijaaDoorFie4
import Derived.Laws.StructEq
namespace Go.Proofs.YtefoaldpllnijaaDoor
open Go.RowKit IH
set_option maxRecDepth 100000
theorem withoutL_snoc (L : List Fld) (s : List UInt8) (k : Nat) (f : Fld) (hk : L[k]? = some f) : withoutL (L.take (k + 1)) [s] = withoutL (L.take k) [s] ++ if isN f s = true then [] else [f] := by
  rw [without_one, without_one, List.take_add_one, hk, List.filter_append]
  cases h : isN f s <;> simp [h]
theorem lower1_any {P : Program} {fn : FuncId} (H : ∀ s : ByteArray, s.size ≤ 1000000000 → ∀ w, Calls P fn #[.string s] w fun e w' => e = .returned (.string ⟨(lower s.data.toList).toArray⟩) ∧ Below w.heap.size w w') (l : List UInt8) (hl : l.length ≤ 1000000000) (w : World) :
    Calls P fn #[.string ⟨l.toArray⟩] w fun e w' => e = .returned (.string ⟨(lower l).toArray⟩) ∧ Below w.heap.size w w' := H ⟨l.toArray⟩ (by rw [size_mk]; exact hl) w
theorem isN_beq (f : Fld) (s : List UInt8) : isN f s = ((⟨(lower f.1).toArray⟩ : ByteArray).toList == (⟨(lower s).toArray⟩ : ByteArray).toList) := by
  rw [ByteArray.toList_eq, ByteArray.toList_eq]; rfl
theorem fld_neq (X Y : ByteArray) (w : World) : (binOp .neq 72 (.agg #[.string X, .string Y]) (.agg #[.string X, .string Y])).run Tryd.prog w = .ok (.bool false) w := by
  have u2 := Tryd.underlying9
  have hS : Program.underlying Tryd.prog 72 = some (.struct (Program.fieldsOf Tryd.prog 72)) := by kernel_rfl
  have hp : Program.stoodInHeld Tryd.prog 72 = false := by kernel_rfl
  rw [run_neq_struct, show (10000 : Nat) = 9999 + 1 from rfl, run_equalIn_agg w 9999 72 _ _ hS hp]
  simp only [Program.fieldsOf, Tryd.underlying72]
  go_simp
  try simp
set_option maxHeartbeats 4000000 in
/-- Of two lists that are one. -/
theorem refSame3_any (A : Option Addr) (n c : Nat) (A' : Option Addr) (n' c' : Nat) (L : List Fld) (w : World) (hin : SliceIn w w.heap.size 2 A n c (fldsV L)) (hin' : SliceIn w w.heap.size 2 A' n' c' (fldsV L)) (hs : n ≤ 1000000) :
    Calls Tryd.prog 35 #[.slice A n c, .slice A' n' c'] w fun e w' => e = .returned (.bool true) ∧ Below w.heap.size w w' := by
  have hL := fld_count hin
  have hL' := fld_count hin'
  obtain rfl : n = n' := by omega
  clear hL'
  go_enter Tryd.func35, Tryd.ntmps35
  go_wp2
  go_loopw [5] (fun i wr => ∃ k : Nat, k ≤ n ∧ i = .int .i64 k ∧ Below w.heap.size w wr) (fun i _ => n - (intOf i).toNat)
  case atStart => exact ⟨0, by omega, rfl, Below.refl _ _⟩
  case round =>
    obtain ⟨k, hk, rfl, hbel⟩ := hrel
    by_cases hlt : k < n
    · obtain ⟨f, hf⟩ : ∃ f, L[k]? = some f := ⟨_, List.getElem?_eq_getElem (by omega)⟩
      obtain ⟨b, off, rfl, hb, c0, c1⟩ := fld_at (hin.below hbel) hf
      obtain ⟨b', off', rfl, hb', c0', c1'⟩ := fld_at (hin'.below hbel) hf
      clear hf
      generalize (⟨f.1.toArray⟩ : ByteArray) = X at *
      generalize (⟨f.2.toArray⟩ : ByteArray) = Y at *
      have hne := fun w => fld_neq X Y w
      go_wp2
      go_quiet (fail)
      go_wp2
      go_roundw
      case rel => exact ⟨k + 1, by omega, by go_num, below_drewN hbel _⟩
      case measure => simp [intOf]; omega
    · go_wp2
      go_ret
      exact ⟨rfl, hbel⟩
def oneL (fs : List Fld) (s : List UInt8) : List UInt8 × Bool := match getL fs s with
  | [x] => (x, true)
  | _ => ([], false)
end Go.Proofs.YtefoaldpllnijaaDoor
