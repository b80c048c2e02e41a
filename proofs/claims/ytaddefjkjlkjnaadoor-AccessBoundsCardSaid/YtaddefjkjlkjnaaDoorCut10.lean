/- A text cut at its first LF, by package strings. Condition: texts within 10^9 octets. -/
import Derived.Test.YtaddefjkjlkjnaaDoorShape
import Derived.IntWalk
import Derived.Test.YtaddefjkjlkjnaaDoorPm
namespace Go.Proofs.YtaddefjkjlkjnaaDoor
open Go.RowKit IH
set_option maxRecDepth 100000
/-- What is cut at the first LF: ahead, behind; is there one? -/
def cut10 (l : List UInt8) : List UInt8 × List UInt8 × Bool := match cutLF l with
  | some x => (x.1, x.2, true)
  | none => (l, [], false)
def sOf : Value → Nat
  | .string r => r.size
  | _ => 0
theorem liteCut_any (s : ByteArray) (hs : s.size ≤ 1000000000) (w : World) :
    Calls Tryd.prog 122 #[.string s, .string ⟨#[10]⟩] w fun e w' => e = .returned (.tuple #[.string ⟨(cut10 s.data.toList).1.toArray⟩, .string ⟨(cut10 s.data.toList).2.1.toArray⟩, .bool (cut10 s.data.toList).2.2]) ∧ Below w.heap.size w w' := by
  have IX := Lib.hid (fun w => Tryd.stringslite_Index_one s 10 w)
  unfold cut10
  cases h : cutLF s.data.toList with
  | none =>
    have hno := cutLF_none.1 h
    rw [indexByte_no 10 _ hno] at IX
    simp only
    have hss : (⟨s.data.toList.toArray⟩ : ByteArray) = s := Lib.mk_data s
    rw [hss]
    clear h hno hss
    go_enter Tryd.func122, Tryd.ntmps122
    go_wp2_with (go_at_call 157; refine (IX.out _).mono ?_; rintro e w' ⟨rfl, hw⟩; have hw' := hw.symm; subst hw')
    go_ret3
    exact ⟨rfl, Below.refl _ _⟩
  | some x =>
    obtain ⟨a, b⟩ := x
    obtain ⟨h1, h2⟩ := cutLF_some h
    have hi : Lib.indexByte s.data.toList 10 = (a.length : Nat) := by rw [h1]; exact indexByte_mid 10 a b h2
    rw [hi] at IX
    have hlen : a.length + 1 + b.length = s.size := by rw [← data_len, h1]; simp; omega
    have e1 : Hid (s.extract 0 a.length = ⟨a.toArray⟩) := Lib.hid (bytes_inj (by rw [take_data s _ (by omega), h1, List.take_left' rfl]))
    have e2 : Hid (s.extract (a.length + 1) s.size = ⟨b.toArray⟩) := Lib.hid (bytes_inj (by rw [drop_data, h1, ← List.drop_drop, List.drop_left' rfl]; rfl))
    simp only
    obtain ⟨n, hn⟩ : ∃ n, a.length = n := ⟨_, rfl⟩
    rw [hn] at IX e1 e2 hlen
    have hn1 : n + 1 ≤ s.size := by omega
    have sz : (⟨#[10]⟩ : ByteArray).size = 1 := rfl
    have wr : IntKind.i64.wrap ((n : Int) + 1) = (n : Int) + 1 := IntWalk.i64_in _ ⟨by omega, by omega⟩
    clear h h1 h2 hi hn hlen
    go_enter Tryd.func122, Tryd.ntmps122
    go_wp2_with (go_at_call 157; refine (IX.out _).mono ?_; rintro e w' ⟨rfl, hw⟩; have hw' := hw.symm; subst hw')
    go_region
    go_wp2
    go_ret3
    refine ⟨?_, below_drewN (Below.refl _ _) 1⟩
    rw [← e1.out, ← e2.out]
    rfl
theorem SCut_any (s : ByteArray) (hs : s.size ≤ 1000000000) (w : World) :
    Calls Tryd.prog 80 #[.string s, .string ⟨#[10]⟩] w fun e w' => e = .returned (.tuple #[.string ⟨(cut10 s.data.toList).1.toArray⟩, .string ⟨(cut10 s.data.toList).2.1.toArray⟩, .bool (cut10 s.data.toList).2.2]) ∧ Below w.heap.size w w' := by
  have LC := Lib.hid (fun w => liteCut_any s hs w)
  generalize cut10 s.data.toList = x at *
  go_enter Tryd.func80, Tryd.ntmps80
  go_wp2_with (go_at_call 122; refine (LC.out _).mono ?_; rintro e w2 ⟨rfl, hb2⟩)
  go_ret3
  exact ⟨rfl, hb2⟩
end Go.Proofs.YtaddefjkjlkjnaaDoor
