/- Walks of layer 1: numbers by the document's answer, two lists held against each other. No condition but that lengths are within bounds. -/
import Derived.Test.YtpmidmdodjgeeaaDoorOct7
import Derived.Test.YtpmidmdodjgeeaaDoorOct5
namespace Go.Proofs.YtpmidmdodjgeeaaDoor
open Go.RowKit IH
set_option maxRecDepth 100000

theorem Number_any (s : ByteArray) (hs : s.size ≤ 1000000000) (most : Int) (hm1 : -9223372036854775808 ≤ most) (hm2 : most ≤ 9223372036854775807) (w : World) :
    Calls Tryd.prog 126 #[.string s, .int .i64 most] w fun e w' => e = .returned (.tuple #[.int .i64 (numR 10 most s.data.toList).1, .int .i64 (numR 10 most s.data.toList).2]) ∧ Below w.heap.size w w' := by
  go_enter Tryd.func126, Tryd.ntmps126
  go_wp2_with (go_at_call 139; refine (number10_any s hs most hm1 hm2 _).mono ?_; rintro e w1 ⟨rfl, hb1⟩)
  go_ret2
  exact ⟨rfl, hb1⟩


def sameL (a b : List (List UInt8)) : Bool := decide (a = b)
theorem sameL_len {a b : List (List UInt8)} (h : a.length ≠ b.length) : sameL a b = false := by
  unfold sameL; rw [decide_eq_false_iff_not]; rintro rfl; exact h rfl
theorem sameL_ne {a b : List (List UInt8)} {k : Nat} {x y : List UInt8} (ha : a[k]? = some x) (hb : b[k]? = some y) (h : x ≠ y) : sameL a b = false := by
  unfold sameL; rw [decide_eq_false_iff_not]; rintro rfl; rw [ha] at hb; exact h (Option.some.inj hb)
theorem sameL_all {a b : List (List UInt8)} (hl : a.length = b.length) (h : a.take b.length = b.take b.length) : sameL a b = true := by
  unfold sameL
  rw [decide_eq_true_iff]
  rw [List.take_of_length_le (by omega), List.take_of_length_le (by omega)] at h
  exact h

theorem Same_any (A A' : Option Addr) (n n' c c' : Nat) (L L' : List (List UInt8)) (w : World) (B B' : Nat) (hin : SliceIn w B 1 A n c (strsV L)) (hin' : SliceIn w B' 1 A' n' c' (strsV L')) :
    Calls Tryd.prog 20 #[.slice A n c, .slice A' n' c'] w fun e w' => e = .returned (.bool (sameL L L')) ∧ ∃ nq, w' = w.drewN nq := by
  have hn : n ≤ 9223372036854775807 := by have := hin.2.1; have := hin.2.2.1; simp only [maxLen] at this; omega
  have hn' : n' ≤ 9223372036854775807 := by have := hin'.2.1; have := hin'.2.2.1; simp only [maxLen] at this; omega
  have hL : L.length = n := by have := hin.1; rw [strsV_length] at this; omega
  have hL' : L'.length = n' := by have := hin'.1; rw [strsV_length] at this; omega
  by_cases hne : n = n'
  · subst hne
    go_enter Tryd.func20, Tryd.ntmps20
    go_wp2
    go_loopw [5] (fun i wr => ∃ (k nq : Nat), k ≤ n ∧ i = .int .i64 k ∧ L.take k = L'.take k ∧ wr = w.drewN nq) (fun i _ => n - (intOf i).toNat)
    case atStart => exact ⟨0, 0, by omega, rfl, by simp, rfl⟩
    case round =>
      obtain ⟨k, nq, hk, rfl, hix, rfl⟩ := hrel
      have Hix := Lib.hid hix; clear hix
      by_cases hlt : k < n
      · obtain ⟨l, hl⟩ : ∃ l, L[k]? = some l := ⟨_, List.getElem?_eq_getElem (by omega)⟩
        obtain ⟨l', hl'⟩ : ∃ l, L'[k]? = some l := ⟨_, List.getElem?_eq_getElem (by omega)⟩
        obtain ⟨b, off, rfl, hb, hc⟩ := hin.2.2.2 (by omega)
        obtain ⟨b', off', rfl, hb', hc'⟩ := hin'.2.2.2 (by omega)
        have hcell : w.cell? ⟨b, off + k, none⟩ = some (.string ⟨l.toArray⟩) := hc k _ (by rw [strsV_get, hl]; rfl)
        have hcell' : w.cell? ⟨b', off' + k, none⟩ = some (.string ⟨l'.toArray⟩) := hc' k _ (by rw [strsV_get, hl']; rfl)
        have Hl := Lib.hid hl
        have Hl' := Lib.hid hl'
        clear hl hl' hc hc'
        by_cases he : l = l'
        · subst he
          go_wp2
          go_quiet (fail)
          go_wp2
          go_roundw
          case rel => exact ⟨k + 1, _, by omega, by go_num, by rw [List.take_add_one, List.take_add_one, Hix.out, Hl.out, Hl'.out], rfl⟩
          case measure => simp [intOf]; omega
        · have hs := sameL_ne Hl.out Hl'.out he
          have Hs := Lib.hid hs
          have hb2 : (l == l') = false := by simpa using he
          clear hs he
          go_wp2
          go_quiet (fail)
          go_wp2
          go_ret
          rw [Hs.out]
          exact ⟨rfl, _, World.drewN_drewN _ _ _⟩
      · have hs : sameL L L' = true := sameL_all (by omega) (by rw [hL', show n = k by omega]; exact Hix.out)
        have Hs := Lib.hid hs
        clear hs
        go_wp2
        go_ret
        rw [Hs.out]
        exact ⟨rfl, _, rfl⟩
  · have hs := sameL_len (a := L) (b := L') (by omega)
    have Hs := Lib.hid hs
    have hb : ((n : Int) == (n' : Int)) = false := by rw [beq_eq_false_iff_ne]; omega
    have hb2 : ((n : Int) != (n' : Int)) = true := by rw [bne_iff_ne]; omega
    clear hs hne
    go_enter Tryd.func20, Tryd.ntmps20
    go_wp2
    go_ret
    rw [Hs.out]
    exact ⟨rfl, 0, rfl⟩
end Go.Proofs.YtpmidmdodjgeeaaDoor
