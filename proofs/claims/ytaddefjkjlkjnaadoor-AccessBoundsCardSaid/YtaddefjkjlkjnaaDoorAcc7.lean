/- Walks of layer 28: is one told reply right? No condition but that texts are within bounds. -/
import Derived.Test.YtaddefjkjlkjnaaDoorAcc6
namespace Go.Proofs.YtaddefjkjlkjnaaDoor
open Go.RowKit IH
set_option maxRecDepth 100000

def seen28 (s : List UInt8) : Bool := s.all fun c => 33 ≤ c.toNat && c.toNat ≤ 126
def far28 (n : Int) : Bool := decide (n < 0) || decide (1099511627776 < n)

theorem far_any (n : Int) (w : World) :
    Calls Tryd.prog 112 #[.int .i64 n] w fun e w' => e = .returned (.bool (far28 n)) ∧ w = w' := by
  by_cases h : n < 0
  · have hf : far28 n = true := by simp [far28, h]
    rw [hf]
    go_enter Tryd.func112, Tryd.ntmps112
    go_wp2
    go_ret
    exact ⟨rfl, rfl⟩
  · by_cases h2 : 1099511627776 < n
    · have hf : far28 n = true := by simp [far28, h2]
      rw [hf]
      go_enter Tryd.func112, Tryd.ntmps112
      go_wp2
      go_ret
      exact ⟨rfl, rfl⟩
    · have hf : far28 n = false := by simp [far28]; omega
      rw [hf]
      go_enter Tryd.func112, Tryd.ntmps112
      go_wp2
      go_ret
      exact ⟨rfl, rfl⟩

theorem numbers_any (t : Reply) (w : World) :
    Calls Tryd.prog 116 #[.agg (toldCells t).toArray] w fun e w' => e = .returned (.slice (some ⟨w.heap.size + 1, 0, none⟩) 5 5) ∧ RowAt w' (w.heap.size + 1) 3 [.int .i64 t.moment, .int .i64 t.conn, .int .i64 t.status, .int .i64 t.age, .int .i64 t.lines] ∧ Below w.heap.size w w' := by
  simp only [toldCells]
  go_enter Tryd.func116, Tryd.ntmps116
  go_wp2
  go_ret
  exact ⟨rfl, RowAt.new_at _ _ _ _ (by simp), ((Below.refl _ _).alloc (Nat.le_refl _) _).alloc (by simp) _⟩

def anyFar (N : List Int) : Bool := N.any far28
theorem anyFar_snoc (N : List Int) (k : Nat) (x : Int) (h : N[k]? = some x) : anyFar (N.take (k + 1)) = (anyFar (N.take k) || far28 x) := by
  unfold anyFar
  rw [List.take_add_one, h]
  simp
theorem anyFar_take (N : List Int) (k : Nat) (x : Int) (h : N[k]? = some x) (hx : far28 x = true) : anyFar N = true := by
  unfold anyFar
  rw [List.any_eq_true]
  exact ⟨x, List.mem_of_getElem? h, hx⟩

set_option maxHeartbeats 4000000 in
theorem IndexFar_any (N : List Int) (g n c : Nat) (w : World) (hr : RowAt w g 3 (N.map (.int .i64))) (hn : N.length = n) (hs : n ≤ 1000) :
    Calls Tryd.prog 152 #[.slice (some ⟨g, 0, none⟩) n c, .func (.func 112) #[] #[]] w fun e w' => ∃ i : Int, e = .returned (.int .i64 i) ∧ decide (0 ≤ i) = anyFar N ∧ w = w' := by
  go_enter Tryd.func152, Tryd.ntmps152
  go_wp2
  go_loopw [8] (fun i wr => ∃ k : Nat, k ≤ n ∧ i = .int .i64 k ∧ anyFar (N.take k) = false ∧ wr = w) (fun i _ => n - (intOf i).toNat)
  case atStart => exact ⟨0, by omega, rfl, rfl, rfl⟩
  case round =>
    obtain ⟨k, hk, rfl, hno, rfl⟩ := hrel
    by_cases hlt : k < n
    · obtain ⟨x, hx⟩ : ∃ x, N[k]? = some x := ⟨_, List.getElem?_eq_getElem (by omega)⟩
      have hcell : wr.cell? ⟨g, 0 + k, none⟩ = some (.int .i64 x) := by
        rw [Nat.zero_add]; exact hr.cell (by simp [hx])
      simp only [Nat.zero_add] at hcell
      have hsn := anyFar_snoc N k x hx
      rw [hno, Bool.false_or] at hsn
      by_cases hf : far28 x = true
      · have hall := anyFar_take N k x hx hf
        have Hall := Lib.hid hall; clear hall hsn hx hno
        go_wp2_with (go_at_call 112; (with_reducible refine (far_any x _).mono ?_); rintro e w' ⟨rfl, rfl⟩; rw [hf])
        go_ret
        exact ⟨k, rfl, by rw [Hall.out]; simp, rfl⟩
      · have hf' : far28 x = false := by simpa using hf
        rw [hf'] at hsn
        have Hsn := Lib.hid hsn; clear hsn hx hno hf
        go_wp2_with (go_at_call 112; (with_reducible refine (far_any x _).mono ?_); rintro e w' ⟨rfl, rfl⟩; rw [hf'])
        go_roundw
        case rel => exact ⟨k + 1, by omega, by go_num, Hsn.out, trivial⟩
        case measure => simp [intOf]; omega
    · obtain rfl : k = n := by omega
      rw [List.take_of_length_le (by omega)] at hno
      have Hno := Lib.hid hno; clear hno
      go_wp2
      go_ret
      exact ⟨-1, rfl, by rw [Hno.out]; decide, rfl⟩

theorem ContainsFar_any (N : List Int) (g n c : Nat) (w : World) (hr : RowAt w g 3 (N.map (.int .i64))) (hn : N.length = n) (hs : n ≤ 1000) :
    Calls Tryd.prog 115 #[.slice (some ⟨g, 0, none⟩) n c, .func (.func 112) #[] #[]] w fun e w' => e = .returned (.bool (anyFar N)) ∧ w = w' := by
  go_enter Tryd.func115, Tryd.ntmps115
  go_wp2_with (go_at_call 152; (with_reducible refine (IndexFar_any N g n c _ hr hn hs).mono ?_); rintro e w' ⟨i, rfl, hi, rfl⟩; have Hi := Lib.hid hi; clear hi)
  go_ret
  exact ⟨by rw [← Hi.out]; rfl, rfl⟩
end Go.Proofs.YtaddefjkjlkjnaaDoor
