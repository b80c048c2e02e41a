/- sync.Once: its slow road, and Do, not yet done and the lock free. Condition: what the function called does is a hypothesis. -/
import Derived.Test.YtclgkkencpkjpaaGreatDoorOnc1
import Derived.Laws.NewBlocks
namespace Go.Proofs.YtclgkkencpkjpaaGreatDoor
open Go.RowKit
set_option maxRecDepth 100000
theorem onc_load (a : Addr) (d : Int) (w : World) (hc : w.cell? a = some (.int .u32 d)) :
    Calls Tryz.prog 157 #[.pointer (some a)] w fun e w' => e = .returned (.bool (d != 0)) ∧ w' = w := by
  have hl := run_call_load (P := Tryz.prog) Tryz.func186 (by kernel_rfl) (by kernel_rfl) (by kernel_rfl) .u32 (by kernel_rfl) hc
  go_enter Tryz.func157, Tryz.ntmps157
  go_wp2
  go_ret
  exact ⟨rfl, rfl⟩
set_option maxHeartbeats 1600000 in
theorem onc_slow (g : Nat) (T : TypeId) (z : Int) (r on on' : Value) (w : World) (R : Value → World → Prop) (hr : RowAt w g T [.int .u32 0, .int .i32 0, .int .u32 z, r, on])
    (BO : Calls Tryz.prog 116 #[.pointer (some ⟨g, 0, none⟩)] (w.setCell ⟨g, 1, none⟩ (.int .i32 1)) fun e w' => e = .returned (.tuple #[]) ∧ ∃ r', RowAt w' g T [.int .u32 0, .int .i32 1, .int .u32 z, r', on'] ∧ R r' w') :
    Calls Tryz.prog 158 #[.pointer (some ⟨g, 0, none⟩), .func (.func 116) #[.pointer (some ⟨g, 0, none⟩)] #[]] w fun e w'' => e = .returned (.tuple #[]) ∧ ∃ w' r', RowAt w' g T [.int .u32 0, .int .i32 1, .int .u32 z, r', on'] ∧ R r' w' ∧ w'' = (w'.drew.setCell ⟨g, 0, none⟩ (.int .u32 1)).setCell ⟨g, 1, none⟩ (.int .i32 0) := by
  have h0 := hr.cell (j := 0) rfl
  have h1 := hr.cell (j := 1) rfl
  have f0 := hr.frozen (j := 0) (by show 0 < 5; decide)
  have f1 := hr.frozen (j := 1) (by show 1 < 5; decide)
  have hl : (w.setCell ⟨g, 1, none⟩ (.int .i32 1)).cell? ⟨g, 0, none⟩ = some (.int .u32 0) := (World.cell?_setCell_other _ ⟨g, 1, none⟩ ⟨g, 0, none⟩ _ (by simp)).trans h0
  have LD := Lib.hid (onc_load _ _ _ hl)
  have hnot : ∀ (x : Bool) (w : World), (Op.unary .not (.bool x)).run Tryz.prog w = .ok (.bool (!x)) w := fun _ _ => rfl
  have BOh := Lib.hid BO
  clear BO hr
  go_enter_defers Tryz.func158, Tryz.ntmps158
  go_wp2_with (go_at_call 187; refine (onc_lock ⟨g, 1, none⟩ _ (by go_simp) (by go_simp)).mono ?_; rintro e w' ⟨rfl, rfl⟩)
  go_wp2_with (first
    | (go_at_call 157; refine LD.out.mono ?_; rintro e w' ⟨rfl, rfl⟩)
    | (go_at_call 116; refine BOh.out.mono ?_; rintro e w5 ⟨rfl, r', hrow, hR⟩))
  have c0 := hrow.cell (j := 0) rfl
  have c1 := hrow.cell (j := 1) rfl
  have g0 := hrow.frozen (j := 0) (by show 0 < 5; decide)
  have g1 := hrow.frozen (j := 1) (by show 1 < 5; decide)
  refine leaves_cons (f := 189) (args := #[.pointer (some ⟨g, 0, none⟩), .bool true]) (by simp) (by simp [go_sem]) ?_
  refine (onc_store ⟨g, 0, none⟩ (.int .u32 0) .returning _ c0 g0).mono ?_
  rintro e u' w'' ⟨rfl, rfl, rfl⟩
  refine leaves_cons (f := 188) (args := #[.pointer (some ⟨g, 1, none⟩)]) (by simp [settle]) (by simp [go_sem]) ?_
  refine (onc_unlock ⟨g, 1, none⟩ _ (w5.drew.setCell ⟨g, 0, none⟩ (.int .u32 1)) ((World.cell?_setCell_other w5.drew ⟨g, 0, none⟩ ⟨g, 1, none⟩ (.int .u32 1) (by simp)).trans c1) (by simp [g1])).mono ?_
  rintro e u' w'' ⟨rfl, rfl, rfl⟩
  simp [Leaves, settle, results, Tryz.results158]
  exact ⟨w5, r', hrow, hR, rfl⟩
/-- Do, not yet done. -/
theorem onc_do (g : Nat) (T : TypeId) (z : Int) (r on on' : Value) (w : World) (R : Value → World → Prop) (hr : RowAt w g T [.int .u32 0, .int .i32 0, .int .u32 z, r, on])
    (BO : Calls Tryz.prog 116 #[.pointer (some ⟨g, 0, none⟩)] (w.setCell ⟨g, 1, none⟩ (.int .i32 1)) fun e w' => e = .returned (.tuple #[]) ∧ ∃ r', RowAt w' g T [.int .u32 0, .int .i32 1, .int .u32 z, r', on'] ∧ R r' w') :
    Calls Tryz.prog 115 #[.pointer (some ⟨g, 0, none⟩), .func (.func 116) #[.pointer (some ⟨g, 0, none⟩)] #[]] w fun e w'' => e = .returned (.tuple #[]) ∧ ∃ w' r', RowAt w' g T [.int .u32 0, .int .i32 1, .int .u32 z, r', on'] ∧ R r' w' ∧ w'' = (w'.drew.setCell ⟨g, 0, none⟩ (.int .u32 1)).setCell ⟨g, 1, none⟩ (.int .i32 0) := by
  have LD := Lib.hid (onc_load _ _ _ (hr.cell (j := 0) rfl))
  have SL := Lib.hid (onc_slow g T z r on on' w R hr BO)
  have hnot : ∀ (x : Bool) (w : World), (Op.unary .not (.bool x)).run Tryz.prog w = .ok (.bool (!x)) w := fun _ _ => rfl
  clear hr BO
  go_enter Tryz.func115, Tryz.ntmps115
  go_wp2_with (first
    | (go_at_call 157; refine LD.out.mono ?_; rintro e w' ⟨rfl, rfl⟩)
    | (go_at_call 158; refine SL.out.mono ?_; rintro e w5 ⟨rfl, h5⟩))
  go_end0
  exact ⟨rfl, h5⟩
end Go.Proofs.YtclgkkencpkjpaaGreatDoor
