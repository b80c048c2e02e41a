/- Walks of layer 2: Print and Forms. No condition. -/
import Derived.Test.YtpmidmdodjgeeaaDoorDat5
import Derived.Test.YtpmidmdodjgeeaaDoorCal4
namespace Go.Proofs.YtpmidmdodjgeeaaDoor
open Go.RowKit IH
set_option maxRecDepth 100000

theorem split_at {mt y m d : Int} (hM : Moment mt y m d) (w : World) :
    Calls Tryd.prog 56 #[.int .i64 mt] w fun e w' => e = .returned (.agg (civV y m d (mt % 86400 / 3600) (mt % 86400 / 60 % 60) (mt % 86400 % 60) (mt / 86400 % 7)).toArray) ∧ Below w.heap.size w w' := by
  refine (split_any mt hM.h0 hM.h1 w).mono ?_
  rintro e w' ⟨⟨y', m', d', rfl, hM'⟩, hb⟩
  obtain ⟨rfl, rfl, rfl⟩ := hM'.uniq hM
  exact ⟨rfl, hb⟩
theorem forms_at {mt y m d : Int} (hM : Moment mt y m d) (w : World) :
    Calls Tryd.prog 57 #[.agg (civV y m d (mt % 86400 / 3600) (mt % 86400 / 60 % 60) (mt % 86400 % 60) (mt / 86400 % 7)).toArray] w fun e w' => e = .returned (.agg #[.string ⟨(formOf 0 mt y m d).toArray⟩, .string ⟨(formOf 1 mt y m d).toArray⟩, .string ⟨(formOf 2 mt y m d).toArray⟩]) ∧ Below w.heap.size w w' := by
  have hy := hM.year
  have h0 := hM.h0
  have hml := mlen_bd y m
  obtain ⟨a, b, c, e, f⟩ := hM.civ
  exact forms_any y m d (mt % 86400) (mt / 86400 % 7) (by omega) (by omega) a b c (by omega) (by omega) (by omega) (by omega) (by omega) w

theorem idx3 (a b c : ByteArray) (w : World) :
    (Instr.index 64 (.agg #[.string a, .string b, .string c]) (.int .i64 0)).run Tryd.prog w = .ok (.string a) w ∧
    (Instr.index 64 (.agg #[.string a, .string b, .string c]) (.int .i64 1)).run Tryd.prog w = .ok (.string b) w ∧
    (Instr.index 64 (.agg #[.string a, .string b, .string c]) (.int .i64 2)).run Tryd.prog w = .ok (.string c) w := ⟨by kernel_rfl, by kernel_rfl, by kernel_rfl⟩

theorem Print_no (mt : Int) (h : mt < 0 ∨ 253402300799 < mt) (w : World) :
    Calls Tryd.prog 34 #[.int .i64 mt] w fun e w' => e = .returned (.tuple #[.string ⟨#[]⟩, .int .i64 21]) ∧ w = w' := by
  rcases h with h | h
  · go_enter Tryd.func34, Tryd.ntmps34
    go_wp2
    go_ret2
    exact ⟨rfl, rfl⟩
  · have h' : ¬ mt < 0 := by omega
    go_enter Tryd.func34, Tryd.ntmps34
    go_wp2
    go_ret2
    exact ⟨rfl, rfl⟩
theorem Print_at {mt y m d : Int} (hM : Moment mt y m d) (w : World) :
    Calls Tryd.prog 34 #[.int .i64 mt] w fun e w' => e = .returned (.tuple #[.string ⟨(formOf 0 mt y m d).toArray⟩, .int .i64 0]) ∧ Below w.heap.size w w' := by
  have h0 := hM.h0
  have h1 := hM.h1
  have SP := Lib.hid (split_at hM)
  have FO := Lib.hid (forms_at hM)
  generalize (⟨(formOf 0 mt y m d).toArray⟩ : ByteArray) = F0 at *
  generalize (⟨(formOf 1 mt y m d).toArray⟩ : ByteArray) = F1 at *
  generalize (⟨(formOf 2 mt y m d).toArray⟩ : ByteArray) = F2 at *
  generalize (Value.agg (civV y m d (mt % 86400 / 3600) (mt % 86400 / 60 % 60) (mt % 86400 % 60) (mt / 86400 % 7)).toArray) = CV at *
  clear hM
  have ix := fun w => (idx3 F0 F1 F2 w).1
  go_enter Tryd.func34, Tryd.ntmps34
  go_wp2_with (first
    | (go_at_call 56; (with_reducible refine (SP.out _).mono ?_); rintro e w2 ⟨rfl, hb2⟩)
    | (go_at_call 57; (with_reducible refine (FO.out _).mono ?_); rintro e w3 ⟨rfl, hb3⟩))
  go_ret2
  exact ⟨rfl, below_step hb2 hb3⟩

theorem fld_civ (y m d h mi s k : Int) (w : World) : (Instr.field 83 (.agg #[.int .i64 y, .int .i64 m, .int .i64 d, .int .i64 h, .int .i64 mi, .int .i64 s, .int .i64 k]) 0).run Tryd.prog w = .ok (.int .i64 y) w := by kernel_rfl
def noForms : Value := .agg #[.string ⟨#[]⟩, .string ⟨#[]⟩, .string ⟨#[]⟩]
theorem Forms_no (mt : Int) (h : mt < 0 ∨ 253402300799 < mt) (w : World) :
    Calls Tryd.prog 36 #[.int .i64 mt] w fun e w' => e = .returned (.tuple #[.agg #[.string ⟨#[]⟩, .string ⟨#[]⟩, .string ⟨#[]⟩], .int .i64 21]) ∧ Below w.heap.size w w' := by
  rcases h with h | h
  · go_enter Tryd.func36, Tryd.ntmps36
    go_wp2
    exact bodyPost_ret (v := .tuple #[.agg #[.string ⟨#[]⟩, .string ⟨#[]⟩, .string ⟨#[]⟩], .int .i64 21]) (by simp [results, Tryd.results36, go_sem]) rfl ⟨rfl, (Below.refl _ _).alloc (Nat.le_refl _) _⟩
  · have h' : ¬ mt < 0 := by omega
    go_enter Tryd.func36, Tryd.ntmps36
    go_wp2
    exact bodyPost_ret (v := .tuple #[.agg #[.string ⟨#[]⟩, .string ⟨#[]⟩, .string ⟨#[]⟩], .int .i64 21]) (by simp [results, Tryd.results36, go_sem]) rfl ⟨rfl, (Below.refl _ _).alloc (Nat.le_refl _) _⟩
theorem Forms_late {mt y m d : Int} (hM : Moment mt y m d) (hy : 2069 < y) (w : World) :
    Calls Tryd.prog 36 #[.int .i64 mt] w fun e w' => e = .returned (.tuple #[.agg #[.string ⟨#[]⟩, .string ⟨#[]⟩, .string ⟨#[]⟩], .int .i64 21]) ∧ Below w.heap.size w w' := by
  have h0 := hM.h0
  have h1 := hM.h1
  have SP := split_at hM
  unfold civV at SP
  generalize mt % 86400 / 3600 = x1 at *
  generalize mt % 86400 / 60 % 60 = x2 at *
  generalize mt % 86400 % 60 = x3 at *
  generalize mt / 86400 % 7 = x4 at *
  replace SP := Lib.hid SP
  clear hM
  have hr0 := RowAt.new w 64 [.string ⟨#[]⟩, .string ⟨#[]⟩, .string ⟨#[]⟩]
  have hb0 : Below w.heap.size w (w.alloc (.cells #[.string ⟨#[]⟩, .string ⟨#[]⟩, .string ⟨#[]⟩] 64)) := (Below.refl _ _).alloc (Nat.le_refl _) _
  have HR := Lib.hid hr0; clear hr0
  have fl := fld_civ y m d x1 x2 x3 x4
  go_enter Tryd.func36, Tryd.ntmps36
  go_wp2_with (first
    | (go_at_call 56; (with_reducible refine (SP.out _).mono ?_); rintro e w2 ⟨rfl, hb2⟩; have hr2 := HR.out.below hb2 HR.out.lt; have HB2 := Lib.hid hb2; clear hb2)
    | (refine wpList_store_row rfl 64 _ _ rfl w.heap.size 64 [.string ⟨#[]⟩, .string ⟨#[]⟩, .string ⟨#[]⟩] _ (by rfl) (by rfl) hr2 rfl (by kernel_rfl) (by simp [Value.oneCell']) ?_; intro w3 h5 h6))
  have d0 := h5.cell (j := 0) rfl
  have d1 := h5.cell (j := 1) rfl
  have d2 := h5.cell (j := 2) rfl
  have hbel := h6.below (hb0.trans (HB2.out.mono (by simp))) (Nat.le_refl _)
  exact bodyPost_ret (v := .tuple #[.agg #[.string ⟨#[]⟩, .string ⟨#[]⟩, .string ⟨#[]⟩], .int .i64 21]) (by simp [results, Tryd.results36, go_sem, d0, d1, d2]) rfl ⟨rfl, hbel⟩
theorem Forms_at {mt y m d : Int} (hM : Moment mt y m d) (hy : y ≤ 2069) (w : World) :
    Calls Tryd.prog 36 #[.int .i64 mt] w fun e w' => e = .returned (.tuple #[.agg #[.string ⟨(formOf 0 mt y m d).toArray⟩, .string ⟨(formOf 1 mt y m d).toArray⟩, .string ⟨(formOf 2 mt y m d).toArray⟩], .int .i64 0]) ∧ Below w.heap.size w w' := by
  have h0 := hM.h0
  have h1 := hM.h1
  have SP := split_at hM
  have FO := forms_at hM
  generalize (⟨(formOf 0 mt y m d).toArray⟩ : ByteArray) = F0 at *
  generalize (⟨(formOf 1 mt y m d).toArray⟩ : ByteArray) = F1 at *
  generalize (⟨(formOf 2 mt y m d).toArray⟩ : ByteArray) = F2 at *
  unfold civV at SP FO
  generalize mt % 86400 / 3600 = x1 at *
  generalize mt % 86400 / 60 % 60 = x2 at *
  generalize mt % 86400 % 60 = x3 at *
  generalize mt / 86400 % 7 = x4 at *
  replace SP := Lib.hid SP
  replace FO := Lib.hid FO
  clear hM
  have hr0 := RowAt.new w 64 [.string ⟨#[]⟩, .string ⟨#[]⟩, .string ⟨#[]⟩]
  have hb0 : Below w.heap.size w (w.alloc (.cells #[.string ⟨#[]⟩, .string ⟨#[]⟩, .string ⟨#[]⟩] 64)) := (Below.refl _ _).alloc (Nat.le_refl _) _
  have HR := Lib.hid hr0; clear hr0
  have fl := fld_civ y m d x1 x2 x3 x4
  go_enter Tryd.func36, Tryd.ntmps36
  go_upto_region 3 with (go_at_call 56; (with_reducible refine (SP.out _).mono ?_); rintro e w2 ⟨rfl, hb2⟩; have hr2 := HR.out.below hb2 HR.out.lt; have hq2 := hb0.trans (hb2.mono (by simp)); have HB2 := Lib.hid hb2; clear hb2)
  go_wp2_with (first
    | (go_at_call 56; (with_reducible refine (SP.out _).mono ?_); rintro e w3 ⟨rfl, hb3⟩; have hr3 := hr2.below hb3 hr2.lt; have hq3 := below_step hq2 hb3; clear hb3)
    | (go_at_call 57; (with_reducible refine (FO.out _).mono ?_); rintro e w4 ⟨rfl, hb4⟩; have hr4 := hr3.below hb4 hr3.lt; have hq4 := below_step hq3 hb4; clear hb4)
    | (refine wpList_store_row rfl 64 _ _ rfl w.heap.size 64 [.string F0, .string F1, .string F2] _ (by rfl) (by rfl) hr4 rfl (by kernel_rfl) (by simp [Value.oneCell']) ?_; intro w5 h5 h6))
  have d0 := h5.cell (j := 0) rfl
  have d1 := h5.cell (j := 1) rfl
  have d2 := h5.cell (j := 2) rfl
  have hbel := h6.below hq4 (Nat.le_refl _)
  exact bodyPost_ret (v := .tuple #[.agg #[.string F0, .string F1, .string F2], .int .i64 0]) (by simp [results, Tryd.results36, go_sem, d0, d1, d2]) rfl ⟨rfl, hbel⟩
end Go.Proofs.YtpmidmdodjgeeaaDoor
