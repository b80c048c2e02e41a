/- Walk of icehouseref28.Right: is one reply right, by the document? Condition: texts are within bounds. -/
import Derived.Test.YtaddefjkjlkjnaaDoorAcc13
namespace Go.Proofs.YtaddefjkjlkjnaaDoor
open Go.RowKit IH
set_option maxRecDepth 100000

def refR28 (t : Reply) : Bool := !(word28 t.kind).isEmpty && !far28 t.moment && !far28 t.conn && !far28 t.status && !far28 t.age && !far28 t.lines && decide (t.key.length ≤ 8000) &&
  !(t.method == [45]) && !(t.uri == [45]) && decide (t.method.length ≤ 32) && decide (t.uri.length ≤ 8000) && (t.method.isEmpty || token t.method) && (t.uri.isEmpty || vis28 t.uri)
theorem refR28_eq (t : Reply) : refR28 t = right28 t := by
  unfold refR28 right28 method28 uri28 anyFar vis28
  simp only [List.any_cons, List.any_nil, Bool.or_false]
  cases hm : t.method with
  | nil =>
    cases hu : t.uri with
    | nil =>
      rw [Bool.eq_iff_iff]
      simp [seen28]
      first | done | (constructor <;> (intro h; simp_all)) | (intros; simp_all [and_assoc])
    | cons c l =>
      rw [Bool.eq_iff_iff]
      simp
      first | done | (constructor <;> (intro h; simp_all)) | (intros; simp_all [and_assoc])
  | cons a m =>
    cases hu : t.uri with
    | nil =>
      rw [Bool.eq_iff_iff]
      simp [seen28]
      first | done | (constructor <;> (intro h; simp_all)) | (intros; simp_all [and_assoc])
    | cons c l =>
      rw [Bool.eq_iff_iff]
      simp
      first | done | (constructor <;> (intro h; simp_all)) | (intros; simp_all [and_assoc])

set_option maxHeartbeats 16000000 in
theorem refRight_any (t : Reply) (w : World) (hs : t.method.length ≤ 1000000000 ∧ t.uri.length ≤ 1000000000 ∧ t.key.length ≤ 1000000000) :
    Calls Tryd.prog 25 #[.agg (toldCells t).toArray] w fun e w' => e = .returned (.bool (refR28 t)) ∧ Below w.heap.size w w' := by
  obtain ⟨tc, tk, tm, tl, tme, tu, tke, ts, ta⟩ := t
  obtain ⟨bm, bu, bk⟩ := hs
  simp only at bm bu bk
  simp only [toldCells]
  obtain ⟨Sm, hSm⟩ : ∃ S : ByteArray, S = ⟨tme.toArray⟩ := ⟨_, rfl⟩
  obtain ⟨Su, hSu⟩ : ∃ S : ByteArray, S = ⟨tu.toArray⟩ := ⟨_, rfl⟩
  obtain ⟨Sk, hSk⟩ : ∃ S : ByteArray, S = ⟨tke.toArray⟩ := ⟨_, rfl⟩
  have dm : Sm.data.toList = tme := by rw [hSm]
  have du : Su.data.toList = tu := by rw [hSu]
  have dk : Sk.data.toList = tke := by rw [hSk]
  rw [← hSm, ← hSu, ← hSk]
  clear hSm hSu hSk
  subst dm du dk
  rw [data_len] at bm bu bk
  have hrt : refR28 ⟨tc, tk, tm, tl, Sm.data.toList, Su.data.toList, Sk.data.toList, ts, ta⟩ = (!(word28 tk).isEmpty && !far28 tm && !far28 tc && !far28 ts && !far28 ta && !far28 tl && decide (Sk.size ≤ 8000) &&
    !(Sm.toList == [45]) && !(Su.toList == [45]) && decide (Sm.size ≤ 32) && decide (Su.size ≤ 8000) && (Sm.toList == [] || token Sm.data.toList) && (Su.toList == [] || vis28 Su.data.toList)) := by
    have e1 : ∀ S : ByteArray, (S.toList == ([] : List UInt8)) = S.data.toList.isEmpty := fun S => by rw [ByteArray.toList_eq]; cases S.data.toList <;> rfl
    rw [e1, e1, ByteArray.toList_eq, ByteArray.toList_eq]
    unfold refR28
    simp only [data_len]
  have Hrt := Lib.hid hrt; clear hrt
  have i1 := Lib.hid (refIn_any tm)
  have i2 := Lib.hid (refIn_any tc)
  have i3 := Lib.hid (refIn_any ts)
  have i4 := Lib.hid (refIn_any ta)
  have i5 := Lib.hid (refIn_any tl)
  generalize far28 tm = f1 at *
  generalize far28 tc = f2 at *
  generalize far28 ts = f3 at *
  generalize far28 ta = f4 at *
  generalize far28 tl = f5 at *
  have TM := Lib.hid (refToken_any Sm (by omega))
  have VU := Lib.hid (fun W => refVisible_any Su W (by omega))
  generalize token Sm.data.toList = tB at *
  generalize vis28 Su.data.toList = vB at *
  obtain ⟨Wd, hWd⟩ : ∃ S : ByteArray, S = ⟨(word28 tk).toArray⟩ := ⟨_, rfl⟩
  have hwe : (Wd.toList == ([] : List UInt8)) = (word28 tk).isEmpty := by rw [ByteArray.toList_eq, hWd]; cases word28 tk <;> rfl
  have HWd := Lib.hid hWd; clear hWd
  have Hwe := Lib.hid hwe; clear hwe
  go_enter Tryd.func25, Tryd.ntmps25
  go_upto_region 1 with fail
  obtain ⟨w0, hw0⟩ : ∃ w0 : World, w0 = w.alloc (.cells #[.int .i64 tc, .int .i64 tk, .int .i64 tm, .int .i64 tl, .string Sm, .string Su, .string Sk, .int .i64 ts, .int .i64 ta] 48) := ⟨_, rfl⟩
  rw [← hw0]
  have hbox : RowAt w0 w.heap.size 48 [.int .i64 tc, .int .i64 tk, .int .i64 tm, .int .i64 tl, .string Sm, .string Su, .string Sk, .int .i64 ts, .int .i64 ta] := by rw [hw0]; exact RowAt.new w _ _
  have hbel : Below w.heap.size w w0 := by rw [hw0]; exact (Below.refl _ _).alloc (Nat.le_refl _) _
  clear hw0
  have c1 := hbox.cell (j := 1) rfl
  have Hbox := Lib.hid hbox; clear hbox
  go_wp2_with (first
    | (go_at_call 29; refine (refWord_any tk _).mono ?_; rintro e w1 ⟨rfl, hb1⟩; rw [← HWd.out]; have hbel1 := below_step hbel hb1; have hbx1 := Hbox.out.below hb1 Hbox.out.lt; have c0 := hbx1.cell (j := 0) rfl; have c2 := hbx1.cell (j := 2) rfl; have c3 := hbx1.cell (j := 3) rfl; have c4 := hbx1.cell (j := 4) rfl; have c5 := hbx1.cell (j := 5) rfl; have c6 := hbx1.cell (j := 6) rfl; have c7 := hbx1.cell (j := 7) rfl; have c8 := hbx1.cell (j := 8) rfl; have Hbox1 := Lib.hid hbx1; clear hbx1 hb1 c1)
    | (go_at_call_of 68 (Value.int .i64 tm); refine (i1.out _).mono ?_; rintro e w' ⟨rfl, rfl⟩)
    | (go_at_call_of 68 (Value.int .i64 tc); refine (i2.out _).mono ?_; rintro e w' ⟨rfl, rfl⟩)
    | (go_at_call_of 68 (Value.int .i64 ts); refine (i3.out _).mono ?_; rintro e w' ⟨rfl, rfl⟩)
    | (go_at_call_of 68 (Value.int .i64 ta); refine (i4.out _).mono ?_; rintro e w' ⟨rfl, rfl⟩)
    | (go_at_call_of 68 (Value.int .i64 tl); refine (i5.out _).mono ?_; rintro e w' ⟨rfl, rfl⟩)
    | (go_at_call 60; refine (TM.out _).mono ?_; rintro e w2 ⟨rfl, hb2⟩; have hbel2 := below_step hbel1 hb2; have hbx2 := Hbox1.out.below hb2 Hbox1.out.lt; have c5 := hbx2.cell (j := 5) rfl; clear hb2)
    | (go_at_call 69; refine (VU.out _).mono ?_; rintro e w' ⟨rfl, rfl⟩))
  all_goals
    go_ret
    refine ⟨ret_bool ?_, by first | exact hbel2 | exact hbel1⟩
    rw [Hrt.out, ← Hwe.out]
    first | (simp [*]; done) | (simp [*]; omega) | (simp_all; done) | (simp_all; omega)
end Go.Proofs.YtaddefjkjlkjnaaDoor
