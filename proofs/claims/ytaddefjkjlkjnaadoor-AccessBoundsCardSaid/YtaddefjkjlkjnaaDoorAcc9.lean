/- Walk of access.right. Condition: texts are within 10^9 octets, numbers are ints. -/
import Derived.Test.YtaddefjkjlkjnaaDoorAcc8
import Derived.Test.YtaddefjkjlkjnaaDoorOct1
import Derived.Deep.DeepCutAuto
namespace Go.Proofs.YtaddefjkjlkjnaaDoor
open Go.RowKit IH
set_option maxRecDepth 100000

def method28 (s : List UInt8) : Bool := s.isEmpty || (token s && decide (s.length ≤ 32) && !(s == [45]))
def uri28 (s : List UInt8) : Bool := decide (s.length ≤ 8000) && seen28 s && !(s == [45])
def right28 (t : Reply) : Bool := method28 t.method && uri28 t.uri && !(word28 t.kind).isEmpty && !(anyFar [t.moment, t.conn, t.status, t.age, t.lines]) && decide (t.key.length ≤ 8000)

theorem numbers_at (tc tk tm tl ts ta : Int) (a b c : ByteArray) (w : World) :
    Calls Tryd.prog 116 #[.agg #[.int .i64 tc, .int .i64 tk, .int .i64 tm, .int .i64 tl, .string a, .string b, .string c, .int .i64 ts, .int .i64 ta]] w fun e w' => e = .returned (.slice (some ⟨w.heap.size + 1, 0, none⟩) 5 5) ∧ RowAt w' (w.heap.size + 1) 3 ([tm, tc, ts, ta, tl].map (.int .i64)) ∧ Below w.heap.size w w' := by
  have h := numbers_any ⟨tc, tk, tm, tl, a.data.toList, b.data.toList, c.data.toList, ts, ta⟩ w
  simp only [toldCells, Lib.mk_data] at h
  exact h
set_option maxHeartbeats 8000000 in
theorem right_any (t : Reply) (w : World) (hm : t.method.length ≤ 1000000000) (hu : t.uri.length ≤ 1000000000) (hk : t.key.length ≤ 1000000000) :
    Calls Tryd.prog 75 #[.agg (toldCells t).toArray] w fun e w' => e = .returned (.bool (right28 t)) ∧ Below w.heap.size w w' := by
  obtain ⟨tc, tk, tm, tl, tme, tu, tke, ts, ta⟩ := t
  simp only at hm hu hk
  simp only [toldCells]
  obtain ⟨Sm, hSm⟩ : ∃ S : ByteArray, S = ⟨tme.toArray⟩ := ⟨_, rfl⟩
  obtain ⟨Su, hSu⟩ : ∃ S : ByteArray, S = ⟨tu.toArray⟩ := ⟨_, rfl⟩
  obtain ⟨Sk, hSk⟩ : ∃ S : ByteArray, S = ⟨tke.toArray⟩ := ⟨_, rfl⟩
  have dm : Sm.data.toList = tme := by rw [hSm]
  have du : Su.data.toList = tu := by rw [hSu]
  have dk : Sk.data.toList = tke := by rw [hSk]
  rw [← hSm, ← hSu, ← hSk]
  have zm : Sm.size = tme.length := by rw [hSm]; rfl
  have zu : Su.size = tu.length := by rw [hSu]; rfl
  have zk : Sk.size = tke.length := by rw [hSk]; rfl
  have lm : Sm.toList = tme := by rw [ByteArray.toList_eq, dm]
  have lu : Su.toList = tu := by rw [ByteArray.toList_eq, du]
  clear hSm hSu hSk
  have Dm := Lib.hid dm; clear dm
  have Du := Lib.hid du; clear du
  have Dk := Lib.hid dk; clear dk
  have Lm := Lib.hid lm; clear lm
  have Lu := Lib.hid lu; clear lu
  have bm : Sm.size ≤ 1000000000 := by omega
  have bu : Su.size ≤ 1000000000 := by omega
  have bk : Sk.size ≤ 1000000000 := by omega
  have Zm := Lib.hid zm; clear zm
  have Zu := Lib.hid zu; clear zu
  have Zk := Lib.hid zk; clear zk
  go_enter Tryd.func75, Tryd.ntmps75
  go_upto_region 2 with fail
  obtain ⟨w0, hw0⟩ : ∃ w0 : World, w0 = w.alloc (.cells #[.int .i64 tc, .int .i64 tk, .int .i64 tm, .int .i64 tl, .string Sm, .string Su, .string Sk, .int .i64 ts, .int .i64 ta] 48) := ⟨_, rfl⟩
  rw [← hw0]
  have hbox : RowAt w0 w.heap.size 48 [.int .i64 tc, .int .i64 tk, .int .i64 tm, .int .i64 tl, .string Sm, .string Su, .string Sk, .int .i64 ts, .int .i64 ta] := by rw [hw0]; exact RowAt.new w _ _
  have hbel : Below w.heap.size w w0 := by rw [hw0]; exact (Below.refl _ _).alloc (Nat.le_refl _) _
  clear hw0
  have c1 := hbox.cell (j := 1) rfl
  have c4 := hbox.cell (j := 4) rfl
  have c5 := hbox.cell (j := 5) rfl
  have c6 := hbox.cell (j := 6) rfl
  go_cut [4] from 6 to 61 (fun s4 wx => s4 = .bool (method28 tme) ∧ wx = w0)
  case first =>
    by_cases h0 : tme = []
    · have e0 : (Sm.toList == ([] : List UInt8)) = true := by rw [Lm.out, h0]; rfl
      have hv : method28 tme = true := by rw [h0]; rfl
      have Hv := Lib.hid hv; clear hv h0
      go_wp2_with fail
      go_meet
      exact ⟨by rw [Hv.out], rfl⟩
    · have e0 : (Sm.toList == ([] : List UInt8)) = false := by rw [Lm.out]; cases tme with | nil => exact absurd rfl h0 | cons => rfl
      have hem : tme.isEmpty = false := by cases tme with | nil => exact absurd rfl h0 | cons => rfl
      have hmv : method28 tme = (token tme && decide (tme.length ≤ 32) && !(tme == [45])) := by unfold method28; rw [hem, Bool.false_or]
      have Hmv := Lib.hid hmv; clear hmv hem h0
      by_cases ht : token tme = true
      · have ht2 : token Sm.data.toList = true := by rw [Dm.out]; exact ht
        by_cases hl : Sm.size ≤ 32
        · have hv : method28 tme = !(tme == [45]) := by rw [Hmv.out, ht, decide_eq_true (by rw [← Zm.out]; exact hl)]; rfl
          by_cases hd : (tme == [45]) = true
          · have e1 : (Sm.toList == ([45] : List UInt8)) = true := by rw [Lm.out]; exact hd
            rw [hd] at hv
            have Hv := Lib.hid hv; clear hv hd ht
            go_wp2_with (go_at_call 113; (with_reducible refine (Token_any Sm bm _).mono ?_); rintro e w' ⟨rfl, rfl⟩; rw [ht2])
            go_meet
            exact ⟨by rw [Hv.out]; rfl, rfl⟩
          · have hd' : (tme == [45]) = false := by simpa using hd
            have e1 : (Sm.toList == ([45] : List UInt8)) = false := by rw [Lm.out]; exact hd'
            rw [hd'] at hv
            have Hv := Lib.hid hv; clear hv hd hd' ht
            go_wp2_with (go_at_call 113; (with_reducible refine (Token_any Sm bm _).mono ?_); rintro e w' ⟨rfl, rfl⟩; rw [ht2])
            go_meet
            exact ⟨by rw [Hv.out]; rfl, rfl⟩
        · have hv : method28 tme = false := by rw [Hmv.out, ht, decide_eq_false (by rw [← Zm.out]; exact hl)]; rfl
          have Hv := Lib.hid hv; clear hv ht
          go_wp2_with (go_at_call 113; (with_reducible refine (Token_any Sm bm _).mono ?_); rintro e w' ⟨rfl, rfl⟩; rw [ht2])
          go_meet
          exact ⟨by rw [Hv.out], rfl⟩
      · have ht' : token tme = false := by simpa using ht
        have ht2 : token Sm.data.toList = false := by rw [Dm.out]; exact ht'
        have hv : method28 tme = false := by rw [Hmv.out, ht']; rfl
        have Hv := Lib.hid hv; clear hv ht ht'
        go_wp2_with (go_at_call 113; (with_reducible refine (Token_any Sm bm _).mono ?_); rintro e w' ⟨rfl, rfl⟩; rw [ht2])
        go_meet
        exact ⟨by rw [Hv.out], rfl⟩
  case rest =>
    obtain ⟨rfl, hwx⟩ := hcut
    subst hwx
    obtain ⟨w1, hw1⟩ : ∃ w1 : World, w1 = wc := ⟨_, rfl⟩
    subst hw1
    clear c4 Lm
    have Hbox := Lib.hid hbox; clear hbox
    go_upto_region 3 with fail
    go_cut [5] from 6 to 61 (fun s5 wx => s5 = .bool (uri28 tu) ∧ RowAt wx w.heap.size 48 [.int .i64 tc, .int .i64 tk, .int .i64 tm, .int .i64 tl, .string Sm, .string Su, .string Sk, .int .i64 ts, .int .i64 ta] ∧ Below w.heap.size w wx)
    case first =>
      by_cases hl : Su.size ≤ 8000
      · have huv : uri28 tu = (seen28 tu && !(tu == [45])) := by unfold uri28; rw [decide_eq_true (by rw [← Zu.out]; exact hl)]; rfl
        have Huv := Lib.hid huv; clear huv
        by_cases hv : seen28 tu = true
        · have hv2 : seen28 Su.data.toList = true := by rw [Du.out]; exact hv
          by_cases hd : (tu == [45]) = true
          · have e1 : (Su.toList == ([45] : List UInt8)) = true := by rw [Lu.out]; exact hd
            have hr : uri28 tu = false := by rw [Huv.out, hv, hd]; rfl
            have Hr := Lib.hid hr; clear hr hv hd
            go_wp2_with (go_at_call 114; (with_reducible refine (visible_any Su _ bu).mono ?_); rintro e w2 ⟨rfl, hb⟩; rw [hv2]; have hb2 := Hbox.out.below hb (Hbox.out.lt); have c5 := hb2.cell (j := 5) rfl; have Hb := Lib.hid hb2; clear hb2; have hb3 := hbel.trans (hb.mono hbel.size))
            go_meet
            exact ⟨by rw [Hr.out], Hb.out, hb3⟩
          · have hd' : (tu == [45]) = false := by simpa using hd
            have e1 : (Su.toList == ([45] : List UInt8)) = false := by rw [Lu.out]; exact hd'
            have hr : uri28 tu = true := by rw [Huv.out, hv, hd']; rfl
            have Hr := Lib.hid hr; clear hr hv hd hd'
            go_wp2_with (go_at_call 114; (with_reducible refine (visible_any Su _ bu).mono ?_); rintro e w2 ⟨rfl, hb⟩; rw [hv2]; have hb2 := Hbox.out.below hb (Hbox.out.lt); have c5 := hb2.cell (j := 5) rfl; have Hb := Lib.hid hb2; clear hb2; have hb3 := hbel.trans (hb.mono hbel.size))
            go_meet
            exact ⟨by rw [Hr.out], Hb.out, hb3⟩
        · have hv' : seen28 tu = false := by simpa using hv
          have hv2 : seen28 Su.data.toList = false := by rw [Du.out]; exact hv'
          have hr : uri28 tu = false := by rw [Huv.out, hv']; rfl
          have Hr := Lib.hid hr; clear hr hv hv'
          go_wp2_with (go_at_call 114; (with_reducible refine (visible_any Su _ bu).mono ?_); rintro e w2 ⟨rfl, hb⟩; rw [hv2]; have hb2 := Hbox.out.below hb (Hbox.out.lt); have c5 := hb2.cell (j := 5) rfl; have Hb := Lib.hid hb2; clear hb2; have hb3 := hbel.trans (hb.mono hbel.size))
          go_meet
          exact ⟨by rw [Hr.out], Hb.out, hb3⟩
      · have hr : uri28 tu = false := by unfold uri28; rw [decide_eq_false (by rw [← Zu.out]; exact hl)]; rfl
        have Hr := Lib.hid hr; clear hr
        go_wp2_with fail
        go_meet
        exact ⟨by rw [Hr.out], Hbox.out, hbel⟩
    case rest =>
      clear Hbox hbel c5 c1 c6
      obtain ⟨rfl, hbox, hbel⟩ := hcut
      obtain ⟨w3, hw3⟩ : ∃ w3 : World, w3 = wc := ⟨_, rfl⟩
      subst hw3
      have hrt : right28 ⟨tc, tk, tm, tl, tme, tu, tke, ts, ta⟩ = (method28 tme && uri28 tu && !(word28 tk).isEmpty && !(anyFar [tm, tc, ts, ta, tl]) && decide (tke.length ≤ 8000)) := rfl
      rw [← Zk.out] at hrt
      generalize method28 tme = mB at *
      generalize uri28 tu = uB at *
      have Hrt := Lib.hid hrt; clear hrt
      have c0 := hbox.cell (j := 0) rfl
      have c1 := hbox.cell (j := 1) rfl
      have c2 := hbox.cell (j := 2) rfl
      have c3 := hbox.cell (j := 3) rfl
      have c4 := hbox.cell (j := 4) rfl
      have c5 := hbox.cell (j := 5) rfl
      have c6 := hbox.cell (j := 6) rfl
      have c7 := hbox.cell (j := 7) rfl
      have c8 := hbox.cell (j := 8) rfl
      have Hbox := Lib.hid hbox; clear hbox
      have hsz := hbel.size
      by_cases hwd : word28 tk = []
      · go_wp2_with (go_at_call 28; (with_reducible refine (Word_any tk _).mono ?_); rintro e w' ⟨rfl, rfl⟩; rw [hwd])
        go_ret
        exact ⟨ret_bool (by rw [Hrt.out, hwd]; simp), hbel⟩
      · have hem : (word28 tk).isEmpty = false := by cases h : word28 tk with | nil => exact absurd h hwd | cons => rfl
        obtain ⟨Wd, hWd⟩ : ∃ S : ByteArray, S = ⟨(word28 tk).toArray⟩ := ⟨_, rfl⟩
        have e1 : (Wd.toList == ([] : List UInt8)) = false := by rw [ByteArray.toList_eq, hWd]; simpa using hem
        have HWd := Lib.hid hWd; have Hem := Lib.hid hem; clear hWd hwd hem
        by_cases hfar : anyFar [tm, tc, ts, ta, tl] = true
        · have Hfar := Lib.hid hfar; clear hfar
          go_wp2_with (first
            | (go_at_call 28; (with_reducible refine (Word_any tk _).mono ?_); rintro e w' ⟨rfl, rfl⟩; rw [← HWd.out])
            | (go_at_call 116; (with_reducible refine (numbers_at tc tk tm tl ts ta Sm Su Sk _).mono ?_); rintro e w4 ⟨rfl, hrn, hbn⟩; have Hrn := Lib.hid hrn; clear hrn; have hb4 := hbel.trans (hbn.mono hsz); have hbx := Hbox.out.below hbn Hbox.out.lt; have c6 := hbx.cell (j := 6) rfl; clear hbn)
            | (go_at_call 115; (with_reducible refine (ContainsFar_any [tm, tc, ts, ta, tl] _ 5 5 _ Hrn.out rfl (by decide)).mono ?_); rintro e w5 ⟨rfl, rfl⟩; rw [Hfar.out]))
          all_goals
            go_ret
            refine ⟨ret_bool ?_, hb4⟩
            rw [Hrt.out, Hem.out, Hfar.out]
            first | (simp [*]; done) | (simp [*]; omega)
        · have hfar' : anyFar [tm, tc, ts, ta, tl] = false := by simpa using hfar
          have Hfar := Lib.hid hfar'; clear hfar hfar'
          go_wp2_with (first
            | (go_at_call 28; (with_reducible refine (Word_any tk _).mono ?_); rintro e w' ⟨rfl, rfl⟩; rw [← HWd.out])
            | (go_at_call 116; (with_reducible refine (numbers_at tc tk tm tl ts ta Sm Su Sk _).mono ?_); rintro e w4 ⟨rfl, hrn, hbn⟩; have Hrn := Lib.hid hrn; clear hrn; have hb4 := hbel.trans (hbn.mono hsz); have hbx := Hbox.out.below hbn Hbox.out.lt; have c6 := hbx.cell (j := 6) rfl; clear hbn)
            | (go_at_call 115; (with_reducible refine (ContainsFar_any [tm, tc, ts, ta, tl] _ 5 5 _ Hrn.out rfl (by decide)).mono ?_); rintro e w5 ⟨rfl, rfl⟩; rw [Hfar.out]))
          all_goals
            go_ret
            refine ⟨ret_bool ?_, hb4⟩
            rw [Hrt.out, Hem.out, Hfar.out]
            first | (simp [*]; done) | (simp [*]; omega)
end Go.Proofs.YtaddefjkjlkjnaaDoor
