/- Walk of icehouseref28.Count: the document's counts. No condition but that the list is within bounds. -/
import Derived.Test.YtamoebdfppjbkaaAcc3
import Derived.Deep.Cut
import Derived.Deep.CutRange
namespace Go.Proofs.Ytamoebdfppjbkaa
open Go.RowKit IH
set_option maxRecDepth 100000

/-- The counts of a list as the cells of a tally. -/
def tallyOf (L : List Reply) : List Value := [.int .i64 (countK 1 L), .int .i64 (countK 2 L), .int .i64 (countK 3 L), .int .i64 (countK 4 L), .int .i64 (countK 5 L), .int .i64 (agesOf L)]
def tally0 : List Value := [.int .i64 0, .int .i64 0, .int .i64 0, .int .i64 0, .int .i64 0, .int .i64 0]

theorem tally_cells {w : World} {b : Nat} {ty : TypeId} {v0 v1 v2 v3 v4 v5 : Value} (h : RowAt w b ty [v0, v1, v2, v3, v4, v5]) :
    w.cell? ⟨b, 0, none⟩ = some v0 ∧ w.cell? ⟨b, 1, none⟩ = some v1 ∧ w.cell? ⟨b, 2, none⟩ = some v2 ∧ w.cell? ⟨b, 3, none⟩ = some v3 ∧ w.cell? ⟨b, 4, none⟩ = some v4 ∧ w.cell? ⟨b, 5, none⟩ = some v5 :=
  ⟨h.cell rfl, h.cell rfl, h.cell rfl, h.cell rfl, h.cell rfl, h.cell rfl⟩
theorem tally_frozen {w : World} {b : Nat} {ty : TypeId} {v0 v1 v2 v3 v4 v5 : Value} (h : RowAt w b ty [v0, v1, v2, v3, v4, v5]) :
    w.frozen? ⟨b, 0, none⟩ = false ∧ w.frozen? ⟨b, 1, none⟩ = false ∧ w.frozen? ⟨b, 2, none⟩ = false ∧ w.frozen? ⟨b, 3, none⟩ = false ∧ w.frozen? ⟨b, 4, none⟩ = false ∧ w.frozen? ⟨b, 5, none⟩ = false :=
  ⟨h.frozen (Nat.lt_of_lt_of_le (by decide) (Nat.le_refl 6)), h.frozen (Nat.lt_of_lt_of_le (by decide) (Nat.le_refl 6)), h.frozen (Nat.lt_of_lt_of_le (by decide) (Nat.le_refl 6)), h.frozen (Nat.lt_of_lt_of_le (by decide) (Nat.le_refl 6)), h.frozen (Nat.lt_of_lt_of_le (by decide) (Nat.le_refl 6)), h.frozen (Nat.lt_of_lt_of_le (by decide) (Nat.le_refl 6))⟩

theorem RowAt.new_at (w : World) (e : TypeId) (cs : List Value) (g : Nat) (hg : g = w.heap.size) : RowAt (w.alloc (.cells cs.toArray e)) g e cs := by
  subst hg; exact RowAt.new w e cs

theorem six_row {w : World} {g : Nat} {e : TypeId} {a0 a1 a2 a3 a4 a5 b0 b1 b2 b3 b4 b5 : Int} (h : RowAt w g e [.int .i64 a0, .int .i64 a1, .int .i64 a2, .int .i64 a3, .int .i64 a4, .int .i64 a5])
    (e0 : a0 = b0) (e1 : a1 = b1) (e2 : a2 = b2) (e3 : a3 = b3) (e4 : a4 = b4) (e5 : a5 = b5) : RowAt w g e [.int .i64 b0, .int .i64 b1, .int .i64 b2, .int .i64 b3, .int .i64 b4, .int .i64 b5] := by
  subst e0 e1 e2 e3 e4 e5; exact h

set_option maxHeartbeats 40000000 in
theorem refCount_any (A : Option Addr) (n c : Nat) (L : List Reply) (w : World) (hin : SliceIn w w.heap.size 9 A n c (toldsV L)) (hs : n ≤ 1000000) :
    Calls Try.prog 13 #[.slice A n c] w fun e w' => e = .returned (.agg (tallyOf L).toArray) ∧ Below w.heap.size w w' := by
  have hL : L.length = n := by have := hin.1; rw [toldsV_length] at this; omega
  go_enter Try.func13, Try.ntmps13
  go_wp2
  go_loopw [4] (fun i wr => ∃ k : Nat, k ≤ n ∧ i = .int .i64 k ∧ RowAt wr (w.heap.size + 1) 30 (tallyOf (L.take k)) ∧ RowAt wr w.heap.size 30 tally0 ∧ Below w.heap.size w wr) (fun i _ => n - (intOf i).toNat)
  case atStart =>
    have h0 : RowAt ((w.alloc (.cells tally0.toArray 30)).alloc (.cells tally0.toArray 30)) (w.heap.size + 1) 30 tally0 := by
      have := RowAt.new (w.alloc (.cells tally0.toArray 30)) 30 tally0
      simpa using this
    exact ⟨0, by omega, rfl, h0, (RowAt.new w _ _).alloc _, ((Below.refl _ _).alloc (Nat.le_refl _) _).alloc (by simp) _⟩
  case round =>
    obtain ⟨k, hk, rfl, hrow, hrow0, hbel⟩ := hrel
    have Hrow0 := Lib.hid hrow0; clear hrow0
    by_cases hlt : k < n
    · obtain ⟨t, ht⟩ : ∃ l, L[k]? = some l := ⟨_, List.getElem?_eq_getElem (by omega)⟩
      obtain ⟨b, off, rfl, hb, hc⟩ := hin.2.2.2 (by omega)
      have hcell : ∀ j u, (toldCells t)[j]? = some u → wr.cell? ⟨b, off + k * 9 + j, none⟩ = some u := fun j u hu => by
        have hj : j < 9 := by have := (List.getElem?_eq_some_iff.1 hu).1; rw [toldCells_length] at this; exact this
        rw [hbel.cell (p := ⟨b, off + k * 9 + j, none⟩) hb, Nat.add_assoc]
        exact hc _ _ (by rw [toldsV, flat_get toldCells 9 toldCells_length L k j t ht hj, hu])
      have hstep : L.take (k + 1) = L.take k ++ [t] := by rw [List.take_add_one, ht]; rfl
      have Hstep := Lib.hid hstep; clear hstep
      have Hc := Lib.hid hcell; clear hcell hc ht
      have hlen : (L.take k).length ≤ k := List.length_take_le k L
      have p1 := countK_le 1 (L.take k)
      have p2 := countK_le 2 (L.take k)
      have p3 := countK_le 3 (L.take k)
      have p4 := countK_le 4 (L.take k)
      have p5 := countK_le 5 (L.take k)
      obtain ⟨g0, g1⟩ := agesOf_bound (L.take k)
      have htal : tallyOf (L.take (k + 1)) = [.int .i64 (countK 1 (L.take k) + if t.kind = 1 then 1 else 0 : Nat), .int .i64 (countK 2 (L.take k) + if t.kind = 2 then 1 else 0 : Nat), .int .i64 (countK 3 (L.take k) + if t.kind = 3 then 1 else 0 : Nat), .int .i64 (countK 4 (L.take k) + if t.kind = 4 then 1 else 0 : Nat), .int .i64 (countK 5 (L.take k) + if t.kind = 5 then 1 else 0 : Nat), .int .i64 (agesStep (agesOf (L.take k)) t)] := by
        rw [Hstep.out]
        unfold tallyOf
        simp only [countK_snoc, agesOf_snoc]
      unfold tallyOf at hrow
      unfold agesStep at htal
      have htal' := Lib.hid htal; clear htal
      clear Hstep
      generalize countK 1 (L.take k) = z1 at *
      generalize countK 2 (L.take k) = z2 at *
      generalize countK 3 (L.take k) = z3 at *
      generalize countK 4 (L.take k) = z4 at *
      generalize countK 5 (L.take k) = z5 at *
      generalize agesOf (L.take k) = ag at *
      obtain ⟨tc, tk, tm, tl, tme, tu, tke, ts, ta⟩ := t
      simp only [toldCells] at *
      obtain ⟨q0, q1, q2, q3, q4, q5⟩ := tally_cells hrow
      obtain ⟨f0, f1, f2, f3, f4, f5⟩ := tally_frozen hrow
      have hlt1 := hrow.lt
      have Hrow := Lib.hid hrow; clear hrow
      go_upto_if 19 with (first | (refine wpList_load_agg rfl 43 _ rfl b (off + k * 9) rfl [.int .i64 tc, .int .i64 tk, .int .i64 tm, .int .i64 tl, .string ⟨tme.toArray⟩, .string ⟨tu.toArray⟩, .string ⟨tke.toArray⟩, .int .i64 ts, .int .i64 ta] _ Hc.out Try.underlying43 rfl (by kernel_rfl) ?_))
      go_cut [6] from 7 to 74 (fun s6 wx => ∃ y1 : Nat, y1 = (z1 + if tk = 1 then 1 else 0) ∧ RowAt wx (w.heap.size + 1) 30 [.int .i64 (y1 : Nat), .int .i64 (z2 : Nat), .int .i64 (z3 : Nat), .int .i64 (z4 : Nat), .int .i64 (z5 : Nat), .int .i64 ag] ∧ RowAt wx w.heap.size 30 tally0 ∧ RowAt wx wr.heap.size 43 [.int .i64 tc, .int .i64 tk, .int .i64 tm, .int .i64 tl, .string ⟨tme.toArray⟩, .string ⟨tu.toArray⟩, .string ⟨tke.toArray⟩, .int .i64 ts, .int .i64 ta] ∧ Below w.heap.size w wx)
      case first =>
        by_cases h : tk = 1
        · have hb2 : (tk == 1) = true := by simpa using h
          go_wp2_with fail
          go_meet
          subst h
          exact ⟨z1 + 1, by rw [if_pos rfl], (Hrow.out.set_ (j := 0) (Nat.lt_of_lt_of_le (by decide) (Nat.le_refl 6)) _).alloc _, (Hrow0.out.far (p := ⟨w.heap.size + 1, 0, none⟩) (by simp) _).alloc _, RowAt.new_at _ _ _ _ (by simp), (hbel.setCell (p := ⟨w.heap.size + 1, 0, none⟩) (by simp) _).alloc (by simpa using hbel.size) _⟩
        · have hb2 : (tk == 1) = false := by simpa using h
          go_wp2_with fail
          go_meet
          exact ⟨z1, by rw [if_neg h]; rfl, Hrow.out.alloc _, Hrow0.out.alloc _, RowAt.new _ _ _, hbel.alloc hbel.size _⟩
      case rest =>
        clear Hrow Hrow0 q0 q1 q2 q3 q4 q5 f0 f1 f2 f3 f4 f5
        obtain ⟨y1, hy1, hrow, hrow0, hbox, hbel1⟩ := hcut
        have Hrow0 := Lib.hid hrow0; clear hrow0
        have Hbel := Lib.hid hbel1; clear hbel1
        have b1 := hbox.cell (j := 1) rfl
        have b8 := hbox.cell (j := 8) rfl
        have Hbox := Lib.hid hbox; clear hbox
        have Hy1 := Lib.hid hy1
        have hyb1 : y1 ≤ z1 + 1 := by rw [hy1]; split <;> omega
        clear hy1
        obtain ⟨q0, q1, q2, q3, q4, q5⟩ := tally_cells hrow
        obtain ⟨f0, f1, f2, f3, f4, f5⟩ := tally_frozen hrow
        have hlt1 := hrow.lt
        have Hrow := Lib.hid hrow; clear hrow
        go_upto_if 26 with fail
        go_cut [6] from 7 to 74 (fun s6 wx => ∃ y2 : Nat, y2 = (z2 + if tk = 2 then 1 else 0) ∧ RowAt wx (w.heap.size + 1) 30 [.int .i64 (y1 : Nat), .int .i64 (y2 : Nat), .int .i64 (z3 : Nat), .int .i64 (z4 : Nat), .int .i64 (z5 : Nat), .int .i64 ag] ∧ RowAt wx w.heap.size 30 tally0 ∧ RowAt wx wr.heap.size 43 [.int .i64 tc, .int .i64 tk, .int .i64 tm, .int .i64 tl, .string ⟨tme.toArray⟩, .string ⟨tu.toArray⟩, .string ⟨tke.toArray⟩, .int .i64 ts, .int .i64 ta] ∧ Below w.heap.size w wx)
        case first =>
          by_cases h : tk = 2
          · have hb2 : (tk == 2) = true := by simpa using h
            go_wp2_with fail
            go_meet
            exact ⟨z2 + 1, by rw [if_pos h], (Hrow.out).set_ (j := 1) (Nat.lt_of_lt_of_le (by decide) (Nat.le_refl 6)) _, (Hrow0.out).far (p := ⟨w.heap.size + 1, 1, none⟩) (by simp) _, (Hbox.out).far (p := ⟨w.heap.size + 1, 1, none⟩) (by simp; omega) _, (Hbel.out).setCell (p := ⟨w.heap.size + 1, 1, none⟩) (by simp) _⟩
          · have hb2 : (tk == 2) = false := by simpa using h
            go_wp2_with fail
            go_meet
            exact ⟨z2, by rw [if_neg h]; rfl, Hrow.out, Hrow0.out, Hbox.out, Hbel.out⟩
        case rest =>
          clear Hrow Hrow0 q0 q1 q2 q3 q4 q5 f0 f1 f2 f3 f4 f5
          clear Hbox Hbel b1 b8
          obtain ⟨y2, hy2, hrow, hrow0, hbox, hbel2⟩ := hcut
          have Hrow0 := Lib.hid hrow0; clear hrow0
          have Hbel := Lib.hid hbel2; clear hbel2
          have b1 := hbox.cell (j := 1) rfl
          have b8 := hbox.cell (j := 8) rfl
          have Hbox := Lib.hid hbox; clear hbox
          have Hy2 := Lib.hid hy2
          have hyb2 : y2 ≤ z2 + 1 := by rw [hy2]; split <;> omega
          clear hy2
          obtain ⟨q0, q1, q2, q3, q4, q5⟩ := tally_cells hrow
          obtain ⟨f0, f1, f2, f3, f4, f5⟩ := tally_frozen hrow
          have hlt1 := hrow.lt
          have Hrow := Lib.hid hrow; clear hrow
          go_upto_if 33 with fail
          go_cut [6] from 7 to 74 (fun s6 wx => ∃ y3 : Nat, y3 = (z3 + if tk = 3 then 1 else 0) ∧ RowAt wx (w.heap.size + 1) 30 [.int .i64 (y1 : Nat), .int .i64 (y2 : Nat), .int .i64 (y3 : Nat), .int .i64 (z4 : Nat), .int .i64 (z5 : Nat), .int .i64 ag] ∧ RowAt wx w.heap.size 30 tally0 ∧ RowAt wx wr.heap.size 43 [.int .i64 tc, .int .i64 tk, .int .i64 tm, .int .i64 tl, .string ⟨tme.toArray⟩, .string ⟨tu.toArray⟩, .string ⟨tke.toArray⟩, .int .i64 ts, .int .i64 ta] ∧ Below w.heap.size w wx)
          case first =>
            by_cases h : tk = 3
            · have hb2 : (tk == 3) = true := by simpa using h
              go_wp2_with fail
              go_meet
              exact ⟨z3 + 1, by rw [if_pos h], (Hrow.out).set_ (j := 2) (Nat.lt_of_lt_of_le (by decide) (Nat.le_refl 6)) _, (Hrow0.out).far (p := ⟨w.heap.size + 1, 2, none⟩) (by simp) _, (Hbox.out).far (p := ⟨w.heap.size + 1, 2, none⟩) (by simp; omega) _, (Hbel.out).setCell (p := ⟨w.heap.size + 1, 2, none⟩) (by simp) _⟩
            · have hb2 : (tk == 3) = false := by simpa using h
              go_wp2_with fail
              go_meet
              exact ⟨z3, by rw [if_neg h]; rfl, Hrow.out, Hrow0.out, Hbox.out, Hbel.out⟩
          case rest =>
            clear Hrow Hrow0 q0 q1 q2 q3 q4 q5 f0 f1 f2 f3 f4 f5
            clear Hbox Hbel b1 b8
            obtain ⟨y3, hy3, hrow, hrow0, hbox, hbel3⟩ := hcut
            have Hrow0 := Lib.hid hrow0; clear hrow0
            have Hbel := Lib.hid hbel3; clear hbel3
            have b1 := hbox.cell (j := 1) rfl
            have b8 := hbox.cell (j := 8) rfl
            have Hbox := Lib.hid hbox; clear hbox
            have Hy3 := Lib.hid hy3
            have hyb3 : y3 ≤ z3 + 1 := by rw [hy3]; split <;> omega
            clear hy3
            obtain ⟨q0, q1, q2, q3, q4, q5⟩ := tally_cells hrow
            obtain ⟨f0, f1, f2, f3, f4, f5⟩ := tally_frozen hrow
            have hlt1 := hrow.lt
            have Hrow := Lib.hid hrow; clear hrow
            go_upto_if 40 with fail
            go_cut [6] from 7 to 74 (fun s6 wx => ∃ y4 : Nat, y4 = (z4 + if tk = 4 then 1 else 0) ∧ RowAt wx (w.heap.size + 1) 30 [.int .i64 (y1 : Nat), .int .i64 (y2 : Nat), .int .i64 (y3 : Nat), .int .i64 (y4 : Nat), .int .i64 (z5 : Nat), .int .i64 ag] ∧ RowAt wx w.heap.size 30 tally0 ∧ RowAt wx wr.heap.size 43 [.int .i64 tc, .int .i64 tk, .int .i64 tm, .int .i64 tl, .string ⟨tme.toArray⟩, .string ⟨tu.toArray⟩, .string ⟨tke.toArray⟩, .int .i64 ts, .int .i64 ta] ∧ Below w.heap.size w wx)
            case first =>
              by_cases h : tk = 4
              · have hb2 : (tk == 4) = true := by simpa using h
                go_wp2_with fail
                go_meet
                exact ⟨z4 + 1, by rw [if_pos h], (Hrow.out).set_ (j := 3) (Nat.lt_of_lt_of_le (by decide) (Nat.le_refl 6)) _, (Hrow0.out).far (p := ⟨w.heap.size + 1, 3, none⟩) (by simp) _, (Hbox.out).far (p := ⟨w.heap.size + 1, 3, none⟩) (by simp; omega) _, (Hbel.out).setCell (p := ⟨w.heap.size + 1, 3, none⟩) (by simp) _⟩
              · have hb2 : (tk == 4) = false := by simpa using h
                go_wp2_with fail
                go_meet
                exact ⟨z4, by rw [if_neg h]; rfl, Hrow.out, Hrow0.out, Hbox.out, Hbel.out⟩
            case rest =>
              clear Hrow Hrow0 q0 q1 q2 q3 q4 q5 f0 f1 f2 f3 f4 f5
              clear Hbox Hbel b1 b8
              obtain ⟨y4, hy4, hrow, hrow0, hbox, hbel4⟩ := hcut
              have Hrow0 := Lib.hid hrow0; clear hrow0
              have Hbel := Lib.hid hbel4; clear hbel4
              have b1 := hbox.cell (j := 1) rfl
              have b8 := hbox.cell (j := 8) rfl
              have Hbox := Lib.hid hbox; clear hbox
              have Hy4 := Lib.hid hy4
              have hyb4 : y4 ≤ z4 + 1 := by rw [hy4]; split <;> omega
              clear hy4
              obtain ⟨q0, q1, q2, q3, q4, q5⟩ := tally_cells hrow
              obtain ⟨f0, f1, f2, f3, f4, f5⟩ := tally_frozen hrow
              have hlt1 := hrow.lt
              have Hrow := Lib.hid hrow; clear hrow
              go_upto_if 47 with fail
              go_cut [6] from 7 to 74 (fun s6 wx => ∃ y5 : Nat, y5 = (z5 + if tk = 5 then 1 else 0) ∧ RowAt wx (w.heap.size + 1) 30 [.int .i64 (y1 : Nat), .int .i64 (y2 : Nat), .int .i64 (y3 : Nat), .int .i64 (y4 : Nat), .int .i64 (y5 : Nat), .int .i64 ag] ∧ RowAt wx w.heap.size 30 tally0 ∧ RowAt wx wr.heap.size 43 [.int .i64 tc, .int .i64 tk, .int .i64 tm, .int .i64 tl, .string ⟨tme.toArray⟩, .string ⟨tu.toArray⟩, .string ⟨tke.toArray⟩, .int .i64 ts, .int .i64 ta] ∧ Below w.heap.size w wx)
              case first =>
                by_cases h : tk = 5
                · have hb2 : (tk == 5) = true := by simpa using h
                  go_wp2_with fail
                  go_meet
                  exact ⟨z5 + 1, by rw [if_pos h], (Hrow.out).set_ (j := 4) (Nat.lt_of_lt_of_le (by decide) (Nat.le_refl 6)) _, (Hrow0.out).far (p := ⟨w.heap.size + 1, 4, none⟩) (by simp) _, (Hbox.out).far (p := ⟨w.heap.size + 1, 4, none⟩) (by simp; omega) _, (Hbel.out).setCell (p := ⟨w.heap.size + 1, 4, none⟩) (by simp) _⟩
                · have hb2 : (tk == 5) = false := by simpa using h
                  go_wp2_with fail
                  go_meet
                  exact ⟨z5, by rw [if_neg h]; rfl, Hrow.out, Hrow0.out, Hbox.out, Hbel.out⟩
              case rest =>
                clear Hrow Hrow0 q0 q1 q2 q3 q4 q5 f0 f1 f2 f3 f4 f5
                clear Hbox Hbel b1 b8
                obtain ⟨y5, hy5, hrow, hrow0, hbox, hbel5⟩ := hcut
                have Hrow0 := Lib.hid hrow0; clear hrow0
                have Hbel := Lib.hid hbel5; clear hbel5
                have b1 := hbox.cell (j := 1) rfl
                have b8 := hbox.cell (j := 8) rfl
                have Hbox := Lib.hid hbox; clear hbox
                have Hy5 := Lib.hid hy5
                have hyb5 : y5 ≤ z5 + 1 := by rw [hy5]; split <;> omega
                clear hy5
                obtain ⟨q0, q1, q2, q3, q4, q5⟩ := tally_cells hrow
                obtain ⟨f0, f1, f2, f3, f4, f5⟩ := tally_frozen hrow
                have hlt1 := hrow.lt
                have Hrow := Lib.hid hrow; clear hrow
                obtain ⟨wd, hwd⟩ : ∃ wd : World, wd = wc := ⟨_, rfl⟩
                subst hwd
                go_upto_if 55 with fail
                go_cut [6] from 7 to 74 (fun s6 wx => ∃ x : Int, s6 = .int .i64 x ∧ x = max 0 ta ∧ wx = wd)
                case first =>
                  by_cases h : ta < 0
                  · go_wp2_with fail
                    go_meet
                    exact ⟨0, rfl, by omega, rfl⟩
                  · go_wp2_with fail
                    go_meet
                    exact ⟨ta, rfl, by omega, rfl⟩
                case rest =>
                  obtain ⟨x, rfl, hx, hwx⟩ := hcut
                  subst hwx
                  have Hx := Lib.hid hx; clear hx
                  obtain ⟨we, hwe⟩ : ∃ we : World, we = wc := ⟨_, rfl⟩
                  subst hwe
                  go_upto_if 57 with fail
                  go_cut [6] from 7 to 74 (fun s6 wx => ∃ y : Int, s6 = .int .i64 y ∧ y = min x 1099511627776 ∧ wx = we)
                  case first =>
                    by_cases h : 1099511627776 < x
                    · go_wp2_with fail
                      go_meet
                      exact ⟨1099511627776, rfl, by omega, rfl⟩
                    · go_wp2_with fail
                      go_meet
                      exact ⟨x, rfl, by omega, rfl⟩
                  case rest =>
                    obtain ⟨y, rfl, hy, hwx⟩ := hcut
                    subst hwx
                    have hx := Hx.out
                    have hy0 : 0 ≤ y := by omega
                    have hy1 : y ≤ 1099511627776 := by omega
                    have hyy : y = max 0 (min ta 1099511627776) := by omega
                    have Hyy := Lib.hid hyy; clear Hx hx hy hyy
                    by_cases h1 : tk = 1
                    · subst h1
                      by_cases hcap : 1152921504606846975 < ag + y
                      · go_wp2_with fail
                        go_roundw
                        case rel =>
                          refine ⟨k + 1, by omega, by go_num, ?_, ((Hrow0.out).far (p := ⟨w.heap.size + 1, 5, none⟩) (by simp) _).far (p := ⟨w.heap.size + 1, 5, none⟩) (by simp) _, ((Hbel.out).setCell (p := ⟨w.heap.size + 1, 5, none⟩) (by simp) _).setCell (p := ⟨w.heap.size + 1, 5, none⟩) (by simp) _⟩
                          rw [htal'.out]
                          exact six_row (((Hrow.out).set_ (j := 5) (Nat.lt_of_lt_of_le (by decide) (Nat.le_refl 6)) _).set_ (j := 5) (Nat.lt_of_lt_of_le (by decide) (Nat.le_refl 6)) _) (by rw [Hy1.out]) (by rw [Hy2.out]) (by rw [Hy3.out]) (by rw [Hy4.out]) (by rw [Hy5.out]) (by rw [if_pos (Or.inl rfl), ← Hyy.out]; omega)
                        case measure => simp [intOf]; omega
                      · go_wp2_with fail
                        go_roundw
                        case rel =>
                          refine ⟨k + 1, by omega, by go_num, ?_, (Hrow0.out).far (p := ⟨w.heap.size + 1, 5, none⟩) (by simp) _, (Hbel.out).setCell (p := ⟨w.heap.size + 1, 5, none⟩) (by simp) _⟩
                          rw [htal'.out]
                          exact six_row ((Hrow.out).set_ (j := 5) (Nat.lt_of_lt_of_le (by decide) (Nat.le_refl 6)) _) (by rw [Hy1.out]) (by rw [Hy2.out]) (by rw [Hy3.out]) (by rw [Hy4.out]) (by rw [Hy5.out]) (by rw [if_pos (Or.inl rfl), ← Hyy.out]; omega)
                        case measure => simp [intOf]; omega
                    · have e1 : (tk == 1) = false := by simpa using h1
                      by_cases h2 : tk = 2
                      · subst h2
                        by_cases hcap : 1152921504606846975 < ag + y
                        · go_wp2_with fail
                          go_roundw
                          case rel =>
                            refine ⟨k + 1, by omega, by go_num, ?_, ((Hrow0.out).far (p := ⟨w.heap.size + 1, 5, none⟩) (by simp) _).far (p := ⟨w.heap.size + 1, 5, none⟩) (by simp) _, ((Hbel.out).setCell (p := ⟨w.heap.size + 1, 5, none⟩) (by simp) _).setCell (p := ⟨w.heap.size + 1, 5, none⟩) (by simp) _⟩
                            rw [htal'.out]
                            exact six_row (((Hrow.out).set_ (j := 5) (Nat.lt_of_lt_of_le (by decide) (Nat.le_refl 6)) _).set_ (j := 5) (Nat.lt_of_lt_of_le (by decide) (Nat.le_refl 6)) _) (by rw [Hy1.out]) (by rw [Hy2.out]) (by rw [Hy3.out]) (by rw [Hy4.out]) (by rw [Hy5.out]) (by rw [if_pos (Or.inr rfl), ← Hyy.out]; omega)
                          case measure => simp [intOf]; omega
                        · go_wp2_with fail
                          go_roundw
                          case rel =>
                            refine ⟨k + 1, by omega, by go_num, ?_, (Hrow0.out).far (p := ⟨w.heap.size + 1, 5, none⟩) (by simp) _, (Hbel.out).setCell (p := ⟨w.heap.size + 1, 5, none⟩) (by simp) _⟩
                            rw [htal'.out]
                            exact six_row ((Hrow.out).set_ (j := 5) (Nat.lt_of_lt_of_le (by decide) (Nat.le_refl 6)) _) (by rw [Hy1.out]) (by rw [Hy2.out]) (by rw [Hy3.out]) (by rw [Hy4.out]) (by rw [Hy5.out]) (by rw [if_pos (Or.inr rfl), ← Hyy.out]; omega)
                          case measure => simp [intOf]; omega
                      · have e2 : (tk == 2) = false := by simpa using h2
                        go_wp2_with fail
                        go_roundw
                        case rel =>
                          refine ⟨k + 1, by omega, by go_num, ?_, Hrow0.out, Hbel.out⟩
                          rw [htal'.out]
                          exact six_row (Hrow.out) (by rw [Hy1.out]) (by rw [Hy2.out]) (by rw [Hy3.out]) (by rw [Hy4.out]) (by rw [Hy5.out]) (by rw [if_neg (by omega)])
                        case measure => simp [intOf]; omega
    · obtain rfl : k = n := by omega
      have e : L.take k = L := List.take_of_length_le (by omega)
      rw [e] at hrow
      clear e
      have hrow0 := Hrow0.out
      unfold tally0 at hrow0
      unfold tallyOf at hrow
      obtain ⟨q0, q1, q2, q3, q4, q5⟩ := tally_cells hrow
      obtain ⟨r0, r1, r2, r3, r4, r5⟩ := tally_cells hrow0
      obtain ⟨f0, f1, f2, f3, f4, f5⟩ := tally_frozen hrow0
      go_wp2
      exact bodyPost_ret (v := .agg (tallyOf L).toArray) (by simp [results, Try.results13, go_sem, tallyOf, r0, r1, r2, r3, r4, r5]) rfl ⟨rfl, (((((hbel.setCell (p := ⟨w.heap.size, 0, none⟩) (Nat.le_refl _) _).setCell (p := ⟨w.heap.size, 1, none⟩) (Nat.le_refl _) _).setCell (p := ⟨w.heap.size, 2, none⟩) (Nat.le_refl _) _).setCell (p := ⟨w.heap.size, 3, none⟩) (Nat.le_refl _) _).setCell (p := ⟨w.heap.size, 4, none⟩) (Nat.le_refl _) _).setCell (p := ⟨w.heap.size, 5, none⟩) (Nat.le_refl _) _⟩
end Go.Proofs.Ytamoebdfppjbkaa
