/- Ob: several texts, one behind the other. -/
import Derived.Test.YtniiadhhefgmcaaGreatDoorOa
import Derived.Test.YtniiadhhefgmcaaGreatDoorXa
import Derived.Test.YtniiadhhefgmcaaGreatDoorRs
/- Layer 23: the document's reader of a whole exchange (icehouseref23.Told = told23). Condition: at most 65535 octets. -/
namespace IH
end IH
namespace Go.Proofs.YtniiadhhefgmcaaGreatDoor
open Go.RowKit IH
set_option maxRecDepth 100000
end Go.Proofs.YtniiadhhefgmcaaGreatDoor

/- Layer 23's laws: their own request (get). No condition. -/
namespace Go.Proofs.YtniiadhhefgmcaaGreatDoor
open Go.RowKit IH
set_option maxRecDepth 100000
def getSta (s : ByteArray) : Sta := { Sta.zero with method := [71, 69, 84], target := s.data.toList, minor := 1 }
def getFld : List Fld := [([72, 111, 115, 116], [97])]
theorem get_any (s : ByteArray) (w : World) :
    Calls Tryz.prog 14 #[.string s] w fun e w' => ∃ b, e = .returned (.agg (msgC (getSta s) (.slice (some ⟨b, 0, none⟩) 1 1) (.slice none 0 0)).toArray) ∧ SliceIn w' w'.heap.size 2 (some ⟨b, 0, none⟩) 1 1 (fldsV getFld) ∧ Below w.heap.size w w' := by
  have HMi : Hid ((Tryz.prog.info? 27).map (·.size) = some 7) := Lib.hid (by kernel_rfl)
  obtain ⟨w1, hw1⟩ : ∃ W : World, w.alloc (.cells #[.string ⟨#[]⟩, .string ⟨#[]⟩, .int .i64 0, .string ⟨#[]⟩, .int .i64 0, .slice none 0 0, .slice none 0 0] 27) = W := ⟨_, rfl⟩
  have B1 : Hid (Below w.heap.size w w1) := Lib.hid (by rw [← hw1]; exact (Below.refl _ _).alloc (Nat.le_refl _) _)
  have Z1 : Hid (RowAt w1 w.heap.size 27 zeroM) := Lib.hid (by rw [← hw1]; exact RowAt.new w 27 zeroM)
  have B2 : Hid (Below w.heap.size w (w1.alloc (.cells #[.string ⟨#[72, 111, 115, 116]⟩, .string ⟨#[97]⟩] 74))) := Lib.hid (B1.out.alloc B1.out.size _)
  have Z2 : Hid (RowAt (w1.alloc (.cells #[.string ⟨#[72, 111, 115, 116]⟩, .string ⟨#[97]⟩] 74)) w.heap.size 27 zeroM) := Lib.hid (Z1.out.alloc _)
  have F2 : Hid (SliceIn (w1.alloc (.cells #[.string ⟨#[72, 111, 115, 116]⟩, .string ⟨#[97]⟩] 74)) (w1.alloc (.cells #[.string ⟨#[72, 111, 115, 116]⟩, .string ⟨#[97]⟩] 74)).heap.size 2 (some ⟨w1.heap.size, 0, none⟩) 1 1 (fldsV getFld)) := Lib.hid (by
    have h := (RowAt.new w1 74 (fldsV getFld)).slice (size := 2) (n := 1) (c := 1) rfl (Nat.le_refl _) (by simp [maxLen])
    exact h)
  have HL := Lib.hid Z1.out.lt
  obtain ⟨C, hC⟩ : ∃ C, msgC (getSta s) (.slice (some ⟨w1.heap.size, 0, none⟩) 1 1) (.slice none 0 0) = C := ⟨_, rfl⟩
  have HC := Lib.hid hC
  have HR : Hid (RightC C) := Lib.hid (by rw [← hC]; exact msgC_right _ _ _ _ _ _ _)
  have HCe : Hid (C = [.string ⟨#[71, 69, 84]⟩, .string s, .int .i64 0, .string ⟨#[]⟩, .int .i64 1, .slice (some ⟨w1.heap.size, 0, none⟩) 1 1, .slice none 0 0]) := Lib.hid (by
    rw [← hC]
    show [Value.string ⟨#[71, 69, 84]⟩, .string ⟨s.data.toList.toArray⟩, .int .i64 0, .string ⟨#[]⟩, .int .i64 1, .slice (some ⟨w1.heap.size, 0, none⟩) 1 1, .slice none 0 0] = _
    rw [show (⟨s.data.toList.toArray⟩ : ByteArray) = s from by rw [Array.toArray_toList]])
  have HCi : Hid ((Tryz.prog.info? 27).map (·.size) = some C.length) := Lib.hid (by rw [HR.out.1]; exact HMi.out)
  clear hC
  go_enter Tryz.func14, Tryz.ntmps14
  go_wp2_with (refine wpList_store_row rfl 27 _ _ rfl w.heap.size _ C zeroM rfl (by rw [HCe.out]; rfl) Z2.out (by rw [HR.out.1]; rfl) HCi.out HR.out.2 ?_; intro wz hrz hoz; have RZ := Lib.hid hrz; have OZ := Lib.hid hoz; clear hrz hoz)
  refine bodyPost_ret (v := .agg C.toArray) (results_cell Tryz.results14 _ wz ⟨w.heap.size, 0, none⟩ rfl (.agg C.toArray) (run_loadVar_mid wz w.heap.size 0 27 C _ (rangeOf RZ.out) Tryz.underlying27 rfl HCi.out)) rfl ?_
  refine ⟨w1.heap.size, by rw [HC.out], ?_, OZ.out.below B2.out (Nat.le_refl _)⟩
  obtain ⟨f1, f2, f3, f4⟩ := F2.out
  refine ⟨f1, f2, f3, fun hn => ?_⟩
  obtain ⟨b, o, e, hb, hc⟩ := f4 hn
  injection e with e
  injection e with e1 e2
  subst e1 e2
  refine ⟨_, _, rfl, by rw [OZ.out.size]; exact hb, fun j u hu => ?_⟩
  have := OZ.out.block w1.heap.size (by have := HL.out; omega)
  exact (World.cell?_of_block this).trans (hc j u hu)
end Go.Proofs.YtniiadhhefgmcaaGreatDoor

/- Layer 8's reader, fresh, at a nil slice: it takes nothing. No condition. -/
namespace Go.Proofs.YtniiadhhefgmcaaGreatDoor
open Go.RowKit IH
set_option maxRecDepth 100000
theorem sline_nil (w : World) : Calls Tryz.prog 147 #[.slice none 0 0, .int .i64 300] w fun e w' => e = .returned (.tuple #[.string ⟨#[]⟩, .int .i64 0, .int .i64 11]) ∧ w' = w := by
  have IB := Lib.hid (Tryz.bytes_IndexByte_nil 10 w)
  have hmin : min (0 : Int) 301 = 0 := rfl
  go_enter Tryz.func147, Tryz.ntmps147
  go_wp2_with (go_at_call 168; (with_reducible refine IB.out.mono ?_); rintro e w2 ⟨rfl, rfl⟩)
  go_ret3
  exact ⟨rfl, rfl⟩
theorem sresp_nil (w : World) : Calls Tryz.prog 136 #[.slice none 0 0] w fun e w' => e = .returned (.tuple #[.agg (zeroS : List Value).toArray, .int .i64 0, .int .i64 11]) ∧ Below w.heap.size w w' := by
  obtain ⟨w1, hw1⟩ : ∃ W : World, w.alloc (.cells #[.string ⟨#[]⟩, .string ⟨#[]⟩, .int .i64 0, .string ⟨#[]⟩, .int .i64 0] 23) = W := ⟨_, rfl⟩
  have B1 : Hid (Below w.heap.size w w1) := Lib.hid (by rw [← hw1]; exact (Below.refl _ _).alloc (Nat.le_refl _) _)
  have Z1 : Hid (RowAt w1 w.heap.size 23 zeroS) := Lib.hid (by rw [← hw1]; exact RowAt.new w 23 zeroS)
  have HZi : Hid ((Tryz.prog.info? 23).map (·.size) = some 5) := Lib.hid (by kernel_rfl)
  have SL := Lib.hid (sline_nil w1)
  go_enter Tryz.func136, Tryz.ntmps136
  go_wp2_with (first
    | (go_at_call 147; (with_reducible refine SL.out.mono ?_); rintro x2 w2 ⟨rfl, rfl⟩)
    | (refine wpList_store_row rfl 23 _ _ rfl w.heap.size _ zeroS zeroS rfl rfl Z1.out rfl HZi.out (by simp [zeroS, Value.oneCell']) ?_; intro wz hrz hoz; have RZ := Lib.hid hrz; have OZ := Lib.hid hoz; clear hrz hoz))
  exact bodyPost_ret (v := .tuple #[.agg (zeroS : List Value).toArray, .int .i64 0, .int .i64 11]) (results_cell_tmps Tryz.results136 _ wz ⟨w.heap.size, 0, none⟩ rfl (.agg (zeroS : List Value).toArray) (.int .i64 0) (.int .i64 11) rfl rfl (run_loadVar_mid wz w.heap.size 0 23 zeroS _ (rangeOf RZ.out) Tryz.underlying23 rfl HZi.out)) rfl ⟨rfl, OZ.out.below B1.out (Nat.le_refl _)⟩
theorem rdline_nil (g dg : Nat) (M : List UInt8) (F : Value) (w : World) (hr : RowAt w g 122 (rdV dg (Rd.new false M) F)) :
    Calls Tryz.prog 118 #[.pointer (some ⟨g, 0, none⟩), .slice none 0 0] w fun e w' => e = .returned (.tuple #[.int .i64 0, .int .i64 11]) ∧ Below w.heap.size w w' := by
  have HZi : Hid ((Tryz.prog.info? 23).map (·.size) = some 5) := Lib.hid (by kernel_rfl)
  have RS := Lib.hid (sresp_nil w)
  have Hr := Lib.hid hr
  clear hr
  go_enter Tryz.func118, Tryz.ntmps118
  go_wp2_with (first
    | (go_at_call 136; (with_reducible refine RS.out.mono ?_); rintro e w1 ⟨rfl, hb1⟩; have B1 := Lib.hid hb1; clear hb1)
    | (refine wpList_store_row rfl 23 _ _ rfl w1.heap.size _ zeroS zeroS rfl rfl (RowAt.new w1 23 zeroS) rfl HZi.out (by simp [zeroS, Value.oneCell']) ?_; intro w2 hr2 ho2; have hb2 := ho2.below ((Below.refl w1.heap.size w1).alloc (Nat.le_refl _) _) (Nat.le_refl _); have B2 := Lib.hid (below_step B1.out hb2); have R2 := Lib.hid (Hr.out.below B2.out Hr.out.lt); have d1 := R2.out.cell (j := 1) rfl; clear hr2 ho2 hb2))
  go_ret2
  exact ⟨rfl, B2.out⟩
theorem rdstep_nil (g dg : Nat) (M : List UInt8) (F : Value) (w : World) (hr : RowAt w g 122 (rdV dg (Rd.new false M) F)) :
    Calls Tryz.prog 88 #[.pointer (some ⟨g, 0, none⟩), .slice none 0 0] w fun e w' => e = .returned (.tuple #[.slice none 0 0, .int .i64 0, .int .i64 0]) ∧ Below w.heap.size w w' := by
  have RL := Lib.hid (rdline_nil g dg M F w hr)
  have d3 := hr.cell (j := 3) rfl
  clear hr
  go_enter Tryz.func88, Tryz.ntmps88
  go_wp2_with (go_at_call 118; (with_reducible refine RL.out.mono ?_); rintro e w1 ⟨rfl, hb1⟩; have B1 := Lib.hid hb1; clear hb1)
  go_ret3
  exact ⟨rfl, B1.out⟩
theorem rdtake_nil (g dg : Nat) (M : List UInt8) (F : Value) (w : World) (hr : RowAt w g 122 (rdV dg (Rd.new false M) F)) :
    Calls Tryz.prog 42 #[.pointer (some ⟨g, 0, none⟩), .slice none 0 0] w fun e w' => e = .returned (.tuple #[.slice none 0 0, .int .i64 0, .int .i64 0]) ∧ RowAt w' g 122 (rdV dg (Rd.new false M) F) ∧ Save w.heap.size g w w' := by
  have RS := Lib.hid (rdstep_nil g dg M F w hr)
  have d13 := hr.cell (j := 13) rfl
  have Hr := Lib.hid hr
  clear hr
  go_enter Tryz.func42, Tryz.ntmps42
  go_wp2_with fail
  go_loopw [7, 8] (fun s7 s8 wr => wr = w ∧ s7 = .slice none 0 0 ∧ s8 = .int .i64 0) (fun _ _ _ => 0)
  case atStart => exact ⟨rfl, rfl, rfl⟩
  case round =>
    obtain ⟨hwr, rfl, rfl⟩ := hrel
    subst hwr
    go_wp2_with (go_at_call 88; (with_reducible refine RS.out.mono ?_); rintro e w1 ⟨rfl, hb1⟩; have B1 := Lib.hid hb1; have R1 := Lib.hid (Hr.out.below hb1 Hr.out.lt); have e13 := R1.out.cell (j := 13) rfl; have f13 := R1.out.frozen (j := 13) (by show 13 < 14; decide); clear hb1 d13)
    go_ret3
    exact ⟨rfl, R1.out.set_ (j := 13) (by show 13 < 14; decide) (.int .i64 0), (below_save B1.out).setCell 13 _⟩
end Go.Proofs.YtniiadhhefgmcaaGreatDoor

/- Layer 23: interim, its four ways in one. Condition: the exchange and its reader lie from B on. -/
namespace Go.Proofs.YtniiadhhefgmcaaGreatDoor
open Go.RowKit IH
set_option maxRecDepth 100000
theorem row_ty_ne23 {w : World} {g : Nat} {t e : TypeId} {cs ds : List Value} (h : RowAt w g t cs) (h' : RowAt w g e ds) (hne : t ≠ e) : False := by
  obtain ⟨c1, a1, b1, q1, _⟩ := h
  obtain ⟨c2, a2, b2, q2, _⟩ := h'
  rw [q1] at q2
  simp only [Option.some.injEq, Obj.cells.injEq] at q2
  exact hne q2.2.1
theorem QOwn.save {w w' : World} {g base n : Nat} {v : Value} {l : List UInt8} {cs : List Value} (h : QOwn w base v n l) (hg : RowAt w g 82 cs) (s : Save w.heap.size g w w') : QOwn w' base v n l :=
  h.keep fun k _ _ hr => s.block k hr.lt (fun e => by subst e; exact row_ty_ne23 hr hg (by decide))
theorem QOwn.from_ {w : World} {base n c : Nat} {A : Option Addr} {l : List UInt8} (h : QOwn w base (.slice A n c) n l) (t : Nat) (ht : t ≤ n) : QOwn w base (.slice (sliceA A c t) (n - t) (c - t)) (n - t) (l.drop t) := by
  obtain ⟨hl, h2 | ⟨g, off, c', cs, hv, hg, h3, h4, h5, hr, h6⟩⟩ := h
  · obtain ⟨hv, rfl⟩ := h2
    injection hv with e1 _ e3
    subst e1 e3
    obtain rfl : t = 0 := by omega
    exact ⟨by rw [List.length_drop]; omega, .inl ⟨rfl, rfl⟩⟩
  · injection hv with e1 _ e3
    subst e1 e3
    refine ⟨by rw [List.length_drop]; omega, .inr ?_⟩
    unfold sliceA
    by_cases hc : c = t
    · rw [if_pos hc]
      refine ⟨g, off, c - t, cs, rfl, hg, by omega, by omega, by omega, hr, ?_⟩
      rw [show n - t = 0 from by omega, List.take_zero, List.drop_eq_nil_of_le (by omega)]
      rfl
    · rw [if_neg hc]
      refine ⟨g, off + t, c - t, cs, by rw [Nat.mul_one, Option.map_some, add_plain], hg, by omega, by omega, by omega, hr, ?_⟩
      have e : bytesV (l.drop t) = (bytesV l).drop t := by simp only [bytesV, ← List.map_drop]
      rw [e, ← h6, List.drop_take, List.drop_drop]
theorem QOwn.qin {w : World} {base n c g : Nat} {A : Option Addr} {l : List UInt8} {cs : List Value} (h : QOwn w base (.slice A n c) n l) (hg : RowAt w g 82 cs) : QIn w g A n c l := by
  refine ⟨h.in_, fun hn a ha => ?_⟩
  obtain ⟨hl, h2 | ⟨g', off, c', xs, hv, _, _, _, _, hr, _⟩⟩ := h
  · obtain ⟨_, rfl⟩ := h2
    exact absurd hn (by omega)
  · injection hv with e1 _ e3
    subst ha
    injection e1 with e1
    subst e1
    exact fun e => by
      have e' : g' = g := e
      subst e'
      exact row_ty_ne23 hr hg (by decide)
/-- The in-queue's take. -/
theorem qtakeO_any (g base n c : Nat) (A : Option Addr) (l : List UInt8) (T : Nat) (hT : T ≤ n) (vo me rd er fi : Value) (w : World) (hr : RowAt w g 82 [.slice A n c, vo, me, rd, er, fi]) (hq : QOwn w base (.slice A n c) n l) (hn : n ≤ 140737488355328) :
    Calls Tryz.prog 37 #[.pointer (some ⟨g, 0, none⟩), .int .i64 T] w fun e w' => ∃ v, e = .returned v ∧ RowAt w' g 82 [.slice (sliceA A c T) (n - T) (c - T), vo, me, rd, er, fi] ∧ QOwn w' base (.slice (sliceA A c T) (n - T) (c - T)) (n - T) (l.drop T) ∧ Save w.heap.size g w w' := by
  refine (qtake_any g 0 n c A l T T (by omega) w _ _ hr rfl (hq.qin hr) hn).mono ?_
  rintro e w' ⟨v, rfl, -, hr', hs⟩
  exact ⟨v, rfl, hr', (hq.from_ T hT).save hr hs, hs⟩
theorem oint_any (B g rg dg : Nat) (r : Rd) (A : Option Addr) (n c : Nat) (vi vo er fi : Value) (M : ByteArray) (w : World) (hr : RowAt w g 82 [vi, vo, .string M, .pointer (some ⟨rg, 0, none⟩), er, fi]) (hst : RdSt w rg dg r A n c) (hn : n ≤ 1000000) (hB : B ≤ w.heap.size) (h1 : B ≤ g) (h2 : B ≤ rg) (h3 : B ≤ dg) :
    Calls Tryz.prog 43 #[.pointer (some ⟨g, 0, none⟩)] w fun e w' => ∃ rg' dg' r' A' n' c', e = .returned (.bool (decide (r.w = 3 ∧ r.start.status < 200))) ∧ RowAt w' g 82 [vi, vo, .string M, .pointer (some ⟨rg', 0, none⟩), er, fi] ∧ RdSt w' rg' dg' r' A' n' c' ∧
      r' = (if r.w = 3 ∧ r.start.status < 200 then Rd.new false M.data.toList else r) ∧ B ≤ rg' ∧ B ≤ dg' ∧ Save w.heap.size g w w' ∧ Below B w w' := by
  have hb : ∀ w', Save w.heap.size g w w' → Below B w w' := fun w' s => (s.mono hB).below h1
  have HD := rdhead_any rg dg r A n c w hst hn
  have keep : ∀ w', Below w.heap.size w w' → ¬ (r.w = 3 ∧ r.start.status < 200) → ∃ rg' dg' r' A' n' c', Ending.returned (.bool false) = .returned (.bool (decide (r.w = 3 ∧ r.start.status < 200))) ∧ RowAt w' g 82 [vi, vo, .string M, .pointer (some ⟨rg', 0, none⟩), er, fi] ∧ RdSt w' rg' dg' r' A' n' c' ∧
      r' = (if r.w = 3 ∧ r.start.status < 200 then Rd.new false M.data.toList else r) ∧ B ≤ rg' ∧ B ≤ dg' ∧ Save w.heap.size g w w' ∧ Below B w w' := fun w' hbw hno =>
    ⟨rg, dg, r, A, n, c, by rw [decide_eq_false hno], hr.below hbw hr.lt, hst.at_ hbw, by rw [if_neg hno], h2, h3, below_save hbw, hbw.mono hB⟩
  by_cases hw : r.w < 2
  · have HD' : Calls Tryz.prog 44 #[.pointer (some ⟨rg, 0, none⟩)] w fun e w' => (∃ C, RightC C ∧ C[2]? = some (.int .i64 0) ∧ e = .returned (.tuple #[.agg C.toArray, .bool false])) ∧ Below w.heap.size w w' := HD.mono (by
      rintro e w' ⟨h | h, hb⟩
      · exact ⟨⟨zeroM, ⟨rfl, by simp [zeroM, Value.oneCell']⟩, rfl, h.2⟩, hb⟩
      · exact absurd hw h.1)
    refine (oint_none g rg dg r _ vi vo er fi M 0 w hr hst.row HD').mono ?_
    rintro e w' ⟨rfl, hbw⟩
    exact keep w' hbw (by omega)
  · have HD' : Calls Tryz.prog 44 #[.pointer (some ⟨rg, 0, none⟩)] w fun e w' => (∃ C, RightC C ∧ C[2]? = some (.int .i64 r.start.status) ∧ e = .returned (.tuple #[.agg C.toArray, .bool true])) ∧ Below w.heap.size w w' := HD.mono (by
      rintro e w' ⟨h | h, hb⟩
      · exact absurd h.1 hw
      · obtain ⟨-, A', n', c', rfl, -⟩ := h
        exact ⟨⟨_, msgC_right _ _ _ _ _ _ _, rfl, rfl⟩, hb⟩)
    by_cases h3' : r.w = 3
    · have h3b : (r.w == 3) = true := by rw [beq_iff_eq]; exact h3'
      by_cases hst2 : 200 ≤ r.start.status
      · refine (oint_last g rg dg r _ vi vo er fi M r.start.status h3b hst2 w hr hst.row HD').mono ?_
        rintro e w' ⟨rfl, hbw⟩
        exact keep w' hbw (by omega)
      · refine (oint_gone g rg dg r _ vi vo er fi M r.start.status h3b hst2 w hr hst.row HD').mono ?_
        rintro e w' ⟨rfl, rg', dg', hr', hrd, hdd, g1, g2, g3, hs⟩
        have hyes : r.w = 3 ∧ r.start.status < 200 := ⟨h3', by omega⟩
        exact ⟨rg', dg', _, none, 0, 0, by rw [decide_eq_true hyes], hr', ⟨hrd, hdd, SliceIn.none_ (Nat.zero_le _), (fun b o h => by cases h), g3, (fun b o h => by cases h)⟩, by rw [if_pos hyes], by omega, by omega, hs, hb _ hs⟩
    · have h3b : (r.w == 3) = false := by rw [beq_eq_false_iff_ne]; exact h3'
      refine (oint_part g rg dg r _ vi vo er fi M r.start.status h3b w hr hst.row HD').mono ?_
      rintro e w' ⟨rfl, hbw⟩
      exact keep w' hbw (fun h => h3' h.1)
end Go.Proofs.YtniiadhhefgmcaaGreatDoor

/- Layer 23: what a take leaves as it was. No condition. -/
namespace Go.Proofs.YtniiadhhefgmcaaGreatDoor
open Go.RowKit IH
set_option maxRecDepth 100000
/-- The reader, as a cell of the exchange is written. -/
theorem RdSt.setE {W : World} {g dg y n c j : Nat} {r : Rd} {A : Option Addr} {cs : List Value} (h : RdSt W g dg r A n c) (hy : RowAt W y 82 cs) (u : Value) : RdSt (W.setCell ⟨y, j, none⟩ u) g dg r A n c := by
  have hb : ∀ b o, A = some ⟨b, o, none⟩ → b ≠ y := by
    intro b o hA he
    subst he
    obtain ⟨cur, fz, h3⟩ := h.ty b o hA
    obtain ⟨cur2, lo, hi, h4, -⟩ := hy
    rw [h3] at h4
    simp only [Option.some.injEq, Obj.cells.injEq] at h4
    exact absurd h4.2.1 (by decide)
  have ho := Only.setCell y j W u
  have h1 : g ≠ y := fun e => by subst e; exact row_ty_ne23 h.row hy (by decide)
  have h2 : dg ≠ y := fun e => by subst e; exact row_ty_ne23 h.dec hy (by decide)
  exact ⟨h.row.far h1 u, h.dec.far h2 u, by rw [ho.size]; exact h.fl.onlyNe ho hb, h.ne, h.gd, h.ty.onlyNe ho hb⟩
/-- The exchange's cells, over a take. -/
theorem exch_take {W W' : World} {g rg dg n c : Nat} {r : Rd} {A : Option Addr} {cs : List Value} (hr : RowAt W g 82 cs) (hst : RdSt W rg dg r A n c) (hs : Save2 W.heap.size rg dg W W') : RowAt W' g 82 cs :=
  hr.save2 hs (fun e => by subst e; exact row_ty_ne23 hr hst.row (by decide)) (fun e => by subst e; exact row_ty_ne23 hr hst.dec (by decide)) hr.lt
/-- The in-queue, over a take. -/
theorem QOwn.take {W W' : World} {base m rg dg n c : Nat} {v : Value} {l : List UInt8} {r : Rd} {A : Option Addr} (h : QOwn W base v m l) (hst : RdSt W rg dg r A n c) (hs : Save2 W.heap.size rg dg W W') : QOwn W' base v m l :=
  h.keep fun k _ _ hr => hs.block k hr.lt (fun e => by subst e; exact row_ty_ne23 hr hst.row (by decide)) (fun e => by subst e; exact row_ty_ne23 hr hst.dec (by decide))
end Go.Proofs.YtniiadhhefgmcaaGreatDoor

