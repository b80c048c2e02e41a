/- Lb: several texts, one behind the other. -/
import Derived.Test.YtniiadhhefgmcaaGreatDoorOc
import Derived.Test.YtniiadhhefgmcaaGreatDoorApw
import Derived.Test.YtniiadhhefgmcaaGreatDoorKt
import Derived.Test.YtniiadhhefgmcaaGreatDoorPr
import Derived.Test.YtniiadhhefgmcaaGreatDoorSm
/- Layer 23's laws: OriginTakes, walked. Condition: the world's shape. Printed by mklaw23b.py. -/
namespace Go.Proofs.YtniiadhhefgmcaaGreatDoor
open Go.RowKit IH
set_option maxRecDepth 100000
set_option linter.unusedVariables false
theorem xlen (L : List UInt8) (a t : Nat) : ((L.take a).drop t).length ≤ L.length := by rw [List.length_drop, List.length_take]; omega
theorem off_moved {W : World} {base size n : Nat} {e : TypeId} {v : Value} {xs : List Value} {q q' : Option Nat} (h : ∀ j, v.ownBlock = some j → q ≠ some j) (hq : q' = q ∨ ∃ z, q' = some z ∧ W.heap.size ≤ z) (ho : W.ownsRow base e size v n xs) : ∀ j, v.ownBlock = some j → q' ≠ some j := by
  intro j hj
  rcases hq with h1 | ⟨z, h1, hz⟩
  · rw [h1]; exact h j hj
  · rw [h1]
    intro e
    injection e with e
    have := (ho.lt j hj).2
    omega
theorem off_app {W : World} {v v' : Value} {q : Option Nat} (h : ∀ j, v.ownBlock = some j → q ≠ some j) (hm : Moved W v v') (hq : ∀ z, q = some z → z < W.heap.size) : ∀ j, v'.ownBlock = some j → q ≠ some j := by
  intro j hj e
  rcases hm j hj with h1 | h1
  · exact h j h1 e
  · have := hq j e
    omega
theorem row_past23 {w w' : World} {g base size n : Nat} {t e : TypeId} {cs xs : List Value} {v : Value} (h : RowAt w g t cs) (hg : w.grownBy w' v.ownBlock) (hown : w.ownsRow base e size v n xs) (hne : t ≠ e) : RowAt w' g t cs :=
  h.keep (hg.block g h.lt (fun he => ne_type hown h hne g he.symm rfl))
theorem nextX_len {W : World} {B g : Nat} {vo : Value} {M : ByteArray} {fi : Bool} {q : Option Nat} {S : List UInt8} {E p tk : Nat} {O X : List UInt8} {r : Rd} {tb : Bool} {f : Int} (h : NextX W B g vo M fi q S E p tk O r X tb f) (hS : S.length ≤ 65535) (hE : E ≤ S.length) : X.length ≤ 65535 := by
  rcases h with ⟨-, -, p', tk', r', -, h3, -, -, -, -, h4⟩ | ⟨-, h, -⟩
  · have := h3.inS
    omega
  · rw [h]; exact Nat.zero_le _
theorem ba_empty (s : ByteArray) (h : s.toList.isEmpty = true) : s = ⟨#[]⟩ := by
  rw [ByteArray.toList_eq, List.isEmpty_iff] at h
  apply ByteArray.ext
  exact Array.toList_eq_nil_iff.1 h
/-- The request of the law: get("/"), its method turned. -/
def reqSta (M : ByteArray) : Sta := { Sta.zero with method := M.data.toList, target := [47], minor := 1 }
def reqC (M : ByteArray) (b : Nat) : List Value := msgC (reqSta M) (.slice (some ⟨b, 0, none⟩) 1 1) (.slice none 0 0)
theorem reqC_eq (M : ByteArray) (b : Nat) : reqC M b = [.string M, .string ⟨#[47]⟩, .int .i64 0, .string ⟨#[]⟩, .int .i64 1, .slice (some ⟨b, 0, none⟩) 1 1, .slice none 0 0] := by
  show [Value.string ⟨M.data.toList.toArray⟩, .string ⟨#[47]⟩, .int .i64 0, .string ⟨#[]⟩, .int .i64 1, .slice (some ⟨b, 0, none⟩) 1 1, .slice none 0 0] = _
  rw [show (⟨M.data.toList.toArray⟩ : ByteArray) = M from by rw [Array.toArray_toList]]
set_option maxHeartbeats 16000000 in
theorem otakes_far (A : Option Addr) (n c : Nat) (Hm : ByteArray) (AI : Option Addr) (nI cI : Nat) (AS : Option Addr) (nS cS : Nat) (cl : Bool) (w : World) (hsh : w.ShapedOpen Tryz.prog) (h : 4000 < n ∨ 60 < nI ∨ 60 < nS ∨ 30 < Hm.size) :
    Calls Tryz.prog 4 #[.slice A n c, .agg #[.string Hm, .slice AI nI cI, .slice AS nS cS, .bool cl]] w fun e w' => e = .returned (.bool true) ∧ Below w.heap.size w w' := by
  have AW := Lib.hid (fun W (hW : Below w.heap.size w W) => awake23_any W (shaped_below hsh hW))
  clear hsh
  obtain ⟨w1, hw1⟩ : ∃ W : World, w.alloc (.cells #[.string Hm, .slice AI nI cI, .slice AS nS cS, .bool cl] 40) = W := ⟨_, rfl⟩
  have B1 : Hid (Below w.heap.size w w1) := Lib.hid (by rw [← hw1]; exact (Below.refl _ _).alloc (Nat.le_refl _) _)
  have Rb1 : Hid (RowAt w1 w.heap.size 40 [.string Hm, .slice AI nI cI, .slice AS nS cS, .bool cl]) := Lib.hid (by rw [← hw1]; exact RowAt.new w 40 [.string Hm, .slice AI nI cI, .slice AS nS cS, .bool cl])
  have tokA : Hid True := Lib.hid trivial
  by_cases hA : (4000 : Int) < (n : Int)
  · clear h
    go_enter Tryz.func4, Tryz.ntmps4
    go_wp2_with (first
      | (have _t := tokA; go_at_call 8; (with_reducible refine (AW.out _ B1.out).mono ?_); rintro e w2 ⟨rfl, hb2⟩; have B2 := Lib.hid (below_step B1.out hb2); have Rb2 := Lib.hid (Rb1.out.below hb2 Rb1.out.lt); have x0 := Rb2.out.cell (j := 0) rfl; have x1 := Rb2.out.cell (j := 1) rfl; have x2 := Rb2.out.cell (j := 2) rfl; clear hb2 tokA _t)
      | (go_at_call 8; (with_reducible refine (AW.out _ B2.out).mono ?_); rintro e w3 ⟨rfl, hb3⟩; have B3 := Lib.hid (below_step B2.out hb3); clear hb3))
    go_ret
    exact ⟨rfl, B3.out⟩
  · by_cases hB : (60 : Int) < (nI : Int)
    · clear h
      go_enter Tryz.func4, Tryz.ntmps4
      go_wp2_with (first
        | (have _t := tokA; go_at_call 8; (with_reducible refine (AW.out _ B1.out).mono ?_); rintro e w2 ⟨rfl, hb2⟩; have B2 := Lib.hid (below_step B1.out hb2); have Rb2 := Lib.hid (Rb1.out.below hb2 Rb1.out.lt); have x0 := Rb2.out.cell (j := 0) rfl; have x1 := Rb2.out.cell (j := 1) rfl; have x2 := Rb2.out.cell (j := 2) rfl; clear hb2 tokA _t)
        | (go_at_call 8; (with_reducible refine (AW.out _ B2.out).mono ?_); rintro e w3 ⟨rfl, hb3⟩; have B3 := Lib.hid (below_step B2.out hb3); clear hb3))
      go_ret
      exact ⟨rfl, B3.out⟩
    · by_cases hC : (60 : Int) < (nS : Int)
      · clear h
        go_enter Tryz.func4, Tryz.ntmps4
        go_wp2_with (first
          | (have _t := tokA; go_at_call 8; (with_reducible refine (AW.out _ B1.out).mono ?_); rintro e w2 ⟨rfl, hb2⟩; have B2 := Lib.hid (below_step B1.out hb2); have Rb2 := Lib.hid (Rb1.out.below hb2 Rb1.out.lt); have x0 := Rb2.out.cell (j := 0) rfl; have x1 := Rb2.out.cell (j := 1) rfl; have x2 := Rb2.out.cell (j := 2) rfl; clear hb2 tokA _t)
          | (go_at_call 8; (with_reducible refine (AW.out _ B2.out).mono ?_); rintro e w3 ⟨rfl, hb3⟩; have B3 := Lib.hid (below_step B2.out hb3); clear hb3))
        go_ret
        exact ⟨rfl, B3.out⟩
      · have hD : (30 : Int) < (Hm.size : Int) := by omega
        clear h
        go_enter Tryz.func4, Tryz.ntmps4
        go_wp2_with (first
          | (have _t := tokA; go_at_call 8; (with_reducible refine (AW.out _ B1.out).mono ?_); rintro e w2 ⟨rfl, hb2⟩; have B2 := Lib.hid (below_step B1.out hb2); have Rb2 := Lib.hid (Rb1.out.below hb2 Rb1.out.lt); have x0 := Rb2.out.cell (j := 0) rfl; have x1 := Rb2.out.cell (j := 1) rfl; have x2 := Rb2.out.cell (j := 2) rfl; clear hb2 tokA _t)
          | (go_at_call 8; (with_reducible refine (AW.out _ B2.out).mono ?_); rintro e w3 ⟨rfl, hb3⟩; have B3 := Lib.hid (below_step B2.out hb3); clear hb3))
        go_ret
        exact ⟨rfl, B3.out⟩
set_option maxHeartbeats 16000000 in
theorem otakes_bad (A : Option Addr) (n c : Nat) (L : List UInt8) (Hm : ByteArray) (AI : Option Addr) (nI cI : Nat) (K : List UInt8) (AS : Option Addr) (nS cS : Nat) (KS : List UInt8) (cl : Bool) (M : ByteArray) (w : World) (hsh : w.ShapedOpen Tryz.prog) (hin : SliceIn w w.heap.size 1 A n c (bytesV L)) (hki : SliceIn w w.heap.size 1 AI nI cI (bytesV K)) (hks : SliceIn w w.heap.size 1 AS nS cS (bytesV KS)) (hn : n ≤ 4000) (hnI : nI ≤ 60) (hnS : nS ≤ 60) (hHm : Hm.size ≤ 30) (hM : (Hm = ⟨#[]⟩ → M = ⟨#[71, 69, 84]⟩) ∧ (Hm ≠ ⟨#[]⟩ → M = Hm)) (hMs : M.size ≤ 30)
    (NW : ∀ W b, SliceIn W W.heap.size 2 (some ⟨b, 0, none⟩) 1 1 (fldsV getFld) → Calls Tryz.prog 10 #[.agg (reqC M b).toArray] W fun e w' => e = .returned (.tuple #[.pointer none, .int .i64 10]) ∧ Below W.heap.size W w')
    (RI : ∀ W b, SliceIn W W.heap.size 2 (some ⟨b, 0, none⟩) 1 1 (fldsV getFld) → Calls Tryz.prog 11 #[.agg (reqC M b).toArray, .string ⟨#[]⟩] W fun e w' => e = .returned (.bool false) ∧ Below W.heap.size W w') :
    Calls Tryz.prog 4 #[.slice A n c, .agg #[.string Hm, .slice AI nI cI, .slice AS nS cS, .bool cl]] w fun e w' => e = .returned (.bool true) ∧ Below w.heap.size w w' := by
  have HMi : Hid ((Tryz.prog.info? 27).map (·.size) = some 7) := Lib.hid (by kernel_rfl)
  have GI : Hid (∀ E : List Value, RightC E → (Tryz.prog.info? 27).map (·.size) = some E.length) := Lib.hid (fun E h => by rw [h.1]; exact HMi.out)
  have AW := Lib.hid (fun W (hW : Below w.heap.size w W) => awake23_any W (shaped_below hsh hW))
  have GET := Lib.hid (fun W => get_any ⟨#[47]⟩ W)
  obtain ⟨w1, hw1⟩ : ∃ W : World, w.alloc (.cells #[.string Hm, .slice AI nI cI, .slice AS nS cS, .bool cl] 40) = W := ⟨_, rfl⟩
  have B1 : Hid (Below w.heap.size w w1) := Lib.hid (by rw [← hw1]; exact (Below.refl _ _).alloc (Nat.le_refl _) _)
  have Rb1 : Hid (RowAt w1 w.heap.size 40 [.string Hm, .slice AI nI cI, .slice AS nS cS, .bool cl]) := Lib.hid (by rw [← hw1]; exact RowAt.new w 40 [.string Hm, .slice AI nI cI, .slice AS nS cS, .bool cl])
  have tokA : Hid True := Lib.hid trivial
  replace NW := Lib.hid NW
  replace RI := Lib.hid RI
  have hA : ¬ (4000 : Int) < (n : Int) := by omega
  have hB : ¬ (60 : Int) < (nI : Int) := by omega
  have hC : ¬ (60 : Int) < (nS : Int) := by omega
  have hD : ¬ (30 : Int) < (Hm.size : Int) := by omega
  clear hin hki hks hn hnI hnS hHm hMs hsh
  go_enter Tryz.func4, Tryz.ntmps4
  go_upto_if 57 with (first
    | (have _t := tokA; go_at_call 8; (with_reducible refine (AW.out _ B1.out).mono ?_); rintro e w2 ⟨rfl, hb2⟩; have B2 := Lib.hid (below_step B1.out hb2); have Rb2 := Lib.hid (Rb1.out.below hb2 Rb1.out.lt); have x0 := Rb2.out.cell (j := 0) rfl; have x1 := Rb2.out.cell (j := 1) rfl; have x2 := Rb2.out.cell (j := 2) rfl; clear hb2 tokA _t)
    | (go_at_call 14; (with_reducible refine (GET.out w2).mono ?_); rintro e w3 ⟨b, rfl, hs3, hb3⟩; have B3 := Lib.hid (below_step B2.out hb3); have Rb3 := Lib.hid (Rb2.out.below hb3 Rb2.out.lt); have S3 := Lib.hid hs3; (obtain ⟨C3, hC3⟩ : ∃ C, msgC (getSta ⟨#[47]⟩) (.slice (some ⟨b, 0, none⟩) 1 1) (.slice none 0 0) = C := ⟨_, rfl⟩); rw [hC3]; have HC3 := Lib.hid hC3; have CR3 : Hid (RightC C3) := Lib.hid (by rw [← hC3]; exact msgC_right _ _ _ _ _ _ _); clear hs3 hb3 hC3)
    | (refine wpList_store_row rfl 27 _ _ rfl w3.heap.size _ C3 zeroM rfl rfl (RowAt.new w3 27 _) (by rw [CR3.out.1]; rfl) (GI.out _ CR3.out) CR3.out.2 ?_; intro w4 hro hoo; have hb4 := hoo.below ((Below.refl w3.heap.size w3).alloc (Nat.le_refl _) _) (Nat.le_refl _); have B4 := Lib.hid (below_step B3.out hb4); have Rb4 := Lib.hid (Rb3.out.below hb4 Rb3.out.lt); have S4 := Lib.hid ((S3.out.below hb4).more hb4.size); have Ry4 := Lib.hid hro; clear x0 x1 x2; have x0 := Rb4.out.cell (j := 0) rfl; clear hro hoo hb4))
  have hy3 : Hid (w.heap.size < w3.heap.size) := Lib.hid Rb3.out.lt
  have hby : b < w3.heap.size := by
    obtain ⟨b', o', e, h, -⟩ := S3.out.2.2.2 (by decide)
    injection e with e
    injection e with e1 e2
    rw [e1]
    exact h
  have HBY := Lib.hid hby
  obtain ⟨y, hy⟩ : ∃ y, w3.heap.size = y := ⟨_, rfl⟩
  rw [hy] at hy3 Ry4 HBY ⊢
  clear hA hB hC hD hw1 AW GET B1 B2 B3 Rb1 Rb2 Rb3 S3 hy hby
  obtain ⟨ib, hib⟩ : ∃ x, Hm.toList.isEmpty = x := ⟨_, rfl⟩
  simp only [hib]
  have HIB := Lib.hid hib
  clear hib
  go_cut [] from 58 to 61 (fun wx => RowAt wx y 27 (reqC M b) ∧ SliceIn wx wx.heap.size 2 (some ⟨b, 0, none⟩) 1 1 (fldsV getFld) ∧ Below w.heap.size w wx ∧ RowAt wx w.heap.size 40 [.string Hm, .slice AI nI cI, .slice AS nS cS, .bool cl])
  case first =>
    cases ib
    rotate_left
    · have e0 : Hm = ⟨#[]⟩ := ba_empty _ HIB.out
      have e1 := hM.1 e0
      go_wp2_with fail
      go_meet
      refine ⟨?_, S4.out, B4.out, Rb4.out⟩
      have h := Ry4.out
      rw [← HC3.out] at h
      rw [e1]
      exact h
    · have e0 : Hm ≠ ⟨#[]⟩ := fun h => by have := HIB.out; rw [h, ByteArray.toList_eq] at this; exact absurd this (by decide)
      have e1 := hM.2 e0
      have f0 := Ry4.out.frozen (j := 0) (by rw [CR3.out.1]; decide)
      have d0 := Ry4.out.cell (j := 0) (List.getElem?_eq_getElem (by rw [CR3.out.1]; decide))
      go_wp2_with fail
      go_meet
      refine ⟨?_, ?_, B4.out.setCell (Nat.le_of_lt hy3.out) _, Rb4.out.far (Nat.ne_of_lt hy3.out) _⟩
      · have h := Ry4.out.set_ (j := 0) (by rw [CR3.out.1]; decide) (.string Hm)
        rw [← HC3.out] at h
        rw [e1, reqC_eq]
        exact h
      · obtain ⟨f1, f2, f3, f4⟩ := S4.out
        refine ⟨f1, f2, f3, fun hn => ?_⟩
        obtain ⟨b', o, hbA, hb', hcl⟩ := f4 hn
        injection hbA with hbA
        injection hbA with hb1 hb2
        subst hb1 hb2
        refine ⟨_, _, rfl, by rw [(Only.setCell y 0 w4 _).size]; exact hb', fun j u hu => ?_⟩
        have hne : b ≠ y := Nat.ne_of_lt HBY.out
        exact (World.cell?_of_block ((Only.setCell y 0 w4 _).block b hne)).trans (hcl j u hu)
  case rest =>
  obtain ⟨hry, hs5, hb5, hrb5⟩ := hcut
  obtain ⟨w5, hw5⟩ : ∃ W : World, W = wc := ⟨_, rfl⟩
  subst hw5
  have Ry5 := Lib.hid hry
  have S5 := Lib.hid hs5
  have B5 := Lib.hid hb5
  have Rb5 := Lib.hid hrb5
  have CR : Hid (RightC (reqC M b)) := Lib.hid (msgC_right _ _ _ _ _ _ _)
  obtain ⟨C, hCe⟩ : ∃ C, reqC M b = C := ⟨_, rfl⟩
  have HCe := Lib.hid hCe
  rw [hCe] at Ry5 CR
  have HCi := Lib.hid (GI.out _ CR.out)
  clear hry hs5 hb5 hrb5 Ry4 S4 B4 Rb4 HC3 CR3 HIB hCe x0
  replace NW := Lib.hid (NW.out w5 b S5.out)
  rw [HCe.out] at NW
  have tok5 : Hid True := Lib.hid trivial
  go_wp2_with (first
    | (have _t := tok5; refine wpList_load_g (by first | exact wanted_un rfl | exact wanted_yes rfl rfl rfl rfl | exact (wanted_is rfl rfl rfl rfl).trans (by simp; omega) | exact (wanted_is rfl rfl rfl rfl).trans (by simp)) 27 _ rfl y 0 rfl C _ (rangeOf Ry5.out) Tryz.underlying27 rfl HCi.out ?_; clear _t)
    | (have _t := tok5; go_at_call 10; (with_reducible refine NW.out.mono ?_); rintro e w6 ⟨rfl, hb6⟩; have B6 := Lib.hid (below_step B5.out hb6); have Ry6 := Lib.hid (Ry5.out.below hb6 Ry5.out.lt); have RI6 := RI.out w6 b ((S5.out.below hb6).more hb6.size); rw [HCe.out] at RI6; have RI6 := Lib.hid RI6; have tok6 : Hid True := Lib.hid trivial; clear hb6 tok5 _t)
    | (have _t := tok6; refine wpList_load_g (by first | exact wanted_un rfl | exact wanted_yes rfl rfl rfl rfl | exact (wanted_is rfl rfl rfl rfl).trans (by simp; omega) | exact (wanted_is rfl rfl rfl rfl).trans (by simp)) 27 _ rfl y 0 rfl C _ (rangeOf Ry6.out) Tryz.underlying27 rfl HCi.out ?_; clear _t)
    | (have _t := tok6; go_at_call 11; (with_reducible refine RI6.out.mono ?_); rintro e w7 ⟨rfl, hb7⟩; have B7 := Lib.hid (below_step B6.out hb7); clear hb7 tok6 _t))
  go_ret
  exact ⟨rfl, B7.out⟩
end Go.Proofs.YtniiadhhefgmcaaGreatDoor

/- Layer 23's laws: OriginTakes, walked, its request right. Condition: the world's shape. Printed by mklaw23b.py. -/
namespace Go.Proofs.YtniiadhhefgmcaaGreatDoor
open Go.RowKit IH
set_option maxRecDepth 100000
set_option linter.unusedVariables false
set_option maxHeartbeats 64000000 in
theorem otakes_good (A : Option Addr) (n c : Nat) (L : List UInt8) (Hm : ByteArray) (AI : Option Addr) (nI cI : Nat) (K : List UInt8) (AS : Option Addr) (nS cS : Nat) (KS : List UInt8) (cl : Bool) (M : ByteArray) (w : World) (hsh : w.ShapedOpen Tryz.prog) (hin : SliceIn w w.heap.size 1 A n c (bytesV L)) (hki : SliceIn w w.heap.size 1 AI nI cI (bytesV K)) (hks : SliceIn w w.heap.size 1 AS nS cS (bytesV KS)) (hn : n ≤ 4000) (hnI : nI ≤ 60) (hnS : nS ≤ 60) (hHm : Hm.size ≤ 30) (hM : (Hm = ⟨#[]⟩ → M = ⟨#[71, 69, 84]⟩) ∧ (Hm ≠ ⟨#[]⟩ → M = Hm)) (hMs : M.size ≤ 30)
    (NW : ∀ W b, SliceIn W W.heap.size 2 (some ⟨b, 0, none⟩) 1 1 (fldsV getFld) → Calls Tryz.prog 10 #[.agg (reqC M b).toArray] W fun e w' => (∃ g vo, e = .returned (.tuple #[.pointer (some ⟨g, 0, none⟩), .int .i64 0]) ∧ XAt w' W.heap.size g vo M false 0 none [] (Rd.new false M.data.toList) ∧ W.heap.size ≤ g) ∧ Below W.heap.size W w')
    (RI : ∀ W b, SliceIn W W.heap.size 2 (some ⟨b, 0, none⟩) 1 1 (fldsV getFld) → Calls Tryz.prog 11 #[.agg (reqC M b).toArray, .string ⟨#[]⟩] W fun e w' => e = .returned (.bool true) ∧ Below W.heap.size W w') :
    Calls Tryz.prog 4 #[.slice A n c, .agg #[.string Hm, .slice AI nI cI, .slice AS nS cS, .bool cl]] w fun e w' => e = .returned (.bool true) ∧ Below w.heap.size w w' := by
  have HMi : Hid ((Tryz.prog.info? 27).map (·.size) = some 7) := Lib.hid (by kernel_rfl)
  have GI : Hid (∀ E : List Value, RightC E → (Tryz.prog.info? 27).map (·.size) = some E.length) := Lib.hid (fun E h => by rw [h.1]; exact HMi.out)
  have AW := Lib.hid (fun W (hW : Below w.heap.size w W) => awake23_any W (shaped_below hsh hW))
  have GET := Lib.hid (fun W => get_any ⟨#[47]⟩ W)
  obtain ⟨w1, hw1⟩ : ∃ W : World, w.alloc (.cells #[.string Hm, .slice AI nI cI, .slice AS nS cS, .bool cl] 40) = W := ⟨_, rfl⟩
  have B1 : Hid (Below w.heap.size w w1) := Lib.hid (by rw [← hw1]; exact (Below.refl _ _).alloc (Nat.le_refl _) _)
  have Rb1 : Hid (RowAt w1 w.heap.size 40 [.string Hm, .slice AI nI cI, .slice AS nS cS, .bool cl]) := Lib.hid (by rw [← hw1]; exact RowAt.new w 40 [.string Hm, .slice AI nI cI, .slice AS nS cS, .bool cl])
  have tokA : Hid True := Lib.hid trivial
  replace NW := Lib.hid NW
  replace RI := Lib.hid RI
  have hA : ¬ (4000 : Int) < (n : Int) := by omega
  have hB : ¬ (60 : Int) < (nI : Int) := by omega
  have hC : ¬ (60 : Int) < (nS : Int) := by omega
  have hD : ¬ (30 : Int) < (Hm.size : Int) := by omega
  have HSH := Lib.hid hsh
  have Hin := Lib.hid hin
  have Hki := Lib.hid hki
  have Hks := Lib.hid hks
  have hLl : L.length = n := by have := hin.1; rw [bytesV_length] at this; omega
  have hKl : K.length = nI := by have := hki.1; rw [bytesV_length] at this; omega
  have hSl : KS.length = nS := by have := hks.1; rw [bytesV_length] at this; omega
  have HLl := Lib.hid hLl
  have HKl := Lib.hid hKl
  have HSl := Lib.hid hSl
  have Hz : Hid (n ≤ 4000 ∧ nI ≤ 60 ∧ nS ≤ 60 ∧ n ≤ c ∧ c ≤ maxLen ∧ M.size ≤ 30) := Lib.hid ⟨hn, hnI, hnS, hin.2.1, hin.2.2.1, hMs⟩
  have kcm : ∀ w : World, (convert 25 25 (.slice (some ⟨w.heap.size, 0, none⟩) 4 4)).run Tryz.prog (w.alloc (.cells #[.int .u8 109, .int .u8 111, .int .u8 114, .int .u8 101] 5)) = .ok (.slice (some ⟨w.heap.size, 0, none⟩) 4 4) (w.alloc (.cells #[.int .u8 109, .int .u8 111, .int .u8 114, .int .u8 101] 5 (4, 5))) := fun w => const_bytes23 25 5 #[.int .u8 109, .int .u8 111, .int .u8 114, .int .u8 101] 4 4 Tryz.underlying25 Tryz.underlying5 w
  have Hkc := Lib.hid kcm
  clear hin hki hks hn hnI hnS hHm hMs hsh hLl hKl hSl kcm
  go_enter Tryz.func4, Tryz.ntmps4
  go_upto_if 57 with (first
    | (have _t := tokA; go_at_call 8; (with_reducible refine (AW.out _ B1.out).mono ?_); rintro e w2 ⟨rfl, hb2⟩; have B2 := Lib.hid (below_step B1.out hb2); have Rb2 := Lib.hid (Rb1.out.below hb2 Rb1.out.lt); have x0 := Rb2.out.cell (j := 0) rfl; have x1 := Rb2.out.cell (j := 1) rfl; have x2 := Rb2.out.cell (j := 2) rfl; clear hb2 tokA _t)
    | (go_at_call 14; (with_reducible refine (GET.out w2).mono ?_); rintro e w3 ⟨b, rfl, hs3, hb3⟩; have B3 := Lib.hid (below_step B2.out hb3); have Rb3 := Lib.hid (Rb2.out.below hb3 Rb2.out.lt); have S3 := Lib.hid hs3; (obtain ⟨C3, hC3⟩ : ∃ C, msgC (getSta ⟨#[47]⟩) (.slice (some ⟨b, 0, none⟩) 1 1) (.slice none 0 0) = C := ⟨_, rfl⟩); rw [hC3]; have HC3 := Lib.hid hC3; have CR3 : Hid (RightC C3) := Lib.hid (by rw [← hC3]; exact msgC_right _ _ _ _ _ _ _); clear hs3 hb3 hC3)
    | (refine wpList_store_row rfl 27 _ _ rfl w3.heap.size _ C3 zeroM rfl rfl (RowAt.new w3 27 _) (by rw [CR3.out.1]; rfl) (GI.out _ CR3.out) CR3.out.2 ?_; intro w4 hro hoo; have hb4 := hoo.below ((Below.refl w3.heap.size w3).alloc (Nat.le_refl _) _) (Nat.le_refl _); have B4 := Lib.hid (below_step B3.out hb4); have Rb4 := Lib.hid (Rb3.out.below hb4 Rb3.out.lt); have S4 := Lib.hid ((S3.out.below hb4).more hb4.size); have Ry4 := Lib.hid hro; clear x0 x1 x2; have x0 := Rb4.out.cell (j := 0) rfl; clear hro hoo hb4))
  have hy3 : Hid (w.heap.size < w3.heap.size) := Lib.hid Rb3.out.lt
  have hby : b < w3.heap.size := by
    obtain ⟨b', o', e, h, -⟩ := S3.out.2.2.2 (by decide)
    injection e with e
    injection e with e1 e2
    rw [e1]
    exact h
  have HBY := Lib.hid hby
  obtain ⟨y, hy⟩ : ∃ y, w3.heap.size = y := ⟨_, rfl⟩
  rw [hy] at hy3 Ry4 HBY ⊢
  clear hA hB hC hD hw1 AW GET B1 B2 B3 Rb1 Rb2 Rb3 S3 hy hby
  obtain ⟨ib, hib⟩ : ∃ x, Hm.toList.isEmpty = x := ⟨_, rfl⟩
  simp only [hib]
  have HIB := Lib.hid hib
  clear hib
  go_cut [] from 58 to 61 (fun wx => RowAt wx y 27 (reqC M b) ∧ SliceIn wx wx.heap.size 2 (some ⟨b, 0, none⟩) 1 1 (fldsV getFld) ∧ Below w.heap.size w wx ∧ RowAt wx w.heap.size 40 [.string Hm, .slice AI nI cI, .slice AS nS cS, .bool cl])
  case first =>
    cases ib
    rotate_left
    · have e0 : Hm = ⟨#[]⟩ := ba_empty _ HIB.out
      have e1 := hM.1 e0
      go_wp2_with fail
      go_meet
      refine ⟨?_, S4.out, B4.out, Rb4.out⟩
      have h := Ry4.out
      rw [← HC3.out] at h
      rw [e1]
      exact h
    · have e0 : Hm ≠ ⟨#[]⟩ := fun h => by have := HIB.out; rw [h, ByteArray.toList_eq] at this; exact absurd this (by decide)
      have e1 := hM.2 e0
      have f0 := Ry4.out.frozen (j := 0) (by rw [CR3.out.1]; decide)
      have d0 := Ry4.out.cell (j := 0) (List.getElem?_eq_getElem (by rw [CR3.out.1]; decide))
      go_wp2_with fail
      go_meet
      refine ⟨?_, ?_, B4.out.setCell (Nat.le_of_lt hy3.out) _, Rb4.out.far (Nat.ne_of_lt hy3.out) _⟩
      · have h := Ry4.out.set_ (j := 0) (by rw [CR3.out.1]; decide) (.string Hm)
        rw [← HC3.out] at h
        rw [e1, reqC_eq]
        exact h
      · obtain ⟨f1, f2, f3, f4⟩ := S4.out
        refine ⟨f1, f2, f3, fun hn => ?_⟩
        obtain ⟨b', o, hbA, hb', hcl⟩ := f4 hn
        injection hbA with hbA
        injection hbA with hb1 hb2
        subst hb1 hb2
        refine ⟨_, _, rfl, by rw [(Only.setCell y 0 w4 _).size]; exact hb', fun j u hu => ?_⟩
        have hne : b ≠ y := Nat.ne_of_lt HBY.out
        exact (World.cell?_of_block ((Only.setCell y 0 w4 _).block b hne)).trans (hcl j u hu)
  case rest =>
  obtain ⟨hry, hs5, hb5, hrb5⟩ := hcut
  obtain ⟨w5, hw5⟩ : ∃ W : World, W = wc := ⟨_, rfl⟩
  subst hw5
  have Ry5 := Lib.hid hry
  have S5 := Lib.hid hs5
  have B5 := Lib.hid hb5
  have Rb5 := Lib.hid hrb5
  have CR : Hid (RightC (reqC M b)) := Lib.hid (msgC_right _ _ _ _ _ _ _)
  obtain ⟨C, hCe⟩ : ∃ C, reqC M b = C := ⟨_, rfl⟩
  have HCe := Lib.hid hCe
  rw [hCe] at Ry5 CR
  have HCi := Lib.hid (GI.out _ CR.out)
  clear hry hs5 hb5 hrb5 Ry4 S4 B4 Rb4 HC3 CR3 HIB hCe x0
  replace NW := Lib.hid (NW.out w5 b S5.out)
  rw [HCe.out] at NW
  have tok5 : Hid True := Lib.hid trivial
  go_upto_region 11 with (first
    | (have _t := tok5; refine wpList_load_g (by first | exact wanted_un rfl | exact wanted_yes rfl rfl rfl rfl | exact (wanted_is rfl rfl rfl rfl).trans (by simp; omega) | exact (wanted_is rfl rfl rfl rfl).trans (by simp)) 27 _ rfl y 0 rfl C _ (rangeOf Ry5.out) Tryz.underlying27 rfl HCi.out ?_; clear _t)
    | (have _t := tok5; go_at_call 10; (with_reducible refine NW.out.mono ?_); rintro e w6 ⟨⟨g, vo, rfl, hx, hg⟩, hb6⟩; have B6 := Lib.hid (below_step B5.out hb6); have Ry6 := Lib.hid (Ry5.out.below hb6 Ry5.out.lt); have Rb6 := Lib.hid (Rb5.out.below hb6 Rb5.out.lt); have X6 := Lib.hid (hx.base B5.out.size); have HG : Hid (w.heap.size < g ∧ y < g) := Lib.hid ⟨Nat.lt_of_lt_of_le Rb5.out.lt hg, Nat.lt_of_lt_of_le Ry5.out.lt hg⟩; have RI6 := RI.out w6 b ((S5.out.below hb6).more hb6.size); rw [HCe.out] at RI6; have RI6 := Lib.hid RI6; have tok6 : Hid True := Lib.hid trivial; clear hx hg hb6 tok5 _t)
    | (have _t := tok6; refine wpList_load_g (by first | exact wanted_un rfl | exact wanted_yes rfl rfl rfl rfl | exact (wanted_is rfl rfl rfl rfl).trans (by simp; omega) | exact (wanted_is rfl rfl rfl rfl).trans (by simp)) 27 _ rfl y 0 rfl C _ (rangeOf Ry6.out) Tryz.underlying27 rfl HCi.out ?_; clear _t)
    | (have _t := tok6; go_at_call 11; (with_reducible refine RI6.out.mono ?_); rintro e wa ⟨rfl, hba⟩; have Ba := Lib.hid (below_step B6.out hba); have Rya := Lib.hid (Ry6.out.below hba Ry6.out.lt); have Rba := Lib.hid (Rb6.out.below hba Rb6.out.lt); have Xa := Lib.hid (X6.out.below hba); clear hba tok6 _t))
  clear NW RI RI6 B5 B6 Ry5 Ry6 Rb5 Rb6 S5 X6 hM
  go_wp2_with fail
  go_loopw [8, 9, 10, 11] (fun ov av fv iv wr => ∃ (O : List UInt8) (a i p tk : Nat) (f : Int) (r : Rd) (q : Option Nat) (fi : Bool), av = .int .i64 a ∧ iv = .int .i64 i ∧ fv = .int .i64 f ∧ a ≤ n ∧ i ≤ nI + 1 ∧ (i ≤ nI → fi = false) ∧ wr.ownsRow wa.heap.size 5 1 ov O.length (bytesV O) ∧ XAt wr w.heap.size g vo M fi 0 q ((L.take a).drop (p + tk)) r ∧ Xin L M.data.toList a p tk O r ∧ RdIn r ∧ r.fault = 0 ∧ r.fields.length ≤ 128 ∧ O.length ≤ p + tk ∧ (∀ k, ov.ownBlock = some k → q ≠ some k) ∧ Below w.heap.size w wr ∧ RowAt wr w.heap.size 40 [.string Hm, .slice AI nI cI, .slice AS nS cS, .bool cl] ∧ RowAt wr y 27 C ∧ wa.heap.size ≤ wr.heap.size) (fun _ _ _ iv _ => nI + 1 - (intOf iv).toNat)
  case atStart =>
    exact ⟨[], 0, 0, 0, 0, 0, _, none, false, rfl, rfl, rfl, Nat.zero_le _, Nat.zero_le _, fun _ => rfl, by simpa [bytesV] using World.ownsRow_nil _ _ _ _, Xa.out, xin_new _ _, newR_in false M.data.toList (by have := Hz.out; rw [data_len]; simp only [maxLen]; omega), rfl, by simp [Rd.new], Nat.zero_le _, (fun k h => by cases h), Ba.out, Rba.out, Rya.out, Nat.le_refl _⟩
  case round =>
    clear Xa
    obtain ⟨wq, hwq⟩ : ∃ x : World, x = wr := ⟨_, rfl⟩
    subst hwq
    obtain ⟨O, a, i, p, tk, f0, r, q, fi, rfl, rfl, rfl, han, hi1, hfi, hown, hx, hxi, hri, hf0, hfl, hol, hoff, hbq, hrb, hry, hsz⟩ := hrel
    obtain ⟨Av, cv, rfl, -⟩ := own_slice hown
    have HAN := Lib.hid han
    have HI1 := Lib.hid hi1
    have HFI := Lib.hid hfi
    have OWq := Lib.hid hown
    have Xq := Lib.hid hx
    have XIq := Lib.hid hxi
    have RIq := Lib.hid hri
    have HF0 := Lib.hid hf0
    have HFL := Lib.hid hfl
    have HOL := Lib.hid hol
    have HOF := Lib.hid hoff
    have Bq := Lib.hid hbq
    have Rbq := Lib.hid hrb
    have Ryq := Lib.hid hry
    have SZq := Lib.hid hsz
    have x1 := hrb.cell (j := 1) rfl
    clear han hi1 hfi hown hx hxi hri hf0 hfl hol hoff hbq hrb hry hsz
    by_cases hi : i ≤ nI
    · have hiI : (i : Int) ≤ (nI : Int) := by omega
      have HI := Lib.hid hi
      obtain rfl : fi = false := HFI.out hi
      clear hi
      go_upto_if 91 with fail
      obtain ⟨ib, hib⟩ : ∃ x, decide (i < nI) = x := ⟨_, rfl⟩
      simp only [hib]
      have HIB := Lib.hid hib
      clear hib
      go_cut [12] from 92 to 102 (fun s12 wx => ∃ k : Nat, s12 = .int .i64 k ∧ a ≤ k ∧ k ≤ n ∧ wx = wq)
      case first =>
        have h5 := HAN.out
        cases ib
        · go_wp2_with fail
          go_meet
          exact ⟨n, rfl, h5, Nat.le_refl _, rfl⟩
        · have hi : i < nI := of_decide_eq_true HIB.out
          have hi' : (i : Int) < (nI : Int) := by omega
          obtain ⟨b1, o1, hA, hb1, hcel⟩ := Hki.out.2.2.2 (by omega)
          obtain ⟨u, hu⟩ : ∃ u, K[i]? = some u := ⟨_, List.getElem?_eq_getElem (by have := HKl.out; omega)⟩
          have hcl := hcel i (byteV u) (by rw [bytesV_get, hu]; rfl)
          have hcq := (Bq.out.cell (p := ⟨b1, o1 + i, none⟩) hb1).trans hcl
          unfold byteV at hcq
          obtain ⟨k, hk⟩ : ∃ k, min n (a + u.toNat) = k := ⟨_, rfl⟩
          have hul := u.toNat_lt
          have hmn : min (n : Int) ((a : Int) + (u.toNat : Int)) = (k : Int) := by omega
          have hadd : IntKind.i64.wrap ((a : Int) + (u.toNat : Int)) = (a : Int) + (u.toNat : Int) := IntWalk.i64_in _ ⟨by omega, by have := Hz.out; omega⟩
          have Hk2 := Lib.hid hk
          have hu0 : (u.toNat : Int) < 256 := by omega
          obtain ⟨un, hun⟩ : ∃ x, u.toNat = x := ⟨_, rfl⟩
          rw [hun] at hcq hmn hadd hu0
          have Hun := Lib.hid hun
          clear hk hcl hcel hu hun hul
          subst hA
          go_wp2_with fail
          go_meet
          exact ⟨k, rfl, by have := Hk2.out; omega, by have := Hk2.out; omega, rfl⟩
      case rest =>
      obtain ⟨k, rfl, hak, hkn, hwc⟩ := hcut
      subst wc
      have HAK := Lib.hid hak
      have HKN := Lib.hid hkn
      clear hak hkn HIB
      have Hown0 := Lib.hid (World.ownsRow_lit (base := wq.heap.size) (e := 5) (size := 1) wq #[] 0 (Nat.le_refl _) (by simp [maxLen]) rfl)
      have HinS := Lib.hid ((sub_any ((Hin.out.below Bq.out).more Bq.out.size) a k HAK.out HKN.out).alloc (Nat.le_refl _) (.cells #[] 5))
      have XIN := Lib.hid (fun (W : World) (hb : w.heap.size ≤ W.heap.size) (hx : XAt W w.heap.size g vo M false 0 q ((L.take a).drop (p + tk)) r) (A' : Option Addr) (m c : Nat) (B' : Nat) (hs : SliceIn W B' 1 A' m c (bytesV ((L.take k).drop a))) (hm : m ≤ 4000) =>
        xin_any w.heap.size g vo M 0 q _ r W hb (Nat.le_of_lt HG.out.1) hx B' A' m c _ hs (by have h1 := xlen L a (p + tk); have := HLl.out; have := Hz.out; omega))
      go_upto_region 20 with (first
        | (refine wpList_slice_lh rfl 25 5 _ _ _ rfl Tryz.underlying25 (by kernel_rfl) A n c a k rfl rfl rfl HAK.out (by have := HKN.out; have := Hz.out; omega) ?_)
        | (at_builtin; refine wpList_appN u8_ty rfl _ _ rfl wq.heap.size _ 0 [] rfl Hown0.out (by intro h; cases h) wq.heap.size (sliceA A c a) (k - a) (c - a) (bytesV ((L.take k).drop a)) rfl HinS.out (bytesV_one _) (by have := HKN.out; have := Hz.out; omega) (by have := HKN.out; have := Hz.out; simp only [maxLen]; omega) (by simp) ?_; intro g3 cap3 w3 hown' hgr; rw [Nat.zero_add, List.nil_append] at hown'; simp only [Nat.zero_add]; have b3 := ((Below.refl wq.heap.size wq).alloc (Nat.le_refl _) (.cells #[] 5)).grown hgr (by simp) (fun q hq => (Hown0.out.lt q hq).1); have B3 := Lib.hid (below_step Bq.out b3); have X3 := Lib.hid (Xq.out.below b3); have OW3 := Lib.hid (own_below OWq.out b3); have Rb3 := Lib.hid (Rbq.out.below b3 Rbq.out.lt); have Ry3 := Lib.hid (Ryq.out.below b3 Ryq.out.lt); have SL3 := Lib.hid (SliceIn.of_own hown'); have SZ3 := Lib.hid (Nat.le_trans SZq.out b3.size); clear hown' hgr b3)
        | (go_at_call 15; (with_reducible refine (XIN.out w3 B3.out.size X3.out _ _ _ _ SL3.out (by have := HKN.out; have := Hz.out; omega)).mono ?_); rintro e w4 ⟨rfl, ⟨q4, hx4, hq4⟩, hkq, hb4⟩; have B4 := Lib.hid (B3.out.trans hb4); have X4 := Lib.hid hx4; have OW4 := Lib.hid (hkq.own OW3.out HOF.out); have Rb4 := Lib.hid (hkq.row Rb3.out (by decide) (by decide)); have Ry4 := Lib.hid (hkq.row Ry3.out (by decide) (by decide)); have HOF4 := Lib.hid (off_moved HOF.out hq4 OW3.out); have SZ4 := Lib.hid (Nat.le_trans SZ3.out hb4.size); clear hx4 hq4 hkq hb4))
      clear XIN Hown0 HinS OWq Xq Rbq Ryq Bq SZq HOF
      have hpa := XIq.out.inS
      have hkL : k ≤ L.length := by have := HKN.out; have := HLl.out; omega
      have X4b := Lib.hid X4.out
      rw [take_drop_in hpa HAK.out hkL] at X4b
      have XI4 := Lib.hid (XIq.out.more HAK.out)
      have x1 := Rb4.out.cell (j := 1) rfl
      have x3 := Rb4.out.cell (j := 3) rfl
      clear hpa hkL X4 XIq
      go_upto_region 21 with fail
      go_cut [120] from 112 to 120 (fun s wx => s = .bool (decide (i = nI) && cl) ∧ wx = w4)
      case first =>
        by_cases hii : i = nI
        · have hiE : (i : Int) = (nI : Int) := by omega
          have e1 : (decide (i = nI) && cl) = cl := by rw [decide_eq_true hii, Bool.true_and]
          have E1 := Lib.hid e1
          clear hii e1
          go_wp2_with fail
          go_meet
          exact ⟨by rw [E1.out], rfl⟩
        · have hiE : ¬ (i : Int) = (nI : Int) := by omega
          have e1 : (decide (i = nI) && cl) = false := by rw [decide_eq_false hii, Bool.false_and]
          have E1 := Lib.hid e1
          clear hii e1
          go_wp2_with fail
          go_meet
          exact ⟨by rw [E1.out], rfl⟩
      case rest =>
      obtain ⟨rfl, hwc⟩ := hcut
      subst wc
      obtain ⟨cb, hcb⟩ : ∃ x, (decide (i = nI) && cl) = x := ⟨_, rfl⟩
      rw [hcb]
      have HCB := Lib.hid hcb
      clear hcb x1 x3
      go_upto_if 120 with fail
      go_cut [] from 121 to 126 (fun wx => XAt wx w.heap.size g vo M cb 0 q4 ((L.take k).drop (p + tk)) r ∧ wx.ownsRow wa.heap.size 5 1 (.slice Av O.length cv) O.length (bytesV O) ∧ Below w.heap.size w wx ∧ RowAt wx w.heap.size 40 [.string Hm, .slice AI nI cI, .slice AS nS cS, .bool cl] ∧ RowAt wx y 27 C ∧ wa.heap.size ≤ wx.heap.size)
      case first =>
        cases cb
        · go_wp2_with fail
          go_meet
          exact ⟨X4b.out, OW4.out, B4.out, Rb4.out, Ry4.out, SZ4.out⟩
        · have XC := Lib.hid (xclose_any _ g _ _ _ _ _ _ _ w4 X4b.out)
          go_wp2_with (first
            | (go_at_call 16; (with_reducible refine XC.out.mono ?_); rintro e w5 ⟨rfl, hx5, hs5, hk5⟩; have b5 : Below w.heap.size w w5 := B4.out.trans ((hs5.mono B4.out.size).below (Nat.le_of_lt HG.out.1)); have kc5 := Hkc.out w5; (obtain ⟨w6, hw6⟩ : ∃ W : World, w5.alloc (.cells #[.int .u8 109, .int .u8 111, .int .u8 114, .int .u8 101] 5 (4, 5)) = W := ⟨_, rfl⟩); have b6 : Below w5.heap.size w5 w6 := (by rw [← hw6]; exact (Below.refl _ _).alloc (Nat.le_refl _) _); rw [hw6] at kc5; have XS := Lib.hid (xshut_any _ g _ _ _ _ _ _ w6 (hx5.below b6) (some ⟨w5.heap.size, 0, none⟩) 4 4); have B6 := Lib.hid (below_step b5 b6); have X6 := Lib.hid (hx5.below b6); have OW6 := Lib.hid (own_below (hk5.own OW4.out (by decide) (by decide) (by decide)) b6); have r5 := hk5.row Rb4.out (by decide) (by decide) (by decide); have Rb6 := Lib.hid (r5.below b6 r5.lt); have y5 := hk5.row Ry4.out (by decide) (by decide) (by decide); have Ry6 := Lib.hid (y5.below b6 y5.lt); have SZ6 := Lib.hid (Nat.le_trans SZ4.out (Nat.le_trans hs5.size b6.size)); clear hx5 hs5 hk5 b5 b6 r5 y5 hw6)
            | (go_at_call 15; (with_reducible refine XS.out.mono ?_); rintro e w7 ⟨rfl, hw7⟩; subst hw7))
          go_meet
          exact ⟨X6.out, OW6.out, B6.out, Rb6.out, Ry6.out, SZ6.out⟩
      case rest =>
      obtain ⟨hx, hown, hb, hrb, hry, hsz⟩ := hcut
      obtain ⟨w5, hw5⟩ : ∃ W : World, W = wc := ⟨_, rfl⟩
      subst hw5
      have X5 := Lib.hid hx
      have OW5 := Lib.hid hown
      have B5 := Lib.hid hb
      have Rb5 := Lib.hid hrb
      have Ry5 := Lib.hid hry
      have SZ5 := Lib.hid hsz
      clear hx hown hb hrb hry hsz X4b OW4 B4 Rb4 Ry4 SZ4
      go_wp2_with fail
      go_loopw [8, 10, 13] (fun ov fv jv wr => ∃ (O : List UInt8) (p tk j : Nat) (f : Int) (r : Rd), jv = .int .i64 j ∧ fv = .int .i64 f ∧ j ≤ p + tk ∧ wr.ownsRow wa.heap.size 5 1 ov O.length (bytesV O) ∧ XAt wr w.heap.size g vo M cb 0 q4 ((L.take k).drop (p + tk)) r ∧ Xin L M.data.toList k p tk O r ∧ RdIn r ∧ r.fault = 0 ∧ r.fields.length ≤ 128 ∧ O.length ≤ p + tk ∧ (∀ k, ov.ownBlock = some k → q4 ≠ some k) ∧ Below w.heap.size w wr ∧ RowAt wr w.heap.size 40 [.string Hm, .slice AI nI cI, .slice AS nS cS, .bool cl] ∧ RowAt wr y 27 C ∧ wa.heap.size ≤ wr.heap.size) (fun _ _ jv _ => 5000 - (intOf jv).toNat)
      case atStart =>
        exact ⟨O, p, tk, 0, f0, r, rfl, rfl, Nat.zero_le _, OW5.out, X5.out, XI4.out, RIq.out, HF0.out, HFL.out, HOL.out, HOF4.out, B5.out, Rb5.out, Ry5.out, SZ5.out⟩
      case round =>
        clear X5 OW5 B5 Rb5 Ry5 SZ5 XI4 RIq HF0 HFL HOL HOF4
        obtain ⟨wi, hwi⟩ : ∃ x : World, x = wr := ⟨_, rfl⟩
        subst hwi
        obtain ⟨O1, p1, t1, j, f1, r1, rfl, rfl, hjp, hown, hx, hxi, hri, hf0, hfl, hol, hoff, hb, hrb, hry, hsz⟩ := hrel
        obtain ⟨A1v, c1v, rfl, -⟩ := own_slice hown
        have hpk := hxi.inS
        have hj5 : (j : Int) < 5000 := by have := HKN.out; have := Hz.out; omega
        have HPK : Hid (p1 + t1 ≤ k ∧ j ≤ p1 + t1 ∧ k ≤ 4000) := Lib.hid ⟨hpk, hjp, by have := HKN.out; have := Hz.out; omega⟩
        have OWi := Lib.hid hown
        have Xi := Lib.hid hx
        have XIi := Lib.hid hxi
        have RIi := Lib.hid hri
        have HF0 := Lib.hid hf0
        have HFL := Lib.hid hfl
        have HOL := Lib.hid hol
        have HOF := Lib.hid hoff
        have Bi := Lib.hid hb
        have Rbi := Lib.hid hrb
        have Ryi := Lib.hid hry
        have SZi := Lib.hid hsz
        have x2 := hrb.cell (j := 2) rfl
        clear hjp hown hx hxi hri hf0 hfl hol hoff hb hrb hry hsz hpk
        go_upto_if 135 with fail
        obtain ⟨sb, hsb⟩ : ∃ x, decide (j < nS) = x := ⟨_, rfl⟩
        simp only [hsb]
        have HSB := Lib.hid hsb
        clear hsb
        go_cut [14] from 136 to 142 (fun s14 wx => ∃ mo : Int, s14 = .int .i64 mo ∧ 1 ≤ mo ∧ mo ≤ 1000 ∧ wx = wi)
        case first =>
          cases sb
          · go_wp2_with fail
            go_meet
            exact ⟨64, rfl, by decide, by decide, rfl⟩
          · have hi : j < nS := of_decide_eq_true HSB.out
            have hi' : (j : Int) < (nS : Int) := by omega
            obtain ⟨b1, o1, hA, hb1, hcel⟩ := Hks.out.2.2.2 (by omega)
            obtain ⟨u, hu⟩ : ∃ u, KS[j]? = some u := ⟨_, List.getElem?_eq_getElem (by have := HSl.out; omega)⟩
            have hcl := hcel j (byteV u) (by rw [bytesV_get, hu]; rfl)
            have hcq := (Bi.out.cell (p := ⟨b1, o1 + j, none⟩) hb1).trans hcl
            unfold byteV at hcq
            have hul := u.toNat_lt
            have hadd : IntKind.i64.wrap (1 + (u.toNat : Int)) = 1 + (u.toNat : Int) := IntWalk.i64_in _ ⟨by omega, by omega⟩
            have hu0 : (u.toNat : Int) < 256 := by omega
            obtain ⟨un, hun⟩ : ∃ x, u.toNat = x := ⟨_, rfl⟩
            rw [hun] at hcq hadd hu0
            have Hun := Lib.hid hun
            clear hcl hcel hu hun hul
            subst hA
            go_wp2_with fail
            go_meet
            exact ⟨1 + (un : Int), rfl, by omega, by omega, rfl⟩
        case rest =>
        obtain ⟨mo, rfl, hm1, hm2, hwc⟩ := hcut
        subst wc
        have XT := Lib.hid (xtake_any w.heap.size g vo M cb q4 L k p1 t1 O1 r1 mo wi Bi.out.size (Nat.le_of_lt HG.out.1) (fun W hW => shaped_below HSH.out (Bi.out.trans hW)) (by have := HLl.out; have := Hz.out; omega) (by have := HLl.out; have := HKN.out; omega) (by have := Hz.out; omega) Xi.out XIi.out RIi.out HF0.out HFL.out hm1 hm2)
        have QLT := Lib.hid (fun z (hz : q4 = some z) => Xi.out.qlt hz)
        clear hm1 hm2 HSB x2
        go_upto_if 155 with (first
          | (go_at_call 17; (with_reducible refine XT.out.mono ?_); rintro e w6 ⟨Ax, X, cx, tb, f, rfl, hsx, hnx, hb6, hk6⟩; have B6 := Lib.hid (Bi.out.trans hb6); have OW6 := Lib.hid (hk6.own OWi.out (by decide) (by decide) (by decide)); have Rb6 := Lib.hid (hk6.row Rbi.out (by decide) (by decide) (by decide)); have Ry6 := Lib.hid (hk6.row Ryi.out (by decide) (by decide) (by decide)); have SX6 := Lib.hid hsx; have NX6 := Lib.hid hnx; have SZ6 := Lib.hid (Nat.le_trans SZi.out hb6.size); have WZ6 := Lib.hid hb6.size; have HXL : Hid (X.length ≤ 65535) := Lib.hid (nextX_len hnx (by have := HLl.out; have := Hz.out; omega) (by have := HLl.out; have := HKN.out; omega)); (obtain ⟨xl, hxl⟩ : ∃ x, X.length = x := ⟨_, rfl⟩); rw [hxl] at SX6 HXL ⊢; have HXe := Lib.hid hxl; clear hsx hnx hb6 hk6 hxl)
          | (at_builtin; refine wpList_appW u8_ty rfl _ _ rfl wa.heap.size (.slice A1v O1.length c1v) O1.length (bytesV O1) rfl OW6.out w6.heap.size Ax xl cx (bytesV X) rfl SX6.out (bytesV_one X) (by have := HXL.out; have := HOL.out; have := HPK.out; omega) (by have := HXL.out; have := HOL.out; have := HPK.out; simp only [maxLen]; omega) SZ6.out ?_; intro v7 w7 hown7 hgr7 hmv7; rw [← bytesV_append] at hown7; obtain ⟨A7, c7, rfl, -⟩ := own_slice hown7; have OW7 := Lib.hid hown7; have NX7 := Lib.hid (NX6.out.grown OW6.out hgr7 HOF.out); have Rb7 := Lib.hid (row_past23 Rb6.out hgr7 OW6.out (by decide)); have Ry7 := Lib.hid (row_past23 Ry6.out hgr7 OW6.out (by decide)); have B7 := Lib.hid (B6.out.grown hgr7 B6.out.size (fun z hz => Nat.le_trans Ba.out.size (OW6.out.lt z hz).1)); have SZ7 := Lib.hid (Nat.le_trans SZ6.out hgr7.size); have HOF7 : Hid (∀ z, (Value.slice A7 (O1.length + xl) c7).ownBlock = some z → q4 ≠ some z) := Lib.hid (off_app HOF.out hmv7 (fun z hz => Nat.lt_of_lt_of_le (QLT.out z hz) WZ6.out)); clear hown7 hgr7 hmv7))
        clear OWi Xi Rbi Ryi SZi OW6 NX6 Rb6 Ry6 SX6 B6 SZ6 WZ6 XT QLT
        cases tb
        · obtain ⟨hX, hNX⟩ : X = [] ∧ ((f ≠ 0 ∧ XErr w7 g f ∧ (told23 M.data.toList (L.take k)).1.e = f) ∨ (f = (if cb = true ∧ r1.w ≠ 3 then 11 else 0) ∧ Rest23 (told23 M.data.toList (L.take k)) (p1 + t1) O1 r1 ∧ XAt w7 w.heap.size g vo M cb f q4 ((L.take k).drop (p1 + t1)) r1)) := by
            rcases NX7.out with ⟨h, -⟩ | ⟨-, h1, h2⟩
            · cases h
            · exact ⟨h1, h2⟩
          have hxl0 : xl = 0 := by rw [← HXe.out, hX]; rfl
          subst hxl0
          rw [hX, List.append_nil] at OW7
          clear NX7 HXe HXL hX
          simp only [Nat.add_zero] at OW7 HOF7 ⊢
          have TDk := Lib.hid (fun (W : World) (h : SliceIn W W.heap.size 1 A k c (bytesV (L.take k))) => rtold23_any A k c (L.take k) M W h (by have := HKN.out; have := Hz.out; omega))
          obtain ⟨T0, hT⟩ : ∃ x, told23 M.data.toList (L.take k) = x := ⟨_, rfl⟩
          rw [hT] at hNX TDk
          clear hT
          obtain ⟨⟨ts, tf, tbd, tfr, tn, tov, te⟩, tp⟩ := T0
          obtain ⟨nn, hnn⟩ : ∃ x, tp + tn = x := ⟨_, rfl⟩
          simp only at TDk hNX
          rw [hnn] at TDk
          have HNN := Lib.hid hnn
          have HNX := Lib.hid hNX
          clear hnn hNX
          have HC0 : Hid (C[0]? = some (.string M)) := Lib.hid (by rw [← HCe.out, reqC_eq]; rfl)
          have hkc : (k : Int) ≤ (c : Int) := by have := HKN.out; have := Hz.out; omega
          obtain ⟨O2, hO2⟩ : ∃ x, O1.length = x := ⟨_, rfl⟩
          rw [hO2] at OW7 HOF7 ⊢
          have HO2 := Lib.hid hO2
          clear hO2
          go_upto_region 34 with fail
          go_cut [18, 19, 20, 21, 22] from 156 to 168 (fun s18 s19 s20 s21 s22 wx => ∃ (gz : Nat) (C8 : List Value), s18 = .pointer (some ⟨gz, 0, none⟩) ∧ s19 = .bool tfr ∧ s20 = .bool tov ∧ s21 = .int .i64 nn ∧ s22 = .int .i64 te ∧ RowAt wx gz 27 C8 ∧ MsgO wx ⟨ts, tf, tbd⟩ C8 ∧ w7.heap.size ≤ gz ∧ Below w7.heap.size w7 wx)
          case first =>
            refine wp_region_tree (fun W => Below w7.heap.size w7 W) (.take 0 (.take 1 (.take 2 (.take 3 (.take 4 (.take 5 (.node (.fork 6 (.take 7 (.take 8 (.take 9 (.take 10 (.take 11 (.take 12 (.node (.fork 13 (.node (.fork 14 (.take 15 (.take 16 (.take 17 (.take 18 (.done))))) (.stop))) (.stop))))))))) (.fork 13 (.node (.fork 6 (.take 7 (.take 8 (.take 9 (.take 10 (.take 11 (.take 12 (.node (.fork 14 (.take 15 (.take 16 (.take 17 (.take 18 (.done))))) (.stop))))))))) (.stop))) (.stop)))))))))) (by kernel_rfl) (by kernel_rfl) (of_decide_eq_true (by kernel_rfl)) rfl (by kernel_rfl) (below_drewN (Below.refl _ _) 1) ?_
            intro w1 hH
            iterate 6
              refine tree_take (v := ?_) rfl (by rfl) ?_ ?_
              rotate_left
              · intro w2 hSw
                have ra := Ry7.out.below hSw Ry7.out.lt
                have z0 := ra.cell (j := 0) HC0.out
                clear ra
                clear hSw
                go_simp
                try with_reducible rfl
              try simp only [Act.put, List.setIfInBounds_toArray, List.set_cons_zero, List.set_cons_succ]
            refine tree_node ?_
            refine tree_move rfl (by rfl) (fun K hK => ?_) ?_
            · go_simp
              have SB := Lib.hid hH.out.size
              (with_reducible refine (TDk.out _ (take_any ((Hin.out.below (below_step B7.out hH.out)).more (below_step B7.out hH.out).size) k HKN.out (fun _ => rfl))).mono ?_)
              rintro e w8 ⟨C8, rfl, hm8, hb8⟩
              refine hK.out _ _ (below_step hH.out hb8) ?_
              try (replace FB := Lib.hid (FB.out.below hb8 FB.out.lt))
              have MC := Lib.hid hm8
              clear hH hK K hm8 hb8
              intro hH
              try simp only [Act.put, List.setIfInBounds_toArray, List.set_cons_zero, List.set_cons_succ]
              iterate 6
                refine tree_take (v := ?_) rfl (by rfl) ?_ ?_
                rotate_left
                · intro w2 hSw
                  have ra := Ry7.out.below hSw Ry7.out.lt
                  have z0 := ra.cell (j := 0) HC0.out
                  clear ra
                  clear hSw
                  go_simp
                  try with_reducible rfl
                try simp only [Act.put, List.setIfInBounds_toArray, List.set_cons_zero, List.set_cons_succ]
              refine tree_node ?_
              refine tree_move rfl (by rfl) (fun K hK => ?_) ?_
              · go_simp
                refine hK.out _ _ (hH.out.alloc hH.out.size _) ?_
                have FB := Lib.hid (row_at hH 27 [.string ⟨#[]⟩, .string ⟨#[]⟩, .int .i64 0, .string ⟨#[]⟩, .int .i64 0, .slice none 0 0, .slice none 0 0])
                have HGz := Lib.hid hH.out.size
                try (replace MC := Lib.hid (MC.out.below ((Below.refl _ _).alloc (Nat.le_refl _) (.cells #[.string ⟨#[]⟩, .string ⟨#[]⟩, .int .i64 0, .string ⟨#[]⟩, .int .i64 0, .slice none 0 0, .slice none 0 0] 27))))
                clear hH hK K
                intro hH
                try simp only [Act.put, List.setIfInBounds_toArray, List.set_cons_zero, List.set_cons_succ]
                refine tree_node ?_
                refine tree_move rfl (by rfl) (fun K hK => ?_) ?_
                · refine wp_store_row 27 _ _ rfl _ _ C8 _ rfl rfl (row_size FB.out (by simp)) (by rw [MC.out.right.1]; rfl) (GI.out _ MC.out.right) MC.out.right.2 ?_
                  intro w9 hr9 ho9
                  refine hK.out _ _ (ho9.below hH.out (by have := HGz.out; first | exact this | (simp at this; omega))) ?_
                  have FR9 := Lib.hid hr9
                  have MC9 := Lib.hid (MC.out.only ho9 FB.out)
                  clear hH hK K hr9 ho9 FB MC
                  intro hH
                  try simp only [Act.put]
                  iterate 4
                    refine tree_take (v := ?_) rfl (by rfl) ?_ ?_
                    rotate_left
                    · intro w2 hSw
                      have ra := Ry7.out.below hSw Ry7.out.lt
                      have z0 := ra.cell (j := 0) HC0.out
                      clear ra
                      clear hSw
                      go_simp
                      try with_reducible rfl
                    try simp only [Act.put, List.setIfInBounds_toArray, List.set_cons_zero, List.set_cons_succ]
                  refine tree_done ?_
                  have hF := hH.out
                  clear hH
                  go_wp2_with fail
                  go_meet
                  exact ⟨_, C8, rfl, rfl, rfl, rfl, rfl, FR9.out, MC9.out, HGz.out, hF⟩
                exact tree_stop
              exact tree_stop
            refine tree_move rfl (by rfl) (fun K hK => ?_) ?_
            · go_simp
              refine hK.out _ _ (hH.out.alloc hH.out.size _) ?_
              have FB := Lib.hid (row_at hH 27 [.string ⟨#[]⟩, .string ⟨#[]⟩, .int .i64 0, .string ⟨#[]⟩, .int .i64 0, .slice none 0 0, .slice none 0 0])
              have HGz := Lib.hid hH.out.size
              try (replace MC := Lib.hid (MC.out.below ((Below.refl _ _).alloc (Nat.le_refl _) (.cells #[.string ⟨#[]⟩, .string ⟨#[]⟩, .int .i64 0, .string ⟨#[]⟩, .int .i64 0, .slice none 0 0, .slice none 0 0] 27))))
              clear hH hK K
              intro hH
              try simp only [Act.put, List.setIfInBounds_toArray, List.set_cons_zero, List.set_cons_succ]
              refine tree_node ?_
              refine tree_move rfl (by rfl) (fun K hK => ?_) ?_
              · go_simp
                have SB := Lib.hid hH.out.size
                (with_reducible refine (TDk.out _ (take_any ((Hin.out.below (below_step B7.out hH.out)).more (below_step B7.out hH.out).size) k HKN.out (fun _ => rfl))).mono ?_)
                rintro e w8 ⟨C8, rfl, hm8, hb8⟩
                refine hK.out _ _ (below_step hH.out hb8) ?_
                try (replace FB := Lib.hid (FB.out.below hb8 FB.out.lt))
                have MC := Lib.hid hm8
                clear hH hK K hm8 hb8
                intro hH
                try simp only [Act.put, List.setIfInBounds_toArray, List.set_cons_zero, List.set_cons_succ]
                iterate 6
                  refine tree_take (v := ?_) rfl (by rfl) ?_ ?_
                  rotate_left
                  · intro w2 hSw
                    have ra := Ry7.out.below hSw Ry7.out.lt
                    have z0 := ra.cell (j := 0) HC0.out
                    clear ra
                    clear hSw
                    go_simp
                    try with_reducible rfl
                  try simp only [Act.put, List.setIfInBounds_toArray, List.set_cons_zero, List.set_cons_succ]
                refine tree_node ?_
                refine tree_move rfl (by rfl) (fun K hK => ?_) ?_
                · refine wp_store_row 27 _ _ rfl _ _ C8 _ rfl rfl (row_size FB.out (by simp)) (by rw [MC.out.right.1]; rfl) (GI.out _ MC.out.right) MC.out.right.2 ?_
                  intro w9 hr9 ho9
                  refine hK.out _ _ (ho9.below hH.out (by have := HGz.out; first | exact this | (simp at this; omega))) ?_
                  have FR9 := Lib.hid hr9
                  have MC9 := Lib.hid (MC.out.only ho9 FB.out)
                  clear hH hK K hr9 ho9 FB MC
                  intro hH
                  try simp only [Act.put]
                  iterate 4
                    refine tree_take (v := ?_) rfl (by rfl) ?_ ?_
                    rotate_left
                    · intro w2 hSw
                      have ra := Ry7.out.below hSw Ry7.out.lt
                      have z0 := ra.cell (j := 0) HC0.out
                      clear ra
                      clear hSw
                      go_simp
                      try with_reducible rfl
                    try simp only [Act.put, List.setIfInBounds_toArray, List.set_cons_zero, List.set_cons_succ]
                  refine tree_done ?_
                  have hF := hH.out
                  clear hH
                  go_wp2_with fail
                  go_meet
                  exact ⟨_, C8, rfl, rfl, rfl, rfl, rfl, FR9.out, MC9.out, HGz.out, hF⟩
                exact tree_stop
              exact tree_stop
            exact tree_stop
          case rest =>
          obtain ⟨gz, C8, rfl, rfl, rfl, rfl, rfl, hrz, hmz, hgz, hb8⟩ := hcut
          obtain ⟨w9, hw9⟩ : ∃ W : World, W = wc := ⟨_, rfl⟩
          subst hw9
          have Rz9 := Lib.hid hrz
          have MC9 := Lib.hid hmz
          have GZ := Lib.hid hgz
          have B9 := Lib.hid (below_step B7.out hb8)
          have OW9 := Lib.hid (own_below OW7.out hb8)
          have Rb9 := Lib.hid (Rb7.out.below hb8 Rb7.out.lt)
          have Ry9 := Lib.hid (Ry7.out.below hb8 Ry7.out.lt)
          have SZ9 := Lib.hid (Nat.le_trans SZ7.out hb8.size)
          have HB8 := Lib.hid hb8
          clear hrz hmz hgz hb8 TDk hkc
          by_cases hf : f ≠ 0 ∧ XErr w7 g f ∧ te = f
          · obtain ⟨hf0, hxe, rfl⟩ := hf
            have hfb : (te != 0) = true := by rw [bne_iff_ne]; exact hf0
            have ST := Lib.hid (xidle_err g te 9 hf0 w9 (hxe.below HB8.out))
            clear hf0 hxe
            go_wp2_with (go_at_call 17; (with_reducible refine ST.out.mono ?_); rintro e w10 ⟨rfl, hb10⟩; have B10 := Lib.hid (below_step B9.out hb10); clear hb10)
            go_ret
            exact ⟨by first | rfl | simp, B10.out⟩
          · obtain ⟨hfe, hrs, hx7⟩ : f = (if cb = true ∧ r1.w ≠ 3 then 11 else 0) ∧ Rest23 (⟨ts, tf, tbd, tfr, tn, tov, te⟩, tp) (p1 + t1) O1 r1 ∧ XAt w7 w.heap.size g vo M cb f q4 ((L.take k).drop (p1 + t1)) r1 := by
              rcases HNX.out with h | h
              · exact absurd h hf
              · exact h
            obtain ⟨k1, k2, k3, k4, k5, k6⟩ := hrs
            simp only at k1 k2 k3 k4 k5 k6
            subst k1
            have hnk : nn = p1 + t1 := by rw [← HNN.out]; exact k3
            have hfv : Hid (f = (if (cb && !tov) = true then 11 else 0)) := Lib.hid (by
              rw [hfe, ← k2]
              cases cb <;> by_cases h3 : r1.w = 3 <;> simp [h3])
            have K2 := Lib.hid k2
            have K4 := Lib.hid k4
            have K5 := Lib.hid k5
            have K6 := Lib.hid k6
            have HNK := Lib.hid hnk
            have X9 := Lib.hid (hx7.below HB8.out)
            clear hf hfe k2 k3 k4 k5 k6 hnk hx7
            have x1 := Rb9.out.cell (j := 1) rfl
            have x3 := Rb9.out.cell (j := 3) rfl
            go_upto_region 38 with fail
            go_cut [197] from 185 to 197 (fun s wx => s = .bool (cb && !tov) ∧ wx = w9)
            case first =>
              by_cases hii : i = nI
              · have hiE : (i : Int) = (nI : Int) := by omega
                have e1 : cl = cb := by have := HCB.out; rw [decide_eq_true hii, Bool.true_and] at this; exact this
                have E1 := Lib.hid e1
                clear hii e1
                cases cl
                · go_wp2_with fail
                  go_meet
                  exact ⟨by rw [← E1.out]; rfl, rfl⟩
                · go_wp2_with fail
                  go_meet
                  exact ⟨by rw [← E1.out]; first | rfl | simp, rfl⟩
              · have hiE : ¬ (i : Int) = (nI : Int) := by omega
                have e1 : cb = false := by have := HCB.out; rw [decide_eq_false hii, Bool.false_and] at this; exact this.symm
                have E1 := Lib.hid e1
                clear hii e1
                go_wp2_with fail
                go_meet
                exact ⟨by rw [E1.out]; first | rfl | simp, rfl⟩
            case rest =>
            obtain ⟨rfl, hwc⟩ := hcut
            subst wc
            clear x1 x3
            cases hz : (cb && !tov)
            · have hf0 : f = 0 := by rw [hfv.out, hz]; rfl
              subst hf0
              clear hz hfv
              have HD : Hid (Calls Tryz.prog 19 #[.pointer (some ⟨g, 0, none⟩)] w9 fun e w' => ∃ Ch, e = .returned (.tuple #[.agg Ch.toArray, .bool tfr]) ∧ RightC Ch ∧ (tfr = true → MsgO w' ⟨ts, tf, []⟩ Ch) ∧ Below w9.heap.size w9 w') := Lib.hid (by
                refine (xhead_any _ g _ _ _ _ _ _ _ w9 X9.out HFL.out).mono ?_
                rintro e w' ⟨⟨h1, rfl⟩ | ⟨h1, A', n', c', rfl, ho⟩, hb⟩
                · cases hfr : tfr
                  · exact ⟨zeroM, rfl, ⟨rfl, by simp [zeroM, Value.oneCell']⟩, (fun h => by cases h), hb⟩
                  · have := K4.out.2 hfr; omega
                · have hfr : tfr = true := K4.out.1 (by omega)
                  obtain ⟨e1, e2⟩ := K5.out hfr
                  refine ⟨_, by rw [hfr], msgC_right _ _ _ _ _ _ _, fun _ => ⟨A', n', c', none, 0, 0, by rw [← e1], ?_, World.ownsRow_nil _ _ _ _⟩, hb⟩
                  rw [← e2]
                  exact own_low ho (Nat.zero_le _))
              have FEW : Hid (tfr = true → tf.length ≤ 1000000) := Lib.hid (fun h => by have h1 := (K5.out h).2; have h2 := HFL.out; rw [h1] at h2; omega)
              go_upto_region 41 with (first
                | (go_at_call 19; (with_reducible refine HD.out.mono ?_); rintro e w10 ⟨Ch, rfl, hch, hmh, hb10⟩; have B10 := Lib.hid (below_step B9.out hb10); have HCh := Lib.hid hch; have MH10 := Lib.hid hmh; have Rz10 := Lib.hid (Rz9.out.below hb10 Rz9.out.lt); have MC10 := Lib.hid (MC9.out.below hb10); have OW10 := Lib.hid (own_below OW9.out hb10); have Rb10 := Lib.hid (Rb9.out.below hb10 Rb9.out.lt); have Ry10 := Lib.hid (Ry9.out.below hb10 Ry9.out.lt); have X10 := Lib.hid (X9.out.below hb10); have SZ10 := Lib.hid (Nat.le_trans SZ9.out hb10.size); clear hch hmh hb10)
                | (refine wpList_store_row rfl 27 _ _ rfl w10.heap.size _ Ch zeroM rfl rfl (RowAt.new w10 27 _) (by rw [HCh.out.1]; rfl) (GI.out _ HCh.out) HCh.out.2 ?_; intro w11 hro hoo; have hb11 := hoo.below ((Below.refl w10.heap.size w10).alloc (Nat.le_refl _) _) (Nat.le_refl _); have B11 := Lib.hid (below_step B10.out hb11); have MH11 := Lib.hid (fun h => (MH10.out h).below hb11); have Rz11 := Lib.hid (Rz10.out.below hb11 Rz10.out.lt); have MC11 := Lib.hid (MC10.out.below hb11); have OW11 := Lib.hid (own_below OW10.out hb11); have Rb11 := Lib.hid (Rb10.out.below hb11 Rb10.out.lt); have Ry11 := Lib.hid (Ry10.out.below hb11 Ry10.out.lt); have X11 := Lib.hid (X10.out.below hb11); have SZ11 := Lib.hid (Nat.le_trans SZ10.out hb11.size); have RH11 := Lib.hid hro; clear hro hoo hb11))
              have gz8 : gz < w10.heap.size := Rz10.out.lt
              have yl8 : y < w10.heap.size := Ry10.out.lt
              have wl8 : w.heap.size < w10.heap.size := Rb10.out.lt
              have hne1 : ¬ gz = w10.heap.size := by omega
              have hne2 : ¬ y = w10.heap.size := by omega
              have hne3 : ¬ w.heap.size = w10.heap.size := by omega
              have HNE := Lib.hid (And.intro hne1 (And.intro hne2 (And.intro hne3 (Nat.le_of_lt wl8))))
              have d6 := RH11.out.cell (j := 6) (List.getElem?_eq_getElem (by rw [HCh.out.1]; decide))
              have f6 := RH11.out.frozen (j := 6) (by rw [HCh.out.1]; decide)
              clear gz8 yl8 wl8 hne1 hne2 hne3 B10 MH10 Rz10 MC10 OW10 Rb10 Ry10 X10 SZ10 B9 Rz9 MC9 OW9 Rb9 Ry9 X9 SZ9 HD
              go_upto_region 42 with fail
              obtain ⟨gh, hgh⟩ : ∃ x, w10.heap.size = x := ⟨_, rfl⟩
              rw [hgh] at RH11 HNE d6 f6 ⊢
              obtain ⟨w12, hw12⟩ : ∃ W : World, w11.setCell ⟨gh, 6, none⟩ (.slice A7 O2 c7) = W := ⟨_, rfl⟩
              rw [hw12]
              have ho12 : Only gh w11 w12 := by rw [← hw12]; exact Only.setCell gh 6 w11 _
              have RH12 : Hid (RowAt w12 gh 27 (Ch.set 6 (.slice A7 O2 c7))) := Lib.hid (by rw [← hw12]; exact RH11.out.set_ (by rw [HCh.out.1]; decide) _)
              have Rz12 : Hid (RowAt w12 gz 27 C8) := Lib.hid (by rw [← hw12]; exact Rz11.out.far HNE.out.1 _)
              have Ry12 : Hid (RowAt w12 y 27 C) := Lib.hid (by rw [← hw12]; exact Ry11.out.far HNE.out.2.1 _)
              have Rb12 : Hid (RowAt w12 w.heap.size 40 [.string Hm, .slice AI nI cI, .slice AS nS cS, .bool cl]) := Lib.hid (by rw [← hw12]; exact Rb11.out.far HNE.out.2.2.1 _)
              have B12 : Hid (Below w.heap.size w w12) := Lib.hid (by rw [← hw12]; exact B11.out.setCell HNE.out.2.2.2 _)
              have MC12 := Lib.hid (MC11.out.only ho12 RH11.out)
              have OW12 := Lib.hid (own_only_ty OW11.out ho12 RH11.out (by decide))
              have X12 := Lib.hid (X11.out.only ho12 RH11.out (by decide))
              have SZ12 : Hid (wa.heap.size ≤ w12.heap.size) := Lib.hid (by rw [ho12.size]; exact SZ11.out)
              have MH12 : Hid (tfr = true → MsgO w12 ⟨ts, tf, tbd⟩ (Ch.set 6 (.slice A7 O2 c7))) := Lib.hid (fun h => by
                obtain ⟨A', n', c', A2, n2, c2, e, h1, -⟩ := (MH11.out h).only ho12 RH11.out
                refine ⟨A', n', c', A7, O2, c7, by rw [e]; rfl, h1, ?_⟩
                rw [← K6.out]
                exact own_low OW12.out (Nat.zero_le _))
              have z6 : Hid ((Ch.set 6 (.slice A7 O2 c7)).length = 7) := Lib.hid (by rw [List.length_set]; exact HCh.out.1)
              obtain ⟨CH, hCH⟩ : ∃ x, Ch.set 6 (.slice A7 O2 c7) = x := ⟨_, rfl⟩
              rw [hCH] at RH12 MH12 z6
              have HiH : Hid ((Tryz.prog.info? 27).map (·.size) = some CH.length) := Lib.hid (by rw [z6.out]; exact HMi.out)
              have HiZ := Lib.hid (GI.out _ MC12.out.right)
              have dn := xdone_any _ g _ _ _ _ _ _ _ w12 X12.out
              rw [K2.out] at dn
              have DN := Lib.hid dn
              obtain ⟨wl, hwl⟩ : ∃ x, ((L.take k).drop (p1 + t1)).length = x := ⟨_, rfl⟩
              have HWL : Hid (wl = k - nn ∧ nn ≤ k ∧ k ≤ 4000) := Lib.hid (by rw [← hwl, List.length_drop, List.length_take, HNK.out]; have := HPK.out; have := HLl.out; have := HKN.out; omega)
              have hsub : IntKind.i64.wrap ((k : Int) - (nn : Int)) = (wl : Int) := by have := HWL.out; rw [IntWalk.i64_in _ ⟨by omega, by omega⟩]; omega
              have WT := Lib.hid (fun (W : World) (h : Below w12.heap.size w12 W) => xwait_any _ g _ _ _ _ _ _ _ W (X12.out.below h))
              simp only [hwl] at WT
              clear hwl dn ho12 hw12 hCH d6 f6 RH11 Rz11 MC11 OW11 Rb11 Ry11 X11 SZ11 B11 MH11
              have hadd : IntKind.i64.wrap ((i : Int) + 1) = ((i + 1 : Nat) : Int) := by rw [IntWalk.i64_in _ ⟨by omega, by have := Hz.out; omega⟩]; rfl
              cases tfr
              · cases tov
                · go_wp2_with (first
                    | (go_at_call 20; (with_reducible refine DN.out.mono ?_); rintro e wd ⟨rfl, hwd⟩; subst hwd)
                    | (go_at_call 22; (with_reducible refine (WT.out w12 (Below.refl _ _)).mono ?_); rintro e wd ⟨rfl, hwd⟩; subst hwd))
                  go_roundw
                  case rel =>
                    have e : (i + 1 ≤ nI → cb = false) := fun h => by have := HCB.out; rw [decide_eq_false (by omega), Bool.false_and] at this; exact this.symm
                    exact ⟨O1, k, i + 1, p1, t1, 0, r1, q4, cb, by first | rfl | go_num, by first | rfl | go_num, by first | rfl | go_num, HKN.out, by have := HI.out; omega, e, own_count OW12.out HO2.out.symm, X12.out, XIi.out, RIi.out, HF0.out, HFL.out, HOL.out, HOF7.out, B12.out, Rb12.out, Ry12.out, SZ12.out⟩
                  case measure => simp [intOf]; have := HI.out; omega
                · go_wp2_with (first
                    | (go_at_call 20; (with_reducible refine DN.out.mono ?_); rintro e wd ⟨rfl, hwd⟩; subst hwd)
                    | (go_at_call 22; (with_reducible refine (WT.out w12 (Below.refl _ _)).mono ?_); rintro e wd ⟨rfl, hwd⟩; subst hwd))
                  go_roundw
                  case rel =>
                    have e : (i + 1 ≤ nI → cb = false) := fun h => by have := HCB.out; rw [decide_eq_false (by omega), Bool.false_and] at this; exact this.symm
                    exact ⟨O1, k, i + 1, p1, t1, 0, r1, q4, cb, by first | rfl | go_num, by first | rfl | go_num, by first | rfl | go_num, HKN.out, by have := HI.out; omega, e, own_count OW12.out HO2.out.symm, X12.out, XIi.out, RIi.out, HF0.out, HFL.out, HOL.out, HOF7.out, B12.out, Rb12.out, Ry12.out, SZ12.out⟩
                  case measure => simp [intOf]; have := HI.out; omega
              · have SM := Lib.hid (MsgO.same (FEW.out rfl) (MH12.out rfl) MC12.out)
                cases tov
                · go_wp2_with (first
                    | (go_at_call 20; (with_reducible refine DN.out.mono ?_); rintro e wd ⟨rfl, hwd⟩; subst hwd)
                    | (refine wpList_load_g (by first | exact wanted_un rfl | exact wanted_yes rfl rfl rfl rfl | exact (wanted_is rfl rfl rfl rfl).trans (by simp; omega) | exact (wanted_is rfl rfl rfl rfl).trans (by simp)) 27 _ rfl gh 0 rfl CH _ (rangeOf RH12.out) Tryz.underlying27 rfl HiH.out ?_)
                    | (refine wpList_load_g (by first | exact wanted_un rfl | exact wanted_yes rfl rfl rfl rfl | exact (wanted_is rfl rfl rfl rfl).trans (by simp; omega) | exact (wanted_is rfl rfl rfl rfl).trans (by simp)) 27 _ rfl gz 0 rfl C8 _ (rangeOf Rz12.out) Tryz.underlying27 rfl HiZ.out ?_)
                    | (go_at_call 21; (with_reducible refine SM.out.mono ?_); rintro e w13 ⟨rfl, hb13⟩; have BB := Lib.hid hb13; clear hb13)
                    | (go_at_call 22; (with_reducible refine (WT.out w13 BB.out).mono ?_); rintro e wd ⟨rfl, hwd⟩; subst hwd))
                  go_roundw
                  case rel =>
                    have B13 := below_step B12.out BB.out
                    have e : (i + 1 ≤ nI → cb = false) := fun h => by have := HCB.out; rw [decide_eq_false (by omega), Bool.false_and] at this; exact this.symm
                    exact ⟨O1, k, i + 1, p1, t1, 0, r1, q4, cb, by first | rfl | go_num, by first | rfl | go_num, by first | rfl | go_num, HKN.out, by have := HI.out; omega, e, own_count (own_below OW12.out BB.out) HO2.out.symm, X12.out.below BB.out, XIi.out, RIi.out, HF0.out, HFL.out, HOL.out, HOF7.out, B13, Rb12.out.below BB.out Rb12.out.lt, Ry12.out.below BB.out Ry12.out.lt, Nat.le_trans SZ12.out BB.out.size⟩
                  case measure => simp [intOf]; have := HI.out; omega
                · go_wp2_with (first
                    | (go_at_call 20; (with_reducible refine DN.out.mono ?_); rintro e wd ⟨rfl, hwd⟩; subst hwd)
                    | (refine wpList_load_g (by first | exact wanted_un rfl | exact wanted_yes rfl rfl rfl rfl | exact (wanted_is rfl rfl rfl rfl).trans (by simp; omega) | exact (wanted_is rfl rfl rfl rfl).trans (by simp)) 27 _ rfl gh 0 rfl CH _ (rangeOf RH12.out) Tryz.underlying27 rfl HiH.out ?_)
                    | (refine wpList_load_g (by first | exact wanted_un rfl | exact wanted_yes rfl rfl rfl rfl | exact (wanted_is rfl rfl rfl rfl).trans (by simp; omega) | exact (wanted_is rfl rfl rfl rfl).trans (by simp)) 27 _ rfl gz 0 rfl C8 _ (rangeOf Rz12.out) Tryz.underlying27 rfl HiZ.out ?_)
                    | (go_at_call 21; (with_reducible refine SM.out.mono ?_); rintro e w13 ⟨rfl, hb13⟩; have BB := Lib.hid hb13; clear hb13)
                    | (go_at_call 22; (with_reducible refine (WT.out w13 BB.out).mono ?_); rintro e wd ⟨rfl, hwd⟩; subst hwd))
                  go_roundw
                  case rel =>
                    have B13 := below_step B12.out BB.out
                    have e : (i + 1 ≤ nI → cb = false) := fun h => by have := HCB.out; rw [decide_eq_false (by omega), Bool.false_and] at this; exact this.symm
                    exact ⟨O1, k, i + 1, p1, t1, 0, r1, q4, cb, by first | rfl | go_num, by first | rfl | go_num, by first | rfl | go_num, HKN.out, by have := HI.out; omega, e, own_count (own_below OW12.out BB.out) HO2.out.symm, X12.out.below BB.out, XIi.out, RIi.out, HF0.out, HFL.out, HOL.out, HOF7.out, B13, Rb12.out.below BB.out Rb12.out.lt, Ry12.out.below BB.out Ry12.out.lt, Nat.le_trans SZ12.out BB.out.size⟩
                  case measure => simp [intOf]; have := HI.out; omega
            · have hf11 : f = 11 := by rw [hfv.out, hz]; rfl
              subst hf11
              clear hz hfv
              go_wp2_with fail
              go_ret
              exact ⟨by first | rfl | simp, B9.out⟩
        · obtain ⟨-, rfl, p2, t2, r2, hx2, hxi2, hri2, hf2, hfl2, hp2, hl2⟩ | ⟨h, -⟩ := NX7.out
          · have hjw : IntKind.i64.wrap ((j : Int) + 1) = ((j + 1 : Nat) : Int) := by rw [IntWalk.i64_in _ ⟨by omega, by omega⟩]; rfl
            have HX2 := Lib.hid (And.intro hx2 (And.intro hxi2 (And.intro hri2 (And.intro hf2 (And.intro hfl2 (And.intro hp2 hl2))))))
            clear hx2 hxi2 hri2 hf2 hfl2 hp2 hl2
            go_wp2_with fail
            go_roundw
            case rel =>
              obtain ⟨hx2, hxi2, hri2, hf2, hfl2, hp2, hl2⟩ := HX2.out
              refine ⟨O1 ++ X, p2, t2, j + 1, 0, r2, by first | rfl | go_num, rfl, by have := HPK.out; omega, own_count OW7.out (by rw [List.length_append, HXe.out]), hx2, hxi2, hri2, hf2, hfl2, by rw [List.length_append]; have := HOL.out; omega, HOF7.out, B7.out, Rb7.out, Ry7.out, SZ7.out⟩
            case measure => simp [intOf]; omega
          · cases h
    · have hiI : ¬ ((i : Int) ≤ (nI : Int)) := by omega
      go_wp2_with fail
      go_ret
      exact ⟨rfl, Bq.out⟩
theorem reqSta_b (M : ByteArray) (hM : M.size ≤ 30) : StaB (reqSta M) := ⟨by show M.data.toList.length ≤ _; rw [data_len]; omega, by simp [reqSta], by simp [reqSta, Sta.zero], by simp [reqSta, Sta.zero], by simp [reqSta]⟩
theorem getFld_b : FldB getFld 1 := ⟨by decide, by intro f hf; simp only [getFld, List.mem_singleton] at hf; subst hf; decide, by decide⟩
theorem otakes_walk (w : World) (hsh : w.ShapedOpen Tryz.prog) (A : Option Addr) (n c : Nat) (L : List UInt8) (hin : SliceIn w w.heap.size 1 A n c (bytesV L)) (Hm : ByteArray) (AI : Option Addr) (nI cI : Nat) (K : List UInt8) (AS : Option Addr) (nS cS : Nat) (KS : List UInt8) (cl : Bool) (hki : SliceIn w w.heap.size 1 AI nI cI (bytesV K)) (hks : SliceIn w w.heap.size 1 AS nS cS (bytesV KS)) (_ : Hm.size ≤ maxLen) :
    Calls Tryz.prog 4 #[.slice A n c, .agg #[.string Hm, .slice AI nI cI, .slice AS nS cS, .bool cl]] w fun e w' => e = .returned (.bool true) ∧ Below w.heap.size w w' := by
  by_cases hfar : 4000 < n ∨ 60 < nI ∨ 60 < nS ∨ 30 < Hm.size
  · exact otakes_far A n c Hm AI nI cI AS nS cS cl w hsh hfar
  · have h1 : n ≤ 4000 := by omega
    have h2 : nI ≤ 60 := by omega
    have h3 : nS ≤ 60 := by omega
    have h4 : Hm.size ≤ 30 := by omega
    obtain ⟨M, hM, hMs⟩ : ∃ M : ByteArray, ((Hm = ⟨#[]⟩ → M = ⟨#[71, 69, 84]⟩) ∧ (Hm ≠ ⟨#[]⟩ → M = Hm)) ∧ M.size ≤ 30 := by
      by_cases h : Hm = ⟨#[]⟩
      · exact ⟨⟨#[71, 69, 84]⟩, ⟨fun _ => rfl, fun h' => absurd h h'⟩, by decide⟩
      · exact ⟨Hm, ⟨fun h' => absurd h' h, fun _ => rfl⟩, h4⟩
    have hB := reqSta_b M hMs
    have hp : (printS (reqSta M)).length ≤ 6000 := prS_len (by show M.data.toList.length ≤ _; rw [data_len]; omega) (by simp [reqSta]) (by simp [reqSta, Sta.zero])
    have hC := fun b => msgC_right (reqSta M) (some ⟨b, 0, none⟩) none 1 1 0 0
    have RR := fun (W : World) (b : Nat) (hs : SliceIn W W.heap.size 2 (some ⟨b, 0, none⟩) 1 1 (fldsV getFld)) => rright8_any (reqSta M) hB.sta getFld [] (some ⟨b, 0, none⟩) none 1 0 1 0 ⟨#[]⟩ W hs (SliceIn.none_ (Nat.zero_le _)) (by decide) getFld_b getFld_b.f
    have PC := fun (W : World) (b : Nat) (hs : SliceIn W W.heap.size 2 (some ⟨b, 0, none⟩) 1 1 (fldsV getFld)) => mprint_any (reqSta M) hB (by simp [reqSta, Sta.zero]) (by simp [reqSta]) getFld [] (some ⟨b, 0, none⟩) none 1 0 1 0 ⟨#[]⟩ W hs (SliceIn.none_ (Nat.zero_le _)) getFld_b (by omega) (by decide) (Nat.zero_le _)
    cases hra : rightM ⟨reqSta M, getFld, []⟩ (⟨#[]⟩ : ByteArray).data.toList with
    | false =>
      simp only [hra] at RR PC
      refine otakes_bad A n c L Hm AI nI cI K AS nS cS KS cl M w hsh hin hki hks h1 h2 h3 h4 hM hMs (fun W b hs => onew_bad _ (hC b) W (fun W' hW' => (PC W' b ((hs.below hW').more hW'.size)).mono ?_)) RR
      rintro x w' ⟨h | h, hb⟩
      · exact ⟨h.2, hb⟩
      · cases h.1
    | true =>
      simp only [hra] at RR PC
      refine otakes_good A n c L Hm AI nI cI K AS nS cS KS cl M w hsh hin hki hks h1 h2 h3 h4 hM hMs (fun W b hs => ?_) RR
      refine (xnew_ok (reqC M b) (hC b) M (by rw [reqC_eq]; rfl) (by rw [reqC_eq]; rfl) (printM ⟨reqSta M, getFld, []⟩ (⟨#[]⟩ : ByteArray).data.toList) W (fun W' hW' => (PC W' b ((hs.below hW').more hW'.size)).mono ?_)).mono ?_
      · rintro x w' ⟨h | h, hb⟩
        · cases h.1
        · exact ⟨h.2, hb⟩
      · rintro x w' ⟨⟨g, A', c', rfl, hx, -, hg, -⟩, hb⟩
        exact ⟨⟨g, _, rfl, hx, hg⟩, hb⟩
end Go.Proofs.YtniiadhhefgmcaaGreatDoor
