/- Sm: several texts, one behind the other. -/
import Derived.Test.YtniiadhhefgmcaaGreatDoorTe
import Derived.Test.YtniiadhhefgmcaaGreatDoorKt
import Derived.Test.YtniiadhhefgmcaaGreatDoorPr
import Derived.Test.YtniiadhhefgmcaaGreatDoorOp
import Derived.Test.YtniiadhhefgmcaaGreatDoorOc
/- Layer 8's laws: is a message not too great (icehouselaw08.small). Condition: the message's own. -/
namespace Go.Proofs.YtniiadhhefgmcaaGreatDoor
open Go.RowKit IH
set_option maxRecDepth 100000
structure SmallM (s : Sta) (L : List Fld) (X : List UInt8) (m : Nat) : Prop where
  me : s.method.length ≤ 100
  ta : s.target.length ≤ 2000
  re : s.reason.length ≤ 500
  fn : L.length ≤ 140
  bo : X.length ≤ 3000
  mm : m ≤ 100
  fs : ∀ f ∈ L, f.1.length ≤ 200 ∧ f.2.length ≤ 500
end Go.Proofs.YtniiadhhefgmcaaGreatDoor

/- What a message that is not too great is within: its print is short, its lists are few. Condition: the message's own. -/
namespace Go.Proofs.YtniiadhhefgmcaaGreatDoor
open Go.RowKit IH
section
variable {s : Sta} {L : List Fld} {X : List UInt8} {m : Nat}
theorem SmallM.sizeF (h : SmallM s L X m) : sizeL L ≤ 140562 := by
  have h1 := sizeL_bd 500 L (fun f hf => ⟨by have := (h.fs f hf).1; omega, (h.fs f hf).2⟩)
  have h2 : L.length * (2 * 500 + 4) ≤ 140 * 1004 := Nat.mul_le_mul h.fn (Nat.le_refl _)
  omega
theorem SmallM.fldB (h : SmallM s L X m) : FldB L L.length :=
  ⟨by have := h.fn; omega, fun f hf => ⟨by have := (h.fs f hf).1; omega, by have := (h.fs f hf).2; omega⟩, by have := h.sizeF; omega⟩
theorem SmallM.smallF (h : SmallM s L X m) : smallF 1000000000 L := h.fldB.f
theorem SmallM.prS (h : SmallM s L X m) : (printS s).length ≤ 3000 := by
  have h1 := pN_len s.minor
  have h2 := pN_len s.status
  have h3 := h.me
  have h4 := h.ta
  have h5 := h.re
  have h6 : http1.length ≤ 100 := by decide
  unfold printS
  split <;> simp only [List.length_append, List.length_cons, List.length_nil] <;> omega
theorem SmallM.print (h : SmallM s L X m) (M : List UInt8) : (printM ⟨s, L, X⟩ M).length ≤ 200000 := by
  have h1 := h.prS
  have h2 := h.sizeF
  have h3 := printL_size L
  have h4 := h.bo
  have h5 := encL_len8 [X] (fun p hp => by rw [List.mem_singleton.1 hp]; omega)
  have h6 : IH.total [X] = X.length := by simp [IH.total]
  unfold printM
  simp only [List.length_append]
  simp only [List.length_cons, List.length_nil] at h5
  split <;> omega
end
end Go.Proofs.YtniiadhhefgmcaaGreatDoor

/- Layer 23's laws: OriginSends, walked. Condition: the world's shape. Printed by mklaw23a.py. -/
namespace Go.Proofs.YtniiadhhefgmcaaGreatDoor
open Go.RowKit IH
set_option maxRecDepth 100000
structure ShortM (L : List Fld) (n : Nat) : Prop where
  l : L.length ≤ 40
  n : n ≤ 2000
  f : ∀ f ∈ L, f.1.length ≤ 300 ∧ f.2.length ≤ 500
theorem shortM_is {L : List Fld} {n : Nat} (h : shortM L n = true) : ShortM L n := by
  simp only [shortM, Bool.and_eq_true, List.all_eq_true, decide_eq_true_eq] at h
  exact ⟨h.1, h.2.1, fun f hf => h.2.2 f hf⟩
section
variable {L : List Fld} {X : List UInt8} {s : Sta}
theorem ShortM.sizeF {n : Nat} (h : ShortM L n) : sizeL L ≤ 40162 := by
  have h1 := sizeL_bd 500 L (fun f hf => ⟨by have := (h.f f hf).1; omega, (h.f f hf).2⟩)
  have h2 : L.length * (2 * 500 + 4) ≤ 40 * 1004 := Nat.mul_le_mul h.l (Nat.le_refl _)
  omega
theorem ShortM.fldB {n : Nat} (h : ShortM L n) : FldB L L.length :=
  ⟨by have := h.l; omega, fun f hf => ⟨by have := (h.f f hf).1; omega, by have := (h.f f hf).2; omega⟩, by have := h.sizeF; omega⟩
theorem prS_len (hm : s.method.length ≤ 1000) (ht : s.target.length ≤ 3000) (hr : s.reason.length ≤ 1000) : (printS s).length ≤ 6000 := by
  have h1 := pN_len s.minor
  have h2 := pN_len s.status
  have h6 : http1.length ≤ 100 := by decide
  unfold printS
  split <;> simp only [List.length_append, List.length_cons, List.length_nil] <;> omega
theorem prM_len (hs : (printS s).length ≤ 6000) (hL : sizeL L ≤ 100000) (hX : X.length ≤ 3000) (M : List UInt8) : (printM ⟨s, L, X⟩ M).length ≤ 200000 := by
  have h3 := printL_size L
  have h5 := encL_len8 [X] (fun p hp => by rw [List.mem_singleton.1 hp]; omega)
  have h6 : IH.total [X] = X.length := by simp [IH.total]
  unfold printM
  simp only [List.length_append]
  simp only [List.length_cons, List.length_nil] at h5
  split <;> omega
end

set_option maxHeartbeats 16000000 in
theorem osends_far (C : List Value) (hC : RightC C) (Sm St Sr : ByteArray) (st : Int) (A1 A2 : Option Addr) (n1 n2 c1 c2 : Nat) (h0 : C[0]? = some (.string Sm)) (h1 : C[1]? = some (.string St)) (h2 : C[2]? = some (.int .i64 st)) (h3 : C[3]? = some (.string Sr)) (h5 : C[5]? = some (.slice A1 n1 c1)) (h6 : C[6]? = some (.slice A2 n2 c2)) (A : Option Addr) (n c : Nat) (sh : Bool) (w : World) (h : sh = false ∨ 100 < Sm.size ∨ 2000 < St.size ∨ 300 < Sr.size ∨ 100 < n)
    (AW : ∀ W, Below w.heap.size w W → Calls Tryz.prog 8 #[] W fun e w' => e = .returned (.bool true) ∧ Below W.heap.size W w')
    (SH : ∀ W, Below w.heap.size w W → Calls Tryz.prog 9 #[.slice A1 n1 c1, .slice A2 n2 c2] W fun e w' => e = .returned (.bool sh) ∧ W = w') :
    Calls Tryz.prog 3 #[.agg C.toArray, .slice A n c] w fun e w' => e = .returned (.bool true) ∧ Below w.heap.size w w' := by
  have HMi : Hid ((Tryz.prog.info? 27).map (·.size) = some 7) := Lib.hid (by kernel_rfl)
  obtain ⟨w1, hw1⟩ : ∃ W : World, w.alloc (.cells C.toArray 27) = W := ⟨_, rfl⟩
  have B1 : Hid (Below w.heap.size w w1) := Lib.hid (by rw [← hw1]; exact (Below.refl _ _).alloc (Nat.le_refl _) _)
  have Ra1 : Hid (RowAt w1 w.heap.size 27 C) := Lib.hid (by rw [← hw1]; exact RowAt.new w 27 C)
  have HCi : Hid ((Tryz.prog.info? 27).map (·.size) = some C.length) := Lib.hid (by rw [hC.1]; exact HMi.out)
  have C7 := Lib.hid hC.1
  have Hc := Lib.hid (And.intro h0 (And.intro h1 (And.intro h2 (And.intro h3 (And.intro h5 h6)))))
  have tok1 : Hid True := Lib.hid trivial
  replace AW := Lib.hid AW
  replace SH := Lib.hid SH
  clear hC h0 h1 h2 h3 h5 h6
  cases sh
  · clear h
    go_enter Tryz.func3, Tryz.ntmps3
    go_wp2_with (first
      | (have _t := tok1; go_at_call 8; (with_reducible refine (AW.out _ B1.out).mono ?_); rintro e w2 ⟨rfl, hb2⟩; have B2 := Lib.hid (below_step B1.out hb2); have Ra2 := Lib.hid (Ra1.out.below hb2 Ra1.out.lt); have x0 := Ra2.out.cell Hc.out.1; have x1 := Ra2.out.cell Hc.out.2.1; have x2 := Ra2.out.cell Hc.out.2.2.1; have x3 := Ra2.out.cell Hc.out.2.2.2.1; have x5 := Ra2.out.cell Hc.out.2.2.2.2.1; have x6 := Ra2.out.cell Hc.out.2.2.2.2.2; have SH2 := Lib.hid (SH.out _ B2.out); have tok2 : Hid True := Lib.hid trivial; clear hb2 tok1 _t)
      | (go_at_call 9; (with_reducible refine SH2.out.mono ?_); rintro e ws ⟨rfl, rfl⟩)
      | (have _t := tok2; go_at_call 8; (with_reducible refine (AW.out _ B2.out).mono ?_); rintro e w3 ⟨rfl, hb3⟩; have B3 := Lib.hid (below_step B2.out hb3); clear hb3 tok2 _t))
    go_ret
    exact ⟨rfl, B3.out⟩
  · by_cases hA : (100 : Int) < (Sm.size : Int)
    · clear h
      go_enter Tryz.func3, Tryz.ntmps3
      go_wp2_with (first
        | (have _t := tok1; go_at_call 8; (with_reducible refine (AW.out _ B1.out).mono ?_); rintro e w2 ⟨rfl, hb2⟩; have B2 := Lib.hid (below_step B1.out hb2); have Ra2 := Lib.hid (Ra1.out.below hb2 Ra1.out.lt); have x0 := Ra2.out.cell Hc.out.1; have x1 := Ra2.out.cell Hc.out.2.1; have x2 := Ra2.out.cell Hc.out.2.2.1; have x3 := Ra2.out.cell Hc.out.2.2.2.1; have x5 := Ra2.out.cell Hc.out.2.2.2.2.1; have x6 := Ra2.out.cell Hc.out.2.2.2.2.2; have SH2 := Lib.hid (SH.out _ B2.out); have tok2 : Hid True := Lib.hid trivial; clear hb2 tok1 _t)
        | (go_at_call 9; (with_reducible refine SH2.out.mono ?_); rintro e ws ⟨rfl, rfl⟩)
        | (have _t := tok2; go_at_call 8; (with_reducible refine (AW.out _ B2.out).mono ?_); rintro e w3 ⟨rfl, hb3⟩; have B3 := Lib.hid (below_step B2.out hb3); clear hb3 tok2 _t))
      go_ret
      exact ⟨rfl, B3.out⟩
    · by_cases hB : (2000 : Int) < (St.size : Int)
      · clear h
        go_enter Tryz.func3, Tryz.ntmps3
        go_wp2_with (first
          | (have _t := tok1; go_at_call 8; (with_reducible refine (AW.out _ B1.out).mono ?_); rintro e w2 ⟨rfl, hb2⟩; have B2 := Lib.hid (below_step B1.out hb2); have Ra2 := Lib.hid (Ra1.out.below hb2 Ra1.out.lt); have x0 := Ra2.out.cell Hc.out.1; have x1 := Ra2.out.cell Hc.out.2.1; have x2 := Ra2.out.cell Hc.out.2.2.1; have x3 := Ra2.out.cell Hc.out.2.2.2.1; have x5 := Ra2.out.cell Hc.out.2.2.2.2.1; have x6 := Ra2.out.cell Hc.out.2.2.2.2.2; have SH2 := Lib.hid (SH.out _ B2.out); have tok2 : Hid True := Lib.hid trivial; clear hb2 tok1 _t)
          | (go_at_call 9; (with_reducible refine SH2.out.mono ?_); rintro e ws ⟨rfl, rfl⟩)
          | (have _t := tok2; go_at_call 8; (with_reducible refine (AW.out _ B2.out).mono ?_); rintro e w3 ⟨rfl, hb3⟩; have B3 := Lib.hid (below_step B2.out hb3); clear hb3 tok2 _t))
        go_ret
        exact ⟨rfl, B3.out⟩
      · by_cases hD : (300 : Int) < (Sr.size : Int)
        · clear h
          go_enter Tryz.func3, Tryz.ntmps3
          go_wp2_with (first
            | (have _t := tok1; go_at_call 8; (with_reducible refine (AW.out _ B1.out).mono ?_); rintro e w2 ⟨rfl, hb2⟩; have B2 := Lib.hid (below_step B1.out hb2); have Ra2 := Lib.hid (Ra1.out.below hb2 Ra1.out.lt); have x0 := Ra2.out.cell Hc.out.1; have x1 := Ra2.out.cell Hc.out.2.1; have x2 := Ra2.out.cell Hc.out.2.2.1; have x3 := Ra2.out.cell Hc.out.2.2.2.1; have x5 := Ra2.out.cell Hc.out.2.2.2.2.1; have x6 := Ra2.out.cell Hc.out.2.2.2.2.2; have SH2 := Lib.hid (SH.out _ B2.out); have tok2 : Hid True := Lib.hid trivial; clear hb2 tok1 _t)
            | (go_at_call 9; (with_reducible refine SH2.out.mono ?_); rintro e ws ⟨rfl, rfl⟩)
            | (have _t := tok2; go_at_call 8; (with_reducible refine (AW.out _ B2.out).mono ?_); rintro e w3 ⟨rfl, hb3⟩; have B3 := Lib.hid (below_step B2.out hb3); clear hb3 tok2 _t))
          go_ret
          exact ⟨rfl, B3.out⟩
        · have hE : (100 : Int) < (n : Int) := by rcases h with h | h | h | h | h <;> first | omega | cases h
          clear h
          go_enter Tryz.func3, Tryz.ntmps3
          go_wp2_with (first
            | (have _t := tok1; go_at_call 8; (with_reducible refine (AW.out _ B1.out).mono ?_); rintro e w2 ⟨rfl, hb2⟩; have B2 := Lib.hid (below_step B1.out hb2); have Ra2 := Lib.hid (Ra1.out.below hb2 Ra1.out.lt); have x0 := Ra2.out.cell Hc.out.1; have x1 := Ra2.out.cell Hc.out.2.1; have x2 := Ra2.out.cell Hc.out.2.2.1; have x3 := Ra2.out.cell Hc.out.2.2.2.1; have x5 := Ra2.out.cell Hc.out.2.2.2.2.1; have x6 := Ra2.out.cell Hc.out.2.2.2.2.2; have SH2 := Lib.hid (SH.out _ B2.out); have tok2 : Hid True := Lib.hid trivial; clear hb2 tok1 _t)
            | (go_at_call 9; (with_reducible refine SH2.out.mono ?_); rintro e ws ⟨rfl, rfl⟩)
            | (have _t := tok2; go_at_call 8; (with_reducible refine (AW.out _ B2.out).mono ?_); rintro e w3 ⟨rfl, hb3⟩; have B3 := Lib.hid (below_step B2.out hb3); clear hb3 tok2 _t))
          go_ret
          exact ⟨rfl, B3.out⟩
set_option maxHeartbeats 16000000 in
theorem osends_bad (C : List Value) (hC : RightC C) (Sm St Sr : ByteArray) (st : Int) (A1 A2 : Option Addr) (n1 n2 c1 c2 : Nat) (h0 : C[0]? = some (.string Sm)) (h1 : C[1]? = some (.string St)) (h2 : C[2]? = some (.int .i64 st)) (h3 : C[3]? = some (.string Sr)) (h5 : C[5]? = some (.slice A1 n1 c1)) (h6 : C[6]? = some (.slice A2 n2 c2)) (A : Option Addr) (n c : Nat) (R : Bool) (w : World) (k1 : Sm.size ≤ 100) (k2 : St.size ≤ 2000) (k3 : Sr.size ≤ 300) (k4 : n ≤ 100) (hR : R = false ∨ st ≠ 0)
    (AW : ∀ W, Below w.heap.size w W → Calls Tryz.prog 8 #[] W fun e w' => e = .returned (.bool true) ∧ Below W.heap.size W w')
    (SH : ∀ W, Below w.heap.size w W → Calls Tryz.prog 9 #[.slice A1 n1 c1, .slice A2 n2 c2] W fun e w' => e = .returned (.bool true) ∧ W = w')
    (NW : ∀ W, Below w.heap.size w W → Calls Tryz.prog 10 #[.agg C.toArray] W fun e w' => e = .returned (.tuple #[.pointer none, .int .i64 10]) ∧ Below W.heap.size W w')
    (RI : ∀ W, Below w.heap.size w W → Calls Tryz.prog 11 #[.agg C.toArray, .string ⟨#[]⟩] W fun e w' => e = .returned (.bool R) ∧ Below W.heap.size W w') :
    Calls Tryz.prog 3 #[.agg C.toArray, .slice A n c] w fun e w' => e = .returned (.bool true) ∧ Below w.heap.size w w' := by
  have HMi : Hid ((Tryz.prog.info? 27).map (·.size) = some 7) := Lib.hid (by kernel_rfl)
  obtain ⟨w1, hw1⟩ : ∃ W : World, w.alloc (.cells C.toArray 27) = W := ⟨_, rfl⟩
  have B1 : Hid (Below w.heap.size w w1) := Lib.hid (by rw [← hw1]; exact (Below.refl _ _).alloc (Nat.le_refl _) _)
  have Ra1 : Hid (RowAt w1 w.heap.size 27 C) := Lib.hid (by rw [← hw1]; exact RowAt.new w 27 C)
  have HCi : Hid ((Tryz.prog.info? 27).map (·.size) = some C.length) := Lib.hid (by rw [hC.1]; exact HMi.out)
  have C7 := Lib.hid hC.1
  have Hc := Lib.hid (And.intro h0 (And.intro h1 (And.intro h2 (And.intro h3 (And.intro h5 h6)))))
  have tok1 : Hid True := Lib.hid trivial
  replace AW := Lib.hid AW
  replace SH := Lib.hid SH
  clear hC h0 h1 h2 h3 h5 h6
  have hA : ¬ (100 : Int) < (Sm.size : Int) := by omega
  have hB : ¬ (2000 : Int) < (St.size : Int) := by omega
  have hD : ¬ (300 : Int) < (Sr.size : Int) := by omega
  have hE : ¬ (100 : Int) < (n : Int) := by omega
  replace NW := Lib.hid NW
  replace RI := Lib.hid RI
  clear k1 k2 k3 k4
  cases R
  · clear hR
    go_enter Tryz.func3, Tryz.ntmps3
    go_upto_region 3 with (first
      | (have _t := tok1; go_at_call 8; (with_reducible refine (AW.out _ B1.out).mono ?_); rintro e w2 ⟨rfl, hb2⟩; have B2 := Lib.hid (below_step B1.out hb2); have Ra2 := Lib.hid (Ra1.out.below hb2 Ra1.out.lt); have x0 := Ra2.out.cell Hc.out.1; have x1 := Ra2.out.cell Hc.out.2.1; have x2 := Ra2.out.cell Hc.out.2.2.1; have x3 := Ra2.out.cell Hc.out.2.2.2.1; have x5 := Ra2.out.cell Hc.out.2.2.2.2.1; have x6 := Ra2.out.cell Hc.out.2.2.2.2.2; have SH2 := Lib.hid (SH.out _ B2.out); have tok2 : Hid True := Lib.hid trivial; clear hb2 tok1 _t)
      | (go_at_call 9; (with_reducible refine SH2.out.mono ?_); rintro e ws ⟨rfl, rfl⟩))
    go_wp2_with (first
      | (have _t := tok2; refine wpList_load_g (by first | exact wanted_un rfl | exact wanted_yes rfl rfl rfl rfl | exact (wanted_is rfl rfl rfl rfl).trans (by simp; omega) | exact (wanted_is rfl rfl rfl rfl).trans (by simp)) 27 _ rfl w.heap.size 0 rfl C _ (rangeOf Ra2.out) Tryz.underlying27 rfl HCi.out ?_; clear _t)
      | (have _t := tok2; go_at_call 10; (with_reducible refine (NW.out _ B2.out).mono ?_); rintro e w3 ⟨rfl, hb3⟩; have B3 := Lib.hid (below_step B2.out hb3); have Ra3 := Lib.hid (Ra2.out.below hb3 Ra2.out.lt); clear x0 x1 x2 x3 x5 x6; have x2 := Ra3.out.cell Hc.out.2.2.1; have tok3 : Hid True := Lib.hid trivial; clear hb3 tok2 _t)
      | (have _t := tok3; refine wpList_load_g (by first | exact wanted_un rfl | exact wanted_yes rfl rfl rfl rfl | exact (wanted_is rfl rfl rfl rfl).trans (by simp; omega) | exact (wanted_is rfl rfl rfl rfl).trans (by simp)) 27 _ rfl w.heap.size 0 rfl C _ (rangeOf Ra3.out) Tryz.underlying27 rfl HCi.out ?_; clear _t)
      | (have _t := tok3; go_at_call 11; (with_reducible refine (RI.out _ B3.out).mono ?_); rintro e w4 ⟨rfl, hb4⟩; have B4 := Lib.hid (below_step B3.out hb4); have Ra4 := Lib.hid (Ra3.out.below hb4 Ra3.out.lt); clear x2; have x2 := Ra4.out.cell Hc.out.2.2.1; have tok4 : Hid True := Lib.hid trivial; clear hb4 tok3 _t))
    go_ret
    exact ⟨rfl, B4.out⟩
  · have hst : (st != 0) = true := by rw [bne_iff_ne]; rcases hR with h | h <;> first | exact h | cases h
    clear hR
    go_enter Tryz.func3, Tryz.ntmps3
    go_upto_region 3 with (first
      | (have _t := tok1; go_at_call 8; (with_reducible refine (AW.out _ B1.out).mono ?_); rintro e w2 ⟨rfl, hb2⟩; have B2 := Lib.hid (below_step B1.out hb2); have Ra2 := Lib.hid (Ra1.out.below hb2 Ra1.out.lt); have x0 := Ra2.out.cell Hc.out.1; have x1 := Ra2.out.cell Hc.out.2.1; have x2 := Ra2.out.cell Hc.out.2.2.1; have x3 := Ra2.out.cell Hc.out.2.2.2.1; have x5 := Ra2.out.cell Hc.out.2.2.2.2.1; have x6 := Ra2.out.cell Hc.out.2.2.2.2.2; have SH2 := Lib.hid (SH.out _ B2.out); have tok2 : Hid True := Lib.hid trivial; clear hb2 tok1 _t)
      | (go_at_call 9; (with_reducible refine SH2.out.mono ?_); rintro e ws ⟨rfl, rfl⟩))
    go_wp2_with (first
      | (have _t := tok2; refine wpList_load_g (by first | exact wanted_un rfl | exact wanted_yes rfl rfl rfl rfl | exact (wanted_is rfl rfl rfl rfl).trans (by simp; omega) | exact (wanted_is rfl rfl rfl rfl).trans (by simp)) 27 _ rfl w.heap.size 0 rfl C _ (rangeOf Ra2.out) Tryz.underlying27 rfl HCi.out ?_; clear _t)
      | (have _t := tok2; go_at_call 10; (with_reducible refine (NW.out _ B2.out).mono ?_); rintro e w3 ⟨rfl, hb3⟩; have B3 := Lib.hid (below_step B2.out hb3); have Ra3 := Lib.hid (Ra2.out.below hb3 Ra2.out.lt); clear x0 x1 x2 x3 x5 x6; have x2 := Ra3.out.cell Hc.out.2.2.1; have tok3 : Hid True := Lib.hid trivial; clear hb3 tok2 _t)
      | (have _t := tok3; refine wpList_load_g (by first | exact wanted_un rfl | exact wanted_yes rfl rfl rfl rfl | exact (wanted_is rfl rfl rfl rfl).trans (by simp; omega) | exact (wanted_is rfl rfl rfl rfl).trans (by simp)) 27 _ rfl w.heap.size 0 rfl C _ (rangeOf Ra3.out) Tryz.underlying27 rfl HCi.out ?_; clear _t)
      | (have _t := tok3; go_at_call 11; (with_reducible refine (RI.out _ B3.out).mono ?_); rintro e w4 ⟨rfl, hb4⟩; have B4 := Lib.hid (below_step B3.out hb4); have Ra4 := Lib.hid (Ra3.out.below hb4 Ra3.out.lt); clear x2; have x2 := Ra4.out.cell Hc.out.2.2.1; have tok4 : Hid True := Lib.hid trivial; clear hb4 tok3 _t))
    go_ret
    exact ⟨rfl, B4.out⟩
set_option maxHeartbeats 16000000 in
theorem osends_good (C : List Value) (hC : RightC C) (Sm St Sr : ByteArray) (A1 A2 : Option Addr) (n1 n2 c1 c2 : Nat) (h0 : C[0]? = some (.string Sm)) (h1 : C[1]? = some (.string St)) (h2 : C[2]? = some (.int .i64 0)) (h3 : C[3]? = some (.string Sr)) (h5 : C[5]? = some (.slice A1 n1 c1)) (h6 : C[6]? = some (.slice A2 n2 c2)) (A : Option Addr) (n c : Nat) (Z : List Int) (N : List UInt8) (w : World) (k1 : Sm.size ≤ 100) (k2 : St.size ≤ 2000) (k3 : Sr.size ≤ 300) (k4 : n ≤ 100) (k5 : N.length ≤ 200000) (hin : SliceIn w w.heap.size 1 A n c (Z.map (Value.int .i64))) (hZ : ∀ z ∈ Z, (-9223372036854775808 : Int) ≤ z ∧ z ≤ 9223372036854775807)
    (AW : ∀ W, Below w.heap.size w W → Calls Tryz.prog 8 #[] W fun e w' => e = .returned (.bool true) ∧ Below W.heap.size W w')
    (SH : ∀ W, Below w.heap.size w W → Calls Tryz.prog 9 #[.slice A1 n1 c1, .slice A2 n2 c2] W fun e w' => e = .returned (.bool true) ∧ W = w')
    (NW : ∀ W, Below w.heap.size w W → Calls Tryz.prog 10 #[.agg C.toArray] W fun e w' => (∃ g A c, e = .returned (.tuple #[.pointer (some ⟨g, 0, none⟩), .int .i64 0]) ∧ XAt w' W.heap.size g (.slice A N.length c) Sm false 0 none [] (Rd.new false Sm.data.toList) ∧ QIn w' g A N.length c N ∧ W.heap.size ≤ g ∧ g < w'.heap.size) ∧ Below W.heap.size W w')
    (RI : ∀ W, Below w.heap.size w W → Calls Tryz.prog 11 #[.agg C.toArray, .string ⟨#[]⟩] W fun e w' => e = .returned (.bool true) ∧ Below W.heap.size W w')
    (PR : ∀ W, Below w.heap.size w W → Calls Tryz.prog 13 #[.agg C.toArray, .string ⟨#[]⟩] W fun e w' => e = .returned (.string ⟨N.toArray⟩) ∧ Below W.heap.size W w') :
    Calls Tryz.prog 3 #[.agg C.toArray, .slice A n c] w fun e w' => e = .returned (.bool true) ∧ Below w.heap.size w w' := by
  have HMi : Hid ((Tryz.prog.info? 27).map (·.size) = some 7) := Lib.hid (by kernel_rfl)
  obtain ⟨w1, hw1⟩ : ∃ W : World, w.alloc (.cells C.toArray 27) = W := ⟨_, rfl⟩
  have B1 : Hid (Below w.heap.size w w1) := Lib.hid (by rw [← hw1]; exact (Below.refl _ _).alloc (Nat.le_refl _) _)
  have Ra1 : Hid (RowAt w1 w.heap.size 27 C) := Lib.hid (by rw [← hw1]; exact RowAt.new w 27 C)
  have HCi : Hid ((Tryz.prog.info? 27).map (·.size) = some C.length) := Lib.hid (by rw [hC.1]; exact HMi.out)
  have C7 := Lib.hid hC.1
  have Hc := Lib.hid (And.intro h0 (And.intro h1 (And.intro h2 (And.intro h3 (And.intro h5 h6)))))
  have tok1 : Hid True := Lib.hid trivial
  replace AW := Lib.hid AW
  replace SH := Lib.hid SH
  clear hC h0 h1 h2 h3 h5 h6
  have hA : ¬ (100 : Int) < (Sm.size : Int) := by omega
  have hB : ¬ (2000 : Int) < (St.size : Int) := by omega
  have hD : ¬ (300 : Int) < (Sr.size : Int) := by omega
  have hE : ¬ (100 : Int) < (n : Int) := by omega
  have HN := Lib.hid k5
  have HK4 := Lib.hid k4
  have HIN := Lib.hid hin
  have HZ := Lib.hid hZ
  replace NW := Lib.hid NW
  replace RI := Lib.hid RI
  replace PR := Lib.hid PR
  clear k1 k2 k3 k4 k5 hin hZ
  go_enter Tryz.func3, Tryz.ntmps3
  go_upto_region 3 with (first
    | (have _t := tok1; go_at_call 8; (with_reducible refine (AW.out _ B1.out).mono ?_); rintro e w2 ⟨rfl, hb2⟩; have B2 := Lib.hid (below_step B1.out hb2); have Ra2 := Lib.hid (Ra1.out.below hb2 Ra1.out.lt); have x0 := Ra2.out.cell Hc.out.1; have x1 := Ra2.out.cell Hc.out.2.1; have x2 := Ra2.out.cell Hc.out.2.2.1; have x3 := Ra2.out.cell Hc.out.2.2.2.1; have x5 := Ra2.out.cell Hc.out.2.2.2.2.1; have x6 := Ra2.out.cell Hc.out.2.2.2.2.2; have SH2 := Lib.hid (SH.out _ B2.out); have tok2 : Hid True := Lib.hid trivial; clear hb2 tok1 _t)
    | (go_at_call 9; (with_reducible refine SH2.out.mono ?_); rintro e ws ⟨rfl, rfl⟩))
  go_upto_region 8 with (first
    | (have _t := tok2; refine wpList_load_g (by first | exact wanted_un rfl | exact wanted_yes rfl rfl rfl rfl | exact (wanted_is rfl rfl rfl rfl).trans (by simp; omega) | exact (wanted_is rfl rfl rfl rfl).trans (by simp)) 27 _ rfl w.heap.size 0 rfl C _ (rangeOf Ra2.out) Tryz.underlying27 rfl HCi.out ?_; clear _t)
    | (have _t := tok2; go_at_call 10; (with_reducible refine (NW.out _ B2.out).mono ?_); rintro e w3 ⟨⟨g, Ax, cx, rfl, hx, hq, hg1, hg2⟩, hb3⟩; have B3 := Lib.hid (below_step B2.out hb3); have Ra3 := Lib.hid (Ra2.out.below hb3 Ra2.out.lt); have X3 := Lib.hid (hx.base B2.out.size); have Q3 := Lib.hid hq; have G3 := Lib.hid (Nat.lt_of_lt_of_le Ra2.out.lt hg1); clear x0 x1 x2 x3 x5 x6; have x2 := Ra3.out.cell Hc.out.2.2.1; have tok3 : Hid True := Lib.hid trivial; clear hb3 hx hq hg1 hg2 tok2 _t)
    | (have _t := tok3; refine wpList_load_g (by first | exact wanted_un rfl | exact wanted_yes rfl rfl rfl rfl | exact (wanted_is rfl rfl rfl rfl).trans (by simp; omega) | exact (wanted_is rfl rfl rfl rfl).trans (by simp)) 27 _ rfl w.heap.size 0 rfl C _ (rangeOf Ra3.out) Tryz.underlying27 rfl HCi.out ?_; clear _t)
    | (have _t := tok3; go_at_call 11; (with_reducible refine (RI.out _ B3.out).mono ?_); rintro e w4 ⟨rfl, hb4⟩; have B4 := Lib.hid (below_step B3.out hb4); have Ra4 := Lib.hid (Ra3.out.below hb4 Ra3.out.lt); have X4 := Lib.hid (X3.out.below hb4); have Q4 := Lib.hid (Q3.out.save (below_save hb4)); clear x2; have x2 := Ra4.out.cell Hc.out.2.2.1; have tok4 : Hid True := Lib.hid trivial; clear hb4 tok3 _t))
  clear hA hB hD hE AW SH SH2 NW RI B1 B2 B3 Ra1 Ra2 Ra3 X3 Q3 hw1
  go_wp2_with fail
  go_loopw [7, 8] (fun sv iv wr => ∃ (i T : Nat) (A' : Option Addr) (c' : Nat) (S : ByteArray), sv = .string S ∧ iv = .int .i64 i ∧ i ≤ n ∧ T ≤ N.length ∧ S.data.toList = N.take T ∧ XAt wr w.heap.size g (.slice A' (N.length - T) c') Sm false 0 none [] (Rd.new false Sm.data.toList) ∧ QIn wr g A' (N.length - T) c' (N.drop T) ∧ Below w.heap.size w wr ∧ RowAt wr w.heap.size 27 C) (fun _ iv _ => n - (intOf iv).toNat)
  case atStart => exact ⟨0, 0, Ax, cx, ⟨#[]⟩, rfl, rfl, Nat.zero_le _, Nat.zero_le _, rfl, X4.out, Q4.out, B4.out, Ra4.out⟩
  case round =>
    clear X4 Q4 B4 Ra4 x2
    obtain ⟨wq, hwq⟩ : ∃ x : World, x = wr := ⟨_, rfl⟩
    subst hwq
    obtain ⟨i, T, A', c', S, rfl, rfl, hi, hT, hS, hx, hq, hb, hr⟩ := hrel
    have X := Lib.hid hx
    have Qq := Lib.hid hq
    have B := Lib.hid hb
    have Rq := Lib.hid hr
    have HT := Lib.hid hT
    have HS := Lib.hid hS
    have zS : S.size ≤ 200000 := by rw [← data_len, hS, List.length_take]; have := HN.out; omega
    have hq14 : N.length - T ≤ 140737488355328 := by have := HN.out; omega
    clear hx hq hb hr hT hS
    by_cases hlt : i < n
    · obtain ⟨z, hz⟩ : ∃ z, Z[i]? = some z := ⟨_, List.getElem?_eq_getElem (by have := HIN.out.1; rw [List.length_map] at this; omega)⟩
      have hzb := HZ.out z (List.mem_of_getElem? hz)
      obtain ⟨b, off, rfl, hbk, hc⟩ := HIN.out.2.2.2 (by omega)
      have hcl := hc i (.int .i64 z) (by rw [List.getElem?_map, hz]; rfl)
      have hbk2 : (⟨b, off + i, none⟩ : Addr).block < w.heap.size := hbk
      have y0 := (B.out.cell (p := ⟨b, off + i, none⟩) hbk2).trans hcl
      obtain ⟨k, hk⟩ : ∃ k : Nat, (k : Int) = max 0 (min z ((N.length - T : Nat) : Int)) := ⟨(max 0 (min z ((N.length - T : Nat) : Int))).toNat, by omega⟩
      have hkm : ¬ max z 0 < (k : Int) := by omega
      have hkT : Hid (k ≤ N.length - T) := Lib.hid (by omega)
      have XO := Lib.hid (xout_any _ g _ c' A' _ _ _ _ _ _ _ z k hk wq X.out Qq.out hq14)
      have hilt : (i : Int) < (n : Int) := by omega
      have hadd : IntKind.i64.wrap ((i : Int) + 1) = ((i + 1 : Nat) : Int) := by rw [IntWalk.i64_in _ ⟨by omega, by have := HK4.out; omega⟩]; rfl
      have HCL := Lib.hid hcl
      have HBK := Lib.hid hbk2
      clear hz hc hcl hbk hbk2 hk hq14 hzb
      go_upto_region 13 with (go_at_call 12; (with_reducible refine XO.out.mono ?_); rintro e w5 ⟨v, rfl, ho5, hx5, hq5, hs5⟩; obtain ⟨Av, cv, rfl, hin5⟩ := own_slice ho5; have I5 := Lib.hid hin5; have B5 := Lib.hid (B.out.trans ((hs5.mono B.out.size).below (Nat.le_of_lt G3.out))); have X5 := Lib.hid hx5; have Q5 := Lib.hid hq5; have R5 := Lib.hid (Rq.out.save hs5 (Nat.ne_of_lt G3.out) Rq.out.lt); clear ho5 hx5 hq5 hs5 hin5)
      have y1 := (B5.out.cell HBK.out).trans HCL.out
      have kq := run_string_of (P := Tryz.prog) I5.out 25 9 5 Tryz.underlying25 Tryz.underlying5 Tryz.underlying9
      obtain ⟨V, hV⟩ : ∃ V : ByteArray, (⟨((N.drop T).take k).toArray⟩ : ByteArray) = V := ⟨_, rfl⟩
      rw [hV] at kq
      have zV : V.size ≤ 200000 := by rw [← hV, size_mk, List.length_take, List.length_drop]; have := HN.out; omega
      have HV := Lib.hid hV
      clear hV y0 XO
      go_wp2_with fail
      go_roundw
      case rel =>
        refine ⟨i + 1, T + k, sliceA A' c' k, c' - k, S ++ V, rfl, by first | rfl | go_num, hlt, by have := hkT.out; have := HT.out; omega, ?_, ?_, ?_, B5.out, R5.out⟩
        · rw [append_data, HS.out, ← HV.out]
          show N.take T ++ (N.drop T).take k = _
          rw [List.take_add]
        · rw [show N.length - (T + k) = N.length - T - k from by omega]; exact X5.out
        · rw [show N.length - (T + k) = N.length - T - k from by omega, ← List.drop_drop]; exact Q5.out
      case measure => simp [intOf]; omega
    · have hnlt : ¬ (i : Int) < (n : Int) := by omega
      have hk : ((N.length - T : Nat) : Int) = max 0 (min (1099511627776 : Int) ((N.length - T : Nat) : Int)) := by have := HN.out; omega
      have XO := Lib.hid (xout_any _ g _ c' A' _ _ _ _ _ _ _ 1099511627776 (N.length - T) hk wq X.out Qq.out hq14)
      clear hk
      go_upto_region 17 with (go_at_call 12; (with_reducible refine XO.out.mono ?_); rintro e w5 ⟨v, rfl, ho5, hx5, hq5, hs5⟩; obtain ⟨Av, cv, rfl, hin5⟩ := own_slice ho5; have kq := run_string_of (P := Tryz.prog) hin5 25 9 5 Tryz.underlying25 Tryz.underlying5 Tryz.underlying9; (obtain ⟨V, hV⟩ : ∃ V : ByteArray, (⟨((N.drop T).take (N.length - T)).toArray⟩ : ByteArray) = V := ⟨_, rfl⟩); rw [hV] at kq; have zV : V.size ≤ 200000 := (by rw [← hV, size_mk, List.length_take, List.length_drop]; have := HN.out; omega); have HV := Lib.hid hV; have B5 := Lib.hid (B.out.trans ((hs5.mono B.out.size).below (Nat.le_of_lt G3.out))); have X5 := Lib.hid hx5; have Q5 := Lib.hid hq5; have R5 := Lib.hid (Rq.out.save hs5 (Nat.ne_of_lt G3.out) Rq.out.lt); clear ho5 hx5 hq5 hs5 hin5 hV)
      have hSV : S ++ V = ⟨N.toArray⟩ := by
        apply ByteArray.ext
        apply Array.ext'
        rw [append_data, HS.out, ← HV.out]
        show N.take T ++ (N.drop T).take (N.length - T) = _
        rw [show (N.drop T).take (N.length - T) = N.drop T from List.take_of_length_le (by rw [List.length_drop]; exact Nat.le_refl _), List.take_append_drop]
      rw [hSV]
      have X6 := Lib.hid X5.out
      have Q6 := Lib.hid Q5.out
      rw [Nat.sub_self] at X6 Q6
      clear kq hSV zS zV XO X5 Q5
      have tok5 : Hid True := Lib.hid trivial
      go_wp2_with (first
        | (have _t := tok5; refine wpList_load_g (by first | exact wanted_un rfl | exact wanted_yes rfl rfl rfl rfl | exact (wanted_is rfl rfl rfl rfl).trans (by simp; omega) | exact (wanted_is rfl rfl rfl rfl).trans (by simp)) 27 _ rfl w.heap.size 0 rfl C _ (rangeOf R5.out) Tryz.underlying27 rfl HCi.out ?_; clear _t)
        | (go_at_call 13; (with_reducible refine (PR.out _ B5.out).mono ?_); rintro e w6 ⟨rfl, hb6⟩; have B6 := Lib.hid (below_step B5.out hb6); have XO := Lib.hid (xout_any _ g 0 _ _ _ _ _ _ _ _ _ 9 0 (by decide) w6 (X6.out.below hb6) (Q6.out.save (below_save hb6)) (by omega)); clear hb6 tok5)
        | (go_at_call 12; (with_reducible refine XO.out.mono ?_); rintro e w7 ⟨v, rfl, ho7, hx7, hq7, hs7⟩; obtain ⟨Av7, cv7, rfl, -⟩ := own_slice ho7; have B7 := Lib.hid (B6.out.trans ((hs7.mono B6.out.size).below (Nat.le_of_lt G3.out))); clear ho7 hx7 hq7 hs7))
      go_ret
      exact ⟨rfl, B7.out⟩
theorem osends_walk (w : World) (hsh : w.ShapedOpen Tryz.prog) (s : Sta) (A : Option Addr) (n c : Nat) (L : List Fld) (B : Option Addr) (m e : Nat) (X : List UInt8) (fA : SliceIn w w.heap.size 2 A n c (fldsV L)) (fB : SliceIn w w.heap.size 1 B m e (bytesV X)) (wS : StaW s)
    (A' : Option Addr) (n' c' : Nat) (Z : List Int) (hin : SliceIn w w.heap.size 1 A' n' c' (Z.map (Value.int .i64))) (hZ : ∀ z ∈ Z, (-9223372036854775808 : Int) ≤ z ∧ z ≤ 9223372036854775807) :
    Calls Tryz.prog 3 #[.agg (msgC s (.slice A n c) (.slice B m e)).toArray, .slice A' n' c'] w fun e w' => e = .returned (.bool true) ∧ Below w.heap.size w w' := by
  have AW : ∀ W, Below w.heap.size w W → Calls Tryz.prog 8 #[] W fun e w' => e = .returned (.bool true) ∧ Below W.heap.size W w' := fun W hW => awake23_any W (shaped_below hsh hW)
  have h63 : m ≤ 9223372036854775807 := by have := fB.2.1; have := fB.2.2.1; simp only [maxLen] at this; omega
  have SH := fun (W : World) (hW : Below w.heap.size w W) => short_any A B n m c e L W ((fA.below hW).more hW.size) h63
  have hC := msgC_right s A B n c m e
  have hLn := fld_count fA
  have hXm : X.length = m := by have := fB.1; rw [bytesV_length] at this; omega
  have e0 := size_mk s.method
  have e1 := size_mk s.target
  have e3 := size_mk s.reason
  by_cases hfar : shortM L m = false ∨ 100 < (⟨s.method.toArray⟩ : ByteArray).size ∨ 2000 < (⟨s.target.toArray⟩ : ByteArray).size ∨ 300 < (⟨s.reason.toArray⟩ : ByteArray).size ∨ 100 < n'
  · exact osends_far _ hC _ _ _ s.status A B n m c e rfl rfl rfl rfl rfl rfl A' n' c' (shortM L m) w hfar AW SH
  · have hs1 : shortM L m = true := by cases h : shortM L m with | true => rfl | false => exact absurd (Or.inl h) hfar
    have hs2 : (⟨s.method.toArray⟩ : ByteArray).size ≤ 100 ∧ (⟨s.target.toArray⟩ : ByteArray).size ≤ 2000 ∧ (⟨s.reason.toArray⟩ : ByteArray).size ≤ 300 ∧ n' ≤ 100 := by
      refine ⟨?_, ?_, ?_, ?_⟩ <;> (rw [← Nat.not_lt]; intro h; exact hfar (by simp [h]))
    obtain ⟨s2, s3, s4, s5⟩ := hs2
    rw [hs1] at SH
    have KA := shortM_is hs1
    have FA : FldB L n := by rw [← hLn]; exact KA.fldB
    have hB : StaB s := ⟨by omega, by omega, by omega, wS.s1, wS.i1⟩
    have hpS : (printS s).length ≤ 6000 := prS_len (by omega) (by omega) (by omega)
    have hpL : sizeL L ≤ 40162 := KA.sizeF
    have hpX : m ≤ 2000 := KA.n
    have RR := fun (W : World) (hW : Below w.heap.size w W) => rright8_any s hB.sta L X A B n m c e ⟨#[]⟩ W ((fA.below hW).more hW.size) ((fB.below hW).more hW.size) FA.n FA FA.f
    have PC := fun (W : World) (hW : Below w.heap.size w W) => mprint_any s hB wS.s0 wS.i0 L X A B n m c e ⟨#[]⟩ W ((fA.below hW).more hW.size) ((fB.below hW).more hW.size) FA (by omega) (by omega) (by omega)
    have PR := fun (W : World) (hW : Below w.heap.size w W) => rprint8_any s hB L X A B n m c e ⟨#[]⟩ W ((fA.below hW).more hW.size) ((fB.below hW).more hW.size) FA FA.z (by omega)
    cases hra : rightM ⟨s, L, X⟩ (⟨#[]⟩ : ByteArray).data.toList with
    | false =>
      simp only [hra] at RR PC
      refine osends_bad _ hC _ _ _ s.status A B n m c e rfl rfl rfl rfl rfl rfl A' n' c' false w s2 s3 s4 s5 (.inl rfl) AW SH (fun W hW => onew_bad _ hC W (fun W' hW' => (PC W' (hW.trans (hW'.mono hW.size))).mono ?_)) RR
      rintro x w' ⟨h | h, hb⟩
      · exact ⟨h.2, hb⟩
      · cases h.1
    | true =>
      simp only [hra] at RR PC
      by_cases hst : s.status = 0
      · refine osends_good _ hC _ _ _ A B n m c e rfl rfl (by show some (Value.int .i64 s.status) = _; rw [hst]) rfl rfl rfl A' n' c' Z (printM ⟨s, L, X⟩ (⟨#[]⟩ : ByteArray).data.toList) w s2 s3 s4 s5 (prM_len hpS (by omega) (by omega) _) hin hZ AW SH
          (fun W hW => xnew_ok _ hC _ (by show some (Value.int .i64 s.status) = _; rw [hst]) rfl _ W (fun W' hW' => (PC W' (hW.trans (hW'.mono hW.size))).mono ?_)) RR PR
        rintro x w' ⟨h | h, hb⟩
        · cases h.1
        · exact ⟨h.2, hb⟩
      · refine osends_bad _ hC _ _ _ s.status A B n m c e rfl rfl rfl rfl rfl rfl A' n' c' true w s2 s3 s4 s5 (.inr hst) AW SH (fun W hW => onew_resp _ hC s.status rfl hst W (fun W' hW' => (PC W' (hW.trans (hW'.mono hW.size))).mono ?_)) RR
        rintro x w' ⟨h | h, hb⟩
        · cases h.1
        · obtain ⟨-, v, rfl, -⟩ := h
          exact ⟨⟨v, rfl⟩, hb⟩
end Go.Proofs.YtniiadhhefgmcaaGreatDoor

