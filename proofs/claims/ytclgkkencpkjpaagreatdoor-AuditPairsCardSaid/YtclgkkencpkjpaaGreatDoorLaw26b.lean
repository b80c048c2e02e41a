/- Layer 26's laws: AuditPairs, walked. Condition: the world's shape. -/
import Derived.Test.YtclgkkencpkjpaaGreatDoorMts9
import Derived.Test.YtclgkkencpkjpaaGreatDoorMts11
import Derived.Test.YtclgkkencpkjpaaGreatDoorSeqU
namespace Go.Proofs.YtclgkkencpkjpaaGreatDoor
open Go.RowKit IH
set_option maxRecDepth 100000
set_option maxHeartbeats 8000000 in
theorem ap_far (C : List Value) (A1 : Option Addr) (n1 c1 : Nat) (A2 : Option Addr) (n2 c2 : Nat) (hc1 : C[1]? = some (.slice A1 n1 c1)) (hc2 : C[2]? = some (.slice A2 n2 c2)) (w : World) (hsh : w.ShapedOpen Tryz.prog) (h : 4000 < n1 ∨ 4000 < n2) :
    Calls Tryz.prog 6 #[.agg C.toArray] w fun e w' => e = .returned (.bool true) ∧ Below w.heap.size w w' := by
  have AW := Lib.hid (fun W (hW : Below w.heap.size w W) => awake26_any W (shaped_below hsh hW))
  obtain ⟨w1, hw1⟩ : ∃ W : World, w.alloc (.cells C.toArray 50) = W := ⟨_, rfl⟩
  have B0 : Hid (Below w.heap.size w w1) := Lib.hid (by rw [← hw1]; exact (Below.refl _ _).alloc (Nat.le_refl _) _)
  have Ra0 : Hid (RowAt w1 w.heap.size 50 C) := Lib.hid (by rw [← hw1]; exact RowAt.new w 50 C)
  have HC1 := Lib.hid hc1
  have HC2 := Lib.hid hc2
  have tokA : Hid True := Lib.hid trivial
  clear hsh hc1 hc2
  by_cases hn : 4000 < n1
  · have hI : (4000 : Int) < (n1 : Int) := by omega
    clear h
    go_enter Tryz.func6, Tryz.ntmps6
    go_wp2_with (first
      | (have _t := tokA; go_at_call 21; (with_reducible refine (AW.out _ B0.out).mono ?_); rintro e w2 ⟨rfl, hb1⟩; have B1 := Lib.hid (below_step B0.out hb1); have d1 := (Ra0.out.below hb1 Ra0.out.lt).cell (j := 1) HC1.out; clear hb1 tokA _t)
      | (go_at_call 21; (with_reducible refine (AW.out _ B1.out).mono ?_); rintro e w3 ⟨rfl, hb2⟩; have B2 := Lib.hid (below_step B1.out hb2); clear hb2))
    go_ret
    exact ⟨rfl, B2.out⟩
  · have hI : (n1 : Int) ≤ 4000 := by omega
    have hM : 4000 < n2 := by omega
    have hJ : (4000 : Int) < (n2 : Int) := by omega
    clear h
    go_enter Tryz.func6, Tryz.ntmps6
    go_wp2_with (first
      | (have _t := tokA; go_at_call 21; (with_reducible refine (AW.out _ B0.out).mono ?_); rintro e w2 ⟨rfl, hb1⟩; have B1 := Lib.hid (below_step B0.out hb1); have d1 := (Ra0.out.below hb1 Ra0.out.lt).cell (j := 1) HC1.out; have d2 := (Ra0.out.below hb1 Ra0.out.lt).cell (j := 2) HC2.out; clear hb1 tokA _t)
      | (go_at_call 21; (with_reducible refine (AW.out _ B1.out).mono ?_); rintro e w3 ⟨rfl, hb2⟩; have B2 := Lib.hid (below_step B1.out hb2); clear hb2))
    go_ret
    exact ⟨rfl, B2.out⟩
set_option maxHeartbeats 32000000 in
theorem ap_near (C : List Value) (hC : C.length = 6) (A1 : Option Addr) (n1 c1 : Nat) (A2 : Option Addr) (n2 c2 : Nat) (hc1 : C[1]? = some (.slice A1 n1 c1)) (hc2 : C[2]? = some (.slice A2 n2 c2)) (e1 e2 : Int) (G1 G2 M : Value → World → Prop) (w : World) (h1 : n1 ≤ 4000) (h2 : n2 ≤ 4000)
    (AW : ∀ W, Below w.heap.size w W → Calls Tryz.prog 21 #[] W fun e w' => e = .returned (.bool true) ∧ Below W.heap.size W w')
    (PA : ∀ W, Below w.heap.size w W → Calls Tryz.prog 28 #[.agg C.toArray] W fun e w' => ∃ v u, e = .returned (.tuple #[v, u]) ∧ G1 v w' ∧ G2 u w' ∧ Below W.heap.size W w')
    (QR : ∀ W, Below w.heap.size w W → Calls Tryz.prog 23 #[.slice A1 n1 c1] W fun e w' => ∃ v, e = .returned (.tuple #[v, .int .i64 e1]) ∧ G1 v w' ∧ Below W.heap.size W w')
    (ME : ∀ W v, G1 v W → Calls Tryz.prog 29 #[v] W fun e w' => ∃ u, e = .returned u ∧ M u w' ∧ Below W.heap.size W w')
    (RR : ∀ W v, Below w.heap.size w W → M v W → Calls Tryz.prog 25 #[.slice A2 n2 c2, v, .bool false] W fun e w' => ∃ v, e = .returned (.tuple #[v, .int .i64 e2]) ∧ G2 v w' ∧ Below W.heap.size W w')
    (B1s : ∀ v W W', G1 v W → Below W.heap.size W W' → G1 v W') (B2s : ∀ v W W', G2 v W → Below W.heap.size W W' → G2 v W')
    (S1 : ∀ v u W, G1 v W → G1 u W → Calls Tryz.prog 27 #[v, u] W fun e w' => e = .returned (.bool true) ∧ Below W.heap.size W w')
    (S2 : ∀ v u W, G2 v W → G2 u W → Calls Tryz.prog 27 #[v, u] W fun e w' => e = .returned (.bool true) ∧ Below W.heap.size W w') :
    Calls Tryz.prog 6 #[.agg C.toArray] w fun e w' => e = .returned (.bool true) ∧ Below w.heap.size w w' := by
  have hI : (n1 : Int) ≤ 4000 := by omega
  have hJ : (n2 : Int) ≤ 4000 := by omega
  have HCi : Hid ((Tryz.prog.info? 50).map (·.size) = some C.length) := Lib.hid (by rw [hC]; kernel_rfl)
  obtain ⟨w1, hw1⟩ : ∃ W : World, w.alloc (.cells C.toArray 50) = W := ⟨_, rfl⟩
  have B0 : Hid (Below w.heap.size w w1) := Lib.hid (by rw [← hw1]; exact (Below.refl _ _).alloc (Nat.le_refl _) _)
  have Ra0 : Hid (RowAt w1 w.heap.size 50 C) := Lib.hid (by rw [← hw1]; exact RowAt.new w 50 C)
  have HC1 := Lib.hid hc1
  have HC2 := Lib.hid hc2
  clear hC hc1 hc2
  replace AW := Lib.hid AW
  replace PA := Lib.hid PA
  replace QR := Lib.hid QR
  replace ME := Lib.hid ME
  replace RR := Lib.hid RR
  replace B1s := Lib.hid B1s
  replace B2s := Lib.hid B2s
  replace S1 := Lib.hid S1
  replace S2 := Lib.hid S2
  go_enter Tryz.func6, Tryz.ntmps6
  go_upto_region 5 with (first
    | (go_at_call 21; (with_reducible refine (AW.out _ B0.out).mono ?_); rintro e w2 ⟨rfl, hb1⟩; have B1 := Lib.hid (below_step B0.out hb1); have Ra1 := Lib.hid (Ra0.out.below hb1 Ra0.out.lt); have d1 := Ra1.out.cell (j := 1) HC1.out; have d2 := Ra1.out.cell (j := 2) HC2.out; clear hb1)
    | (refine wpList_load_g (by first | exact wanted_un rfl) 50 _ rfl w.heap.size 0 rfl C _ (rangeOf Ra1.out) Tryz.underlying50 rfl HCi.out ?_)
    | (go_at_call 28; (with_reducible refine (PA.out _ B1.out).mono ?_); rintro e' w3 ⟨v1, v2, rfl, hg1, hg2, hb⟩; have B3 := Lib.hid (below_step B1.out hb); have V1 := Lib.hid hg1; have V2 := Lib.hid hg2; have Ra3 := Lib.hid (Ra1.out.below hb Ra1.out.lt); have f1 := Ra3.out.cell (j := 1) HC1.out; clear hb hg1 hg2 d1 d2)
    | (go_at_call 23; (with_reducible refine (QR.out _ B3.out).mono ?_); rintro e' w4 ⟨u1, rfl, hg, hb⟩; have B4 := Lib.hid (below_step B3.out hb); replace V1 := Lib.hid (B1s.out _ _ _ V1.out hb); replace V2 := Lib.hid (B2s.out _ _ _ V2.out hb); have U1 := Lib.hid hg; have Ra4 := Lib.hid (Ra3.out.below hb Ra3.out.lt); clear hb hg f1))
  have HD4 : Hid (Below w4.heap.size w4 w4.drew) := Lib.hid (below_drewN (Below.refl w4.heap.size w4) 1)
  refine wp_region_tree0 (fun W => Below w4.heap.size w4 W) (.take 0 (.take 1 (.take 2 (.node (.fork 3 (.node (.fork 4 (.take 5 (.take 6 (.take 7 (.take 8 (.take 9 (.done)))))) (.stop))) (.stop)))))) (by kernel_rfl) (by kernel_rfl) (of_decide_eq_true (by kernel_rfl)) rfl (by kernel_rfl) (below_drewN (Below.refl _ _) 1) ?_
  intro hH
  iterate 3
    refine tree_take (v := ?_) rfl (by rfl) ?_ ?_
    rotate_left
    · intro w2 hSw
      have g2 := (Ra4.out.below hSw Ra4.out.lt).cell (j := 2) HC2.out
      clear hSw
      go_simp
      try with_reducible rfl
    try simp only [Act.put, List.setIfInBounds_toArray, List.set_cons_zero, List.set_cons_succ]
  refine tree_node ?_
  refine tree_move rfl (by rfl) (fun K hK => ?_) ?_
  · go_simp
    (with_reducible refine (ME.out w4.drew _ (B1s.out _ _ w4.drew U1.out HD4.out)).mono ?_)
    rintro e5 w5 ⟨u5, rfl, hm5, hb5⟩
    have B5 := Lib.hid (HD4.out.trans hb5)
    refine hK.out _ _ (B5.out) ?_
    clear hH hK K hb5
    have MM := Lib.hid hm5
    clear hm5
    intro hH
    try simp only [Act.put, List.setIfInBounds_toArray, List.set_cons_zero, List.set_cons_succ]
    refine tree_node ?_
    refine tree_move rfl (by rfl) (fun K hK => ?_) ?_
    · go_simp
      (with_reducible refine (RR.out _ _ (below_step B4.out B5.out) MM.out).mono ?_)
      rintro e6 w6 ⟨u2, rfl, hg6, hb6⟩
      have B6 := Lib.hid (below_step B5.out hb6)
      refine hK.out _ _ (B6.out) ?_
      clear hH hK K hb6
      have U2 := Lib.hid hg6
      clear hg6
      intro hH
      try simp only [Act.put, List.setIfInBounds_toArray, List.set_cons_zero, List.set_cons_succ]
      iterate 5
        refine tree_take (v := ?_) rfl (by rfl) ?_ ?_
        rotate_left
        · intro w2 hSw
          have g2 := (Ra4.out.below hSw Ra4.out.lt).cell (j := 2) HC2.out
          clear hSw
          go_simp
          try with_reducible rfl
        try simp only [Act.put, List.setIfInBounds_toArray, List.set_cons_zero, List.set_cons_succ]
      refine tree_done ?_
      have V1' := Lib.hid (B1s.out _ _ _ V1.out B6.out)
      have V2' := Lib.hid (B2s.out _ _ _ V2.out B6.out)
      have U1' := Lib.hid (B1s.out _ _ _ U1.out B6.out)
      have B6' := Lib.hid (below_step B4.out B6.out)
      have tokA : Hid True := Lib.hid trivial
      go_wp2_with (first | (have _t := tokA; go_at_call 27; (with_reducible refine (S1.out _ _ _ V1'.out U1'.out).mono ?_); rintro e7 w7 ⟨rfl, hb⟩; have B7 := Lib.hid (below_step B6'.out hb); have V2'' := Lib.hid (B2s.out _ _ _ V2'.out hb); have U2'' := Lib.hid (B2s.out _ _ _ U2.out hb); clear hb tokA _t) | (go_at_call 27; (with_reducible refine (S2.out _ _ _ V2''.out U2''.out).mono ?_); rintro e8 w8 ⟨rfl, hb⟩; have B8 := Lib.hid (below_step B7.out hb); clear hb))
      go_ret
      exact ⟨rfl, B8.out⟩
    exact tree_stop
  exact tree_stop
/-- A slice that reads as these texts. -/
def StrsIn (K : List (List UInt8)) (v : Value) (W : World) : Prop := ∃ A n c, v = .slice A n c ∧ SliceIn W W.heap.size 1 A n c (strsV K)
theorem apairs_walk (w : World) (hsh : w.ShapedOpen Tryz.prog) (x0 : Value) (A1 : Option Addr) (n1 c1 : Nat) (L1 : List UInt8) (A2 : Option Addr) (n2 c2 : Nat) (L2 : List UInt8) (x3 x4 x5 : Value) (h1 : SliceIn w w.heap.size 1 A1 n1 c1 (bytesV L1)) (h2 : SliceIn w w.heap.size 1 A2 n2 c2 (bytesV L2))
    (_ : x0.oneCell' = true) (_ : x3.oneCell' = true) (_ : x4.oneCell' = true) (_ : x5.oneCell' = true) :
    Calls Tryz.prog 6 #[.agg #[x0, .slice A1 n1 c1, .slice A2 n2 c2, x3, x4, x5]] w fun e w' => e = .returned (.bool true) ∧ Below w.heap.size w w' := by
  by_cases h : 4000 < n1 ∨ 4000 < n2
  · exact ap_far [x0, .slice A1 n1 c1, .slice A2 n2 c2, x3, x4, x5] A1 n1 c1 A2 n2 c2 rfl rfl w hsh h
  · have hn1 : n1 ≤ 4000 := by omega
    have hn2 : n2 ≤ 4000 := by omega
    have F1 : ∀ m ∈ (requestsL L1).1, m.fields.length ≤ 1000000 := fun m hm => by have := requests_few L1 m hm; omega
    have F2 : ∀ m ∈ (responsesL false L2 (methodsM (requestsL L1).1)).1, m.fields.length ≤ 1000000 := fun m hm => by have := responses_few false L2 _ m hm; omega
    have hlen := requests_len L1
    have hl1 : L1.length = n1 := by have := h1.1; rw [bytesV_length] at this; omega
    refine ap_near [x0, .slice A1 n1 c1, .slice A2 n2 c2, x3, x4, x5] rfl A1 n1 c1 A2 n2 c2 rfl rfl (requestsL L1).2 (responsesL false L2 (methodsM (requestsL L1).1)).2 (MsgsIn (requestsL L1).1) (MsgsIn (responsesL false L2 (methodsM (requestsL L1).1)).1) (StrsIn (methodsM (requestsL L1).1)) w hn1 hn2
      (fun W hW => awake26_any W (shaped_below hsh hW)) ?_ ?_ ?_ ?_ (fun _ _ _ h hb => h.below hb) (fun _ _ _ h hb => h.below hb) (fun v u W h h' => MsgsIn.same F1 v u W h h') (fun v u W h h' => MsgsIn.same F2 v u W h h')
    · intro W hW
      exact apair_any x0 x3 x4 x5 A1 n1 c1 L1 A2 n2 c2 L2 W (shaped_below hsh hW) ((h1.below hW).more hW.size) ((h2.below hW).more hW.size) (by omega) (by omega)
    · intro W hW
      refine (rreq26_any A1 n1 c1 L1 W ((h1.below hW).more hW.size) (by omega)).mono ?_
      rintro e w' ⟨v, CS, rfl, q1, q2, -, -, q3⟩
      exact ⟨v, rfl, MsgsIn.of_own q1 q2, q3⟩
    · rintro W v ⟨A, n, c, CS, rfl, q1, q2⟩
      have hnn : n ≤ 1000000 := by have := q1.1; rw [msgs_flat_len q2] at this; omega
      refine (rmeth26_any _ CS A n c W q1 q2 hnn).mono ?_
      rintro e w' ⟨u, rfl, q3, q4⟩
      obtain ⟨A', c', rfl, q5⟩ := own_slice q3
      exact ⟨_, rfl, ⟨A', _, c', rfl, q5⟩, q4⟩
    · rintro W v hW ⟨A, n, c, rfl, q1⟩
      have hr := rresp26_any A2 n2 c2 L2 A n c ((methodsM (requestsL L1).1).map fun l => ⟨l.toArray⟩) false W ((h2.below hW).more hW.size) (by rw [(strs_texts _).1]; exact q1) (by omega)
      rw [(strs_texts (methodsM (requestsL L1).1)).2] at hr
      refine hr.mono ?_
      rintro e w' ⟨v, CS, rfl, q1, q2, -, -, q3⟩
      exact ⟨v, rfl, MsgsIn.of_own q1 q2, q3⟩
end Go.Proofs.YtclgkkencpkjpaaGreatDoor
