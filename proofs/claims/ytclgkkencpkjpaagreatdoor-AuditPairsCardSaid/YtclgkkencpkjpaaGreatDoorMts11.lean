/- Layer 26: audit.Pair. Condition: the world's shape, at most 65535 octets each. -/
import Derived.Test.YtclgkkencpkjpaaGreatDoorMu
namespace Go.Proofs.YtclgkkencpkjpaaGreatDoor
open Go.RowKit IH
set_option maxRecDepth 100000
theorem strs_texts (K : List (List UInt8)) : textsV (K.map fun l => (⟨l.toArray⟩ : ByteArray)) = strsV K ∧ methodsL (K.map fun l => (⟨l.toArray⟩ : ByteArray)) = K := by
  constructor
  · simp [textsV, strsV]
  · unfold methodsL
    rw [List.map_map]
    exact List.map_id K
theorem meth_small {T : List Msg} (h : ∀ m ∈ T, m.start.method.length ≤ 32) : ∀ l ∈ methodsM T, l.length ≤ maxLen := by
  intro l hl
  rcases List.mem_append.1 hl with h1 | h1
  · obtain ⟨m, hm, rfl⟩ := List.mem_map.1 h1
    have := h m hm
    simp only [maxLen]
    omega
  · rw [List.mem_singleton.1 h1]
    decide
set_option maxHeartbeats 32000000 in
theorem apair_any (x0 x3 x4 x5 : Value) (A1 : Option Addr) (n1 c1 : Nat) (L1 : List UInt8) (A2 : Option Addr) (n2 c2 : Nat) (L2 : List UInt8) (w : World) (hsh : w.ShapedOpen Tryz.prog) (h1 : SliceIn w w.heap.size 1 A1 n1 c1 (bytesV L1)) (h2 : SliceIn w w.heap.size 1 A2 n2 c2 (bytesV L2)) (hn1 : n1 ≤ 65535) (hn2 : n2 ≤ 65535) :
    Calls Tryz.prog 28 #[.agg #[x0, .slice A1 n1 c1, .slice A2 n2 c2, x3, x4, x5]] w fun e w' => ∃ v u, e = .returned (.tuple #[v, u]) ∧ MsgsIn (requestsL L1).1 v w' ∧ MsgsIn (responsesL false L2 (methodsM (requestsL L1).1)).1 u w' ∧ Below w.heap.size w w' := by
  have HMi : Hid ((Tryz.prog.info? 65).map (·.size) = some 7) := Lib.hid (by kernel_rfl)
  have RQ := Lib.hid (fun (W : World) (hW : Below w.heap.size w W) => areq26_any A1 n1 c1 L1 W (shaped_below hsh hW) ((h1.below hW).more hW.size) hn1)
  have hlen := requests_len L1
  have hl1 : L1.length = n1 := by have := h1.1; rw [bytesV_length] at this; omega
  have RS := Lib.hid (fun (W : World) (hW : Below w.heap.size w W) (A : Option Addr) (n c : Nat) (K : List (List UInt8)) (hs : SliceIn W W.heap.size 1 A n c (strsV K)) (hK : ∀ l ∈ K, l.length ≤ maxLen) => aresponses26_any A2 n2 c2 L2 A n c (K.map fun l => ⟨l.toArray⟩) W (shaped_below hsh hW) ((h2.below hW).more hW.size) (by rw [(strs_texts K).1]; exact hs) hn2 (by
    intro M hM
    obtain ⟨l, hl, rfl⟩ := List.mem_map.1 hM
    rw [size_mk]
    exact hK l hl))
  have hmeth := requests_meth L1
  obtain ⟨T, hT⟩ : ∃ T, (requestsL L1).1 = T := ⟨_, rfl⟩
  simp only [hT] at RQ
  rw [hT] at hlen hmeth ⊢
  have HLen : Hid (T.length ≤ 65535) := Lib.hid (by omega)
  have HMe := Lib.hid hmeth
  obtain ⟨w1, hw1⟩ : ∃ W : World, w.alloc (.cells #[x0, .slice A1 n1 c1, .slice A2 n2 c2, x3, x4, x5] 50) = W := ⟨_, rfl⟩
  have B1 : Hid (Below w.heap.size w w1) := Lib.hid (by rw [← hw1]; exact (Below.refl _ _).alloc (Nat.le_refl _) _)
  have Ra1 : Hid (RowAt w1 w.heap.size 50 [x0, .slice A1 n1 c1, .slice A2 n2 c2, x3, x4, x5]) := Lib.hid (by rw [← hw1]; exact RowAt.new w 50 _)
  clear hT hlen hl1 hsh h1 h2 hmeth
  have c1w := Ra1.out.cell (j := 1) rfl
  go_enter Tryz.func28, Tryz.ntmps28
  go_upto_region 3 with (go_at_call 22; (with_reducible refine (RQ.out _ B1.out).mono ?_); rintro e w2 ⟨v, CS, rfl, ho, hm, hb2⟩; obtain ⟨A, cA, rfl, hs⟩ := own_slice ho; have B2 := Lib.hid (below_step B1.out hb2); have Ra2 := Lib.hid (Ra1.out.below hb2 Ra1.out.lt); have SI := Lib.hid hs; have MS := Lib.hid hm; clear hb2 ho hm hs)
  clear c1w
  have hl9 : (T.length : Int) ≤ 9223372036854775807 := by have := HLen.out; omega
  go_wp2
  go_loopw [6, 19] (fun ov iv wr => ∃ i : Nat, iv = .int .i64 i ∧ i ≤ T.length ∧ wr.ownsRow w2.heap.size 9 1 ov i (strsV ((T.take i).map (·.start.method))) ∧ Below w2.heap.size w2 wr) (fun _ iv _ => T.length - (intOf iv).toNat)
  case atStart => exact ⟨0, rfl, Nat.zero_le _, by simpa [strsV] using World.ownsRow_nil _ _ _ _, Below.refl _ _⟩
  case round =>
    obtain ⟨wq, hwq⟩ : ∃ x : World, x = wr := ⟨_, rfl⟩
    subst hwq
    obtain ⟨i, rfl, hi, hown, hbq⟩ := hrel
    have OWq := Lib.hid hown
    have Bq := Lib.hid hbq
    clear hown hbq
    by_cases hlt : i < T.length
    · obtain ⟨b, o, m, p0, p1, p2, p3, p4, p5, p6, hA, hb, hm, hO, y0, y1, y2, y3, y4, y5, y6⟩ := msg_at SI.out MS.out rfl hlt
      have hp0 := hO.method
      subst hp0
      have hone := hO.right.2
      have H1 := Lib.hid hone
      have hib : (i : Int) < (T.length : Int) := by omega
      have hrng : wq.rangeAt b (o + i * 7) [.string ⟨m.start.method.toArray⟩, p1, p2, p3, p4, p5, p6] := by
        intro j v hv
        have hcell : ∀ k, wq.cell? ⟨b, k, none⟩ = w2.cell? ⟨b, k, none⟩ := fun k => Bq.out.cell (p := ⟨b, k, none⟩) hb
        rw [hcell]
        match j, hv with
        | 0, hv => simp only [List.getElem?_cons_zero, Option.some.injEq] at hv; subst hv; exact y0
        | 1, hv => simp only [List.getElem?_cons_zero, List.getElem?_cons_succ, Option.some.injEq] at hv; subst hv; exact y1
        | 2, hv => simp only [List.getElem?_cons_zero, List.getElem?_cons_succ, Option.some.injEq] at hv; subst hv; exact y2
        | 3, hv => simp only [List.getElem?_cons_zero, List.getElem?_cons_succ, Option.some.injEq] at hv; subst hv; exact y3
        | 4, hv => simp only [List.getElem?_cons_zero, List.getElem?_cons_succ, Option.some.injEq] at hv; subst hv; exact y4
        | 5, hv => simp only [List.getElem?_cons_zero, List.getElem?_cons_succ, Option.some.injEq] at hv; subst hv; exact y5
        | 6, hv => simp only [List.getElem?_cons_zero, List.getElem?_cons_succ, Option.some.injEq] at hv; subst hv; exact y6
        | j + 7, hv => simp at hv
      have HR := Lib.hid hrng
      have HM := Lib.hid hm
      subst hA
      clear y0 y1 y2 y3 y4 y5 y6 hm hO hb hrng hone
      have tokA : Hid True := Lib.hid trivial
      go_upto_region 6 with (first
        | (refine wpList_load_g (by first | exact wanted_un rfl) 65 _ rfl b (o + i * 7) rfl [.string ⟨m.start.method.toArray⟩, p1, p2, p3, p4, p5, p6] _ HR.out Tryz.underlying65 rfl HMi.out ?_)
        | (have _t := tokA; refine wpList_store_row rfl 65 _ _ rfl wq.heap.size _ [.string ⟨m.start.method.toArray⟩, p1, p2, p3, p4, p5, p6] zeroM rfl rfl (RowAt.new wq 65 _) rfl HMi.out H1.out ?_; intro w3 hro hoo; have hb3 := hoo.below ((Below.refl wq.heap.size wq).alloc (Nat.le_refl _) _) (Nat.le_refl _); have B3 := Lib.hid (below_step Bq.out hb3); have OW3 := Lib.hid (own_below OWq.out hb3); have d0 := hro.cell (j := 0) rfl; clear hro hoo hb3 tokA _t))
      have hbal := below_al w3 (.cells #[.string ⟨m.start.method.toArray⟩] 9)
      have OW4 := Lib.hid (own_below OW3.out hbal)
      have B4 := Lib.hid (below_step B3.out hbal)
      have RV := Lib.hid ((RowAt.new w3 9 [.string ⟨m.start.method.toArray⟩]).slice (size := 1) (n := 1) (c := 1) rfl (Nat.le_refl _) (by simp [maxLen]))
      clear hbal
      go_wp2_with (at_builtin; refine wpList_appS str_ty rfl _ _ rfl w2.heap.size _ i _ rfl OW4.out _ _ 1 1 [.string ⟨m.start.method.toArray⟩] rfl RV.out (one1 _ rfl) (by have := HLen.out; omega) (by have := HLen.out; simp only [maxLen]; omega) B4.out.size ?_; intro v5 w5 hown5 hgr5; have B5 := Lib.hid (B4.out.grown hgr5 B4.out.size (fun q hq => (OW4.out.lt q hq).1)); have OW5 := Lib.hid hown5; clear hown5 hgr5)
      go_roundw
      case rel => exact ⟨i + 1, by go_num, by omega, by rw [take_meth T i m HM.out, strsV_append]; exact OW5.out, B5.out⟩
      case measure => simp [intOf]; omega
    · obtain rfl : i = T.length := by omega
      have ht : (T.take T.length).map (·.start.method) = T.map (·.start.method) := by rw [List.take_length]
      rw [ht] at OWq
      have Raq := Lib.hid (Ra2.out.below Bq.out Ra2.out.lt)
      have SIq := Lib.hid ((SI.out.below Bq.out).more Bq.out.size)
      have MSq := Lib.hid (MS.out.below Bq.out)
      have BB := Lib.hid (below_step B2.out Bq.out)
      clear ht
      go_upto_region 8 with fail
      have hbal := (below_drewN (Below.refl wq.heap.size wq) 1).alloc (Nat.le_refl _) (.cells #[.string ⟨#[71, 69, 84]⟩] 9)
      have OW3 := Lib.hid (own_below OWq.out hbal)
      have B3 := Lib.hid (below_step Bq.out hbal)
      have RV := Lib.hid ((RowAt.new wq.drew 9 [.string ⟨#[71, 69, 84]⟩]).slice (size := 1) (n := 1) (c := 1) rfl (Nat.le_refl _) (by simp [maxLen]))
      clear hbal
      refine wp_region_tree0 (fun W => Below w2.heap.size w2 W) (.take 0 (.take 1 (.take 2 (.node (.fork 3 (.node (.fork 4 (.node (.fork 5 (.take 6 (.take 7 (.take 8 (.take 9 (.take 10 (.done)))))) (.stop))) (.stop))) (.stop)))))) (by kernel_rfl) (by kernel_rfl) (of_decide_eq_true (by kernel_rfl)) rfl (by kernel_rfl) (below_drewN Bq.out 1) ?_
      intro hH
      iterate 3
        refine tree_take (v := ?_) rfl (by rfl) ?_ ?_
        rotate_left
        · intro w2 hSw
          have g2 := (Ra2.out.below hSw Ra2.out.lt).cell (j := 2) rfl
          clear hSw
          go_simp
          try with_reducible rfl
        try simp only [Act.put, List.setIfInBounds_toArray, List.set_cons_zero, List.set_cons_succ]
      refine tree_node ?_
      refine tree_move rfl (by rfl) (fun K hK => ?_) ?_
      · go_simp
        refine hK.out _ _ (B3.out) ?_
        clear hH hK K
        intro hH
        try simp only [Act.put, List.setIfInBounds_toArray, List.set_cons_zero, List.set_cons_succ]
        refine tree_node ?_
        refine tree_move rfl (by rfl) (fun K hK => ?_) ?_
        · refine wp_appS str_ty _ _ rfl w2.heap.size _ T.length _ rfl OW3.out _ _ 1 1 [.string ⟨#[71, 69, 84]⟩] rfl RV.out (one1 _ rfl) (by have := HLen.out; omega) (by have := HLen.out; simp only [maxLen]; omega) B3.out.size ?_
          intro v5 w5 hown5 hgr5
          have B5 := Lib.hid (B3.out.grown hgr5 B3.out.size (fun q hq => (OW3.out.lt q hq).1))
          obtain ⟨A5, c5, rfl, hs5⟩ := own_slice hown5
          refine hK.out _ _ (B5.out) ?_
          clear hH hK K hgr5
          have RS5 := Lib.hid (RS.out w5 (below_step B2.out B5.out) A5 (T.length + 1) c5 (methodsM T) (by unfold methodsM; rw [strsV_append]; exact hs5) (meth_small HMe.out))
          clear hs5 hown5
          intro hH
          try simp only [Act.put, List.setIfInBounds_toArray, List.set_cons_zero, List.set_cons_succ]
          refine tree_node ?_
          refine tree_move rfl (by rfl) (fun K hK => ?_) ?_
          · go_simp
            (with_reducible refine RS5.out.mono ?_)
            rintro e w6 ⟨v6, CS6, rfl, ho6, hm6, hb6⟩
            have B6 := Lib.hid (below_step B5.out hb6)
            have G6 := Lib.hid (MsgsIn.of_own ho6 hm6)
            refine hK.out _ _ (B6.out) ?_
            clear hH hK K ho6 hm6 hb6
            intro hH
            try simp only [Act.put, List.setIfInBounds_toArray, List.set_cons_zero, List.set_cons_succ]
            iterate 5
              refine tree_take (v := ?_) rfl (by rfl) ?_ ?_
              rotate_left
              · intro w2 hSw
                have g2 := (Ra2.out.below hSw Ra2.out.lt).cell (j := 2) rfl
                clear hSw
                go_simp
                try with_reducible rfl
              try simp only [Act.put, List.setIfInBounds_toArray, List.set_cons_zero, List.set_cons_succ]
            refine tree_done ?_
            go_wp2_with fail
            go_ret2
            refine ⟨_, _, rfl, ⟨A, T.length, cA, CS, rfl, (SI.out.below B6.out).more B6.out.size, MS.out.below B6.out⟩, ?_, below_step B2.out B6.out⟩
            have h := G6.out
            rw [(strs_texts (methodsM T)).2] at h
            exact h
          exact tree_stop
        exact tree_stop
      exact tree_stop
end Go.Proofs.YtclgkkencpkjpaaGreatDoor
