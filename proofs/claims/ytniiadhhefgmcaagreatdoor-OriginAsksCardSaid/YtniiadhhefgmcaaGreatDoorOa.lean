/- Oa: several texts, one behind the other. -/
import Derived.Test.YtniiadhhefgmcaaGreatDoorSg
import Derived.Test.YtniiadhhefgmcaaGreatDoorShape
import Derived.Test.YtniiadhhefgmcaaGreatDoorKt
import Derived.Test.YtniiadhhefgmcaaGreatDoorRb
import Derived.Test.YtniiadhhefgmcaaGreatDoorRc
/- Layer 23's queues: size, take; bytes.Clone of any slice. Condition: lengths within bounds. -/
namespace Go.Proofs.YtniiadhhefgmcaaGreatDoor
open Go.RowKit IH
set_option maxRecDepth 100000
/-- A queue's slice: its octets, and that they do not lie in block g. -/
def QIn (w : World) (g : Nat) (A : Option Addr) (n c : Nat) (l : List UInt8) : Prop := SliceIn w w.heap.size 1 A n c (bytesV l) ∧ (0 < n → ∀ a, A = some a → a.block ≠ g)
theorem QIn.save {w w' : World} {g n c : Nat} {A : Option Addr} {l : List UInt8} (h : QIn w g A n c l) (s : Save w.heap.size g w w') : QIn w' g A n c l := by
  obtain ⟨⟨h1, h2, h3, h4⟩, h5⟩ := h
  refine ⟨⟨h1, h2, h3, fun hn => ?_⟩, h5⟩
  obtain ⟨b, off, rfl, hb, hc⟩ := h4 hn
  have hne := h5 hn _ rfl
  exact ⟨b, off, rfl, Nat.lt_of_lt_of_le hb s.size, fun j u hu => (World.cell?_of_block (w := w) (s.block b hb hne)).trans (hc j u hu)⟩
theorem QIn.from_ {w : World} {g n c : Nat} {A : Option Addr} {l : List UInt8} (h : QIn w g A n c l) (t : Nat) (ht : t ≤ n) : QIn w g (sliceA A c t) (n - t) (c - t) (l.drop t) := by
  refine ⟨sub_from h.1 t ht, fun hn a ha => ?_⟩
  obtain ⟨b, off, rfl, _, _⟩ := h.1.2.2.2 (by omega)
  have hne := h.2 (by omega) _ rfl
  unfold sliceA at ha
  split at ha
  · injection ha with ha; subst ha; exact hne
  · simp only [Option.map_some, Option.some.injEq] at ha
    subst ha
    rw [add_plain]
    exact hne
theorem bclone_any (A : Option Addr) (n c : Nat) (l : List UInt8) (W : World) (B : Nat) (h : SliceIn W B 1 A n c (bytesV l)) (hn : n ≤ 140737488355328) :
    Calls Tryz.prog 86 #[.slice A n c] W fun e w' => ∃ v, e = .returned v ∧ w'.ownsRow W.heap.size 5 1 v n (bytesV l) ∧ Below W.heap.size W w' := by
  have hl : l.length = n := by have := h.1; rw [bytesV_length] at this; omega
  rcases A with _ | a
  · have h0 : n = 0 := by
      rcases Nat.eq_zero_or_pos n with h0 | h0
      · exact h0
      · obtain ⟨b, off, h, _⟩ := h.2.2.2 h0; cases h
    subst h0
    obtain rfl : l = [] := List.eq_nil_of_length_eq_zero hl
    refine (Tryz.bytes_Clone_nil 0 c W).mono ?_
    rintro e w' ⟨rfl, rfl⟩
    exact ⟨_, rfl, World.ownsRow_nil _ _ _ _, Below.refl _ _⟩
  · have k := Tryz.bytes_Clone_at a n c (l.map fun c => (c.toNat : Int)) W (by rw [List.length_map, hl]) hn (fun i hi => by
      obtain ⟨b, off, e, _, hc⟩ := h.2.2.2 (by omega)
      injection e with e
      subst e
      rw [add_plain]
      have h1 : (bytesV l)[i]? = some (.int .u8 (l[i]'(by omega)).toNat) := by
        unfold bytesV
        rw [List.getElem?_map, List.getElem?_eq_getElem (by omega)]
        rfl
      rw [hc i _ h1, List.getD_eq_getElem?_getD, List.getElem?_map, List.getElem?_eq_getElem (by omega)]
      rfl)
    rw [List.map_map] at k
    refine k.mono ?_
    rintro e w' ⟨v, he, ho, _, hb⟩
    exact ⟨v, he, ho, hb⟩
theorem qsize_any (g o n c : Nat) (A : Option Addr) (w : World) (hc : w.cell? ⟨g, o, none⟩ = some (.slice A n c)) :
    Calls Tryz.prog 47 #[.pointer (some ⟨g, o, none⟩)] w fun e w' => e = .returned (.int .i64 n) ∧ w' = w := by
  go_enter Tryz.func47, Tryz.ntmps47
  go_wp2
  go_ret
  exact ⟨rfl, rfl⟩
set_option maxHeartbeats 4000000 in
theorem qtake_any (g o n c : Nat) (A : Option Addr) (l : List UInt8) (m : Int) (T : Nat) (hT : (T : Int) = max 0 (min m (n : Int))) (w : World) (t : TypeId) (cs : List Value) (hr : RowAt w g t cs) (ho : cs[o]? = some (.slice A n c)) (hq : QIn w g A n c l) (hn : n ≤ 140737488355328) :
    Calls Tryz.prog 37 #[.pointer (some ⟨g, o, none⟩), .int .i64 m] w fun e w' => ∃ v, e = .returned v ∧ w'.ownsRow w.heap.size 5 1 v T (bytesV (l.take T)) ∧ RowAt w' g t (cs.set o (.slice (sliceA A c T) (n - T) (c - T))) ∧ Save w.heap.size g w w' := by
  have hol : o < cs.length := by
    rcases Nat.lt_or_ge o cs.length with h | h
    · exact h
    · rw [List.getElem?_eq_none h] at ho; cases ho
  have hTn : T ≤ n := by omega
  have hnc := hq.1.2.1
  have hTc : (T : Int) ≤ (c : Int) := by omega
  have c0 := hr.cell ho
  have CL := Lib.hid (bclone_any A T c (l.take T) w w.heap.size (by
    have h := sub_any hq.1 0 T (Nat.zero_le _) hTn
    rw [Nat.sub_zero, Nat.sub_zero, List.drop_zero] at h
    refine ⟨h.1, h.2.1, h.2.2.1, fun hp => ?_⟩
    obtain ⟨b, off, e, hb, hc⟩ := h.2.2.2 hp
    obtain ⟨b', off', rfl, _, _⟩ := hq.1.2.2.2 (by omega)
    refine ⟨b', off', rfl, ?_⟩
    unfold sliceA at e
    split at e
    · injection e with e; injection e with e1 e2; subst e1 e2; exact ⟨hb, hc⟩
    · simp only [Option.map_some, Option.some.injEq, add_plain] at e
      injection e with e1 e2
      subst e1 e2
      exact ⟨hb, hc⟩) (by omega))
  have Hr := Lib.hid hr
  have hT2 : max 0 (min m (n : Int)) = (T : Int) := hT.symm
  have Hol := Lib.hid hol
  have Ho := Lib.hid ho
  clear hT hr ho hq hol
  go_enter Tryz.func37, Tryz.ntmps37
  go_wp2_with (first
    | (go_at_call 86; (with_reducible refine CL.out.mono ?_); rintro e w2 ⟨v, rfl, hown, hb2⟩; have O2 := Lib.hid hown; have B2 := Lib.hid hb2; have R2 := Lib.hid (Hr.out.below hb2 Hr.out.lt); have d0 := R2.out.cell Ho.out; have f0 := R2.out.frozen Hol.out; clear hown hb2 c0)
    | (refine wpList_slice_l rfl 25 5 _ _ rfl Tryz.underlying25 (by kernel_rfl) A n c T rfl rfl hTn ?_))
  go_ret
  exact ⟨_, rfl, own_far' O2.out _ Hr.out.lt, R2.out.set_ Hol.out _, (below_save B2.out).setCell o _⟩
end Go.Proofs.YtniiadhhefgmcaaGreatDoor

/- origin.New: an exchange begun; Out, size. Condition: what Print answers is a hypothesis. -/
namespace Go.Proofs.YtniiadhhefgmcaaGreatDoor
open Go.RowKit IH
set_option maxRecDepth 100000
set_option maxHeartbeats 4000000 in
theorem onew_good (C : List Value) (hC : RightC C) (me : ByteArray) (hst : C[2]? = some (.int .i64 0)) (hme : C[0]? = some (.string me)) (N : List UInt8) (w : World)
    (PC : ∀ W, Below w.heap.size w W → Calls Tryz.prog 32 #[.agg C.toArray, .string ⟨#[]⟩] W fun e w' => (∃ v, e = .returned (.tuple #[v, .int .i64 0]) ∧ w'.ownsRow W.heap.size 5 1 v N.length (bytesV N)) ∧ Below W.heap.size W w') :
    Calls Tryz.prog 10 #[.agg C.toArray] w fun e w' => (∃ g rg dg A c, e = .returned (.tuple #[.pointer (some ⟨g, 0, none⟩), .int .i64 0]) ∧ RowAt w' g 82 [.slice none 0 0, .slice A N.length c, .string me, .pointer (some ⟨rg, 0, none⟩), .int .i64 0, .bool false] ∧
      SliceIn w' g 1 A N.length c (bytesV N) ∧ RowAt w' rg 122 (rdV dg (Rd.new false me.data.toList) (.slice none 0 0)) ∧ RowAt w' dg 146 (decV Dec.new) ∧ w.heap.size ≤ dg ∧ w.heap.size ≤ rg ∧ rg ≠ dg ∧ rg < g ∧ dg < g) ∧ Below w.heap.size w w' := by
  have HMi : Hid ((Tryz.prog.info? 27).map (·.size) = some 7) := Lib.hid (by kernel_rfl)
  obtain ⟨w1, hw1⟩ : ∃ W : World, w.alloc (.cells C.toArray 27) = W := ⟨_, rfl⟩
  have B1 : Hid (Below w.heap.size w w1) := Lib.hid (by rw [← hw1]; exact (Below.refl _ _).alloc (Nat.le_refl _) _)
  have Ra1 : Hid (RowAt w1 w.heap.size 27 C) := Lib.hid (by rw [← hw1]; exact RowAt.new w 27 C)
  have HCi : Hid ((Tryz.prog.info? 27).map (·.size) = some C.length) := Lib.hid (by rw [hC.1]; exact HMi.out)
  have Hst := Lib.hid hst
  have Hme := Lib.hid hme
  have NR := Lib.hid (fun W => mnew_any false me W)
  replace PC := Lib.hid PC
  clear hC hst hme
  go_enter Tryz.func10, Tryz.ntmps10
  go_upto_region 1 with fail
  clear hw1
  go_upto_region 4 with (first
    | (refine wpList_load_g (by first | exact wanted_un rfl | exact wanted_yes rfl rfl rfl rfl | exact (wanted_is rfl rfl rfl rfl).trans (by simp)) 27 _ rfl w.heap.size 0 rfl C _ (rangeOf Ra1.out) Tryz.underlying27 rfl HCi.out ?_)
    | (go_at_call 32; (with_reducible refine (PC.out _ B1.out).mono ?_); rintro e w2 ⟨⟨v, rfl, hown⟩, hb2⟩; obtain ⟨A, c, rfl, hin⟩ := own_slice hown; have HI := Lib.hid hin; have B2 := Lib.hid (below_step B1.out hb2); have R2 := Lib.hid (Ra1.out.below hb2 Ra1.out.lt); have c2 := R2.out.cell Hst.out; have c0 := R2.out.cell Hme.out; clear hb2 hown hin))
  clear c2
  have RM := Lib.hid R2.out
  refine wp_region_tree (fun W => Below w2.heap.size w2 W) (.take 0 (.take 1 (.take 2 (.take 3 (.take 4 (.take 5 (.take 6 (.take 7 (.node (.fork 8 (.take 9 (.node (.fork 10 (.take 11 (.take 12 (.done))) (.stop)))) (.stop))))))))))) (by kernel_rfl) (by kernel_rfl) (of_decide_eq_true (by kernel_rfl)) rfl (by kernel_rfl) (below_drewN (Below.refl _ _) 1) ?_
  intro w1 hH
  iterate 8
    refine tree_take (v := ?_) rfl (by rfl) ?_ ?_
    rotate_left
    · intro w2 hSw
      have ra := RM.out.below hSw RM.out.lt
      have x0 := ra.cell (j := 0) Hme.out
      clear ra
      clear hSw
      go_simp
      try with_reducible rfl
    try simp only [Act.put, List.setIfInBounds_toArray, List.set_cons_zero, List.set_cons_succ]
  refine tree_node ?_
  refine tree_move rfl (by rfl) (fun K hK => ?_) ?_
  · go_simp
    (with_reducible refine (NR.out _).mono ?_)
    rintro e w5 ⟨rg, dg, rfl, h1, h2, h3, hrr, hrd, hb5⟩
    refine hK.out _ _ (below_step hH.out hb5) ?_
    have RR := Lib.hid hrr
    have RD := Lib.hid hrd
    have HG := Lib.hid (And.intro (Nat.le_trans hH.out.size h1) (And.intro (Nat.le_trans hH.out.size h2) h3))
    clear hH hK K h1 h2 h3 hrr hrd hb5
    intro hH
    try simp only [Act.put, List.setIfInBounds_toArray, List.set_cons_zero, List.set_cons_succ]
    iterate 1
      refine tree_take (v := ?_) rfl (by rfl) ?_ ?_
      rotate_left
      · intro w2 hSw
        have ra := RM.out.below hSw RM.out.lt
        have x0 := ra.cell (j := 0) Hme.out
        clear ra
        clear hSw
        go_simp
        try with_reducible rfl
      try simp only [Act.put, List.setIfInBounds_toArray, List.set_cons_zero, List.set_cons_succ]
    refine tree_node ?_
    refine tree_move rfl (by rfl) (fun K hK => ?_) ?_
    · go_simp
      refine hK.out _ _ (hH.out.alloc hH.out.size _) ?_
      have RX := Lib.hid (row_at hH 82 [.slice none 0 0, .slice A N.length c, .string me, .pointer (some ⟨rg, 0, none⟩), .int .i64 0, .bool false])
      have FR := Lib.hid (RR.out.alloc (.cells #[.slice none 0 0, .slice A N.length c, .string me, .pointer (some ⟨rg, 0, none⟩), .int .i64 0, .bool false] 82))
      have FD := Lib.hid (RD.out.alloc (.cells #[.slice none 0 0, .slice A N.length c, .string me, .pointer (some ⟨rg, 0, none⟩), .int .i64 0, .bool false] 82))
      have HL := Lib.hid (And.intro RR.out.lt RD.out.lt)
      have HZ := Lib.hid hH.out.size
      clear hH hK K
      intro hH
      try simp only [Act.put, List.setIfInBounds_toArray, List.set_cons_zero, List.set_cons_succ]
      iterate 2
        refine tree_take (v := ?_) rfl (by rfl) ?_ ?_
        rotate_left
        · intro w2 hSw
          have ra := RM.out.below hSw RM.out.lt
          have x0 := ra.cell (j := 0) Hme.out
          clear ra
          clear hSw
          go_simp
          try with_reducible rfl
        try simp only [Act.put, List.setIfInBounds_toArray, List.set_cons_zero, List.set_cons_succ]
      refine tree_done ?_
      have hF := hH.out
      clear hH
      go_wp2_with fail
      go_ret2
      exact ⟨⟨w5.heap.size, rg, dg, A, c, rfl, RX.out, (HI.out.below hF).more HZ.out, FR.out, FD.out, Nat.le_trans B2.out.size HG.out.2.1, Nat.le_trans B2.out.size HG.out.1, HG.out.2.2, HL.out.1, HL.out.2⟩, below_step B2.out hF⟩
    exact tree_stop
  exact tree_stop
theorem oout_any (g n c : Nat) (A : Option Addr) (l : List UInt8) (vi me rd er fi : Value) (m : Int) (T : Nat) (hT : (T : Int) = max 0 (min m (n : Int))) (w : World) (hr : RowAt w g 82 [vi, .slice A n c, me, rd, er, fi]) (hq : QIn w g A n c l) (hn : n ≤ 140737488355328) :
    Calls Tryz.prog 12 #[.pointer (some ⟨g, 0, none⟩), .int .i64 m] w fun e w' => ∃ v, e = .returned v ∧ w'.ownsRow w.heap.size 5 1 v T (bytesV (l.take T)) ∧ RowAt w' g 82 [vi, .slice (sliceA A c T) (n - T) (c - T), me, rd, er, fi] ∧ Save w.heap.size g w w' := by
  have TK := Lib.hid (qtake_any g 1 n c A l m T hT w _ _ hr rfl hq hn)
  clear hr hq hT
  go_enter Tryz.func12, Tryz.ntmps12
  go_wp2_with (go_at_call 37; (with_reducible refine TK.out.mono ?_); rintro e w2 ⟨v, rfl, hown, hrow, hsv⟩; have HA := Lib.hid (And.intro hown (And.intro hrow hsv)); clear hown hrow hsv)
  go_ret
  exact ⟨_, rfl, HA.out⟩
theorem owait_any (g n c : Nat) (A : Option Addr) (vo me rd er fi : Value) (w : World) (hr : RowAt w g 82 [.slice A n c, vo, me, rd, er, fi]) :
    Calls Tryz.prog 22 #[.pointer (some ⟨g, 0, none⟩)] w fun e w' => e = .returned (.int .i64 n) ∧ w' = w := by
  have SZ := Lib.hid (qsize_any g 0 n c A w (hr.cell (j := 0) rfl))
  clear hr
  go_enter Tryz.func22, Tryz.ntmps22
  go_wp2_with (go_at_call 47; (with_reducible refine SZ.out.mono ?_); rintro e w2 ⟨rfl, rfl⟩)
  go_ret
  exact ⟨rfl, rfl⟩
end Go.Proofs.YtniiadhhefgmcaaGreatDoor

/- Layer 23's queues: an append onto a slice that lies anywhere in its block; put, In. Condition: lengths within bounds. -/
namespace Go.Proofs.YtniiadhhefgmcaaGreatDoor
open Go.RowKit IH
set_option maxRecDepth 100000
/-- A queue's slice that is its own: nil, or somewhere in a block of octets from base on. -/
def QOwn (W : World) (base : Nat) (v : Value) (n : Nat) (l : List UInt8) : Prop :=
  l.length = n ∧ ((v = .slice none 0 0 ∧ n = 0) ∨ ∃ g off c cs, v = .slice (some ⟨g, off, none⟩) n c ∧ base ≤ g ∧ n ≤ c ∧ c ≤ maxLen ∧ off + c ≤ cs.length ∧ RowAt W g 5 cs ∧ (cs.drop off).take n = bytesV l)
/-- The block in which a slice lies. -/
def qb (v : Value) : Option Nat := match v with | .slice (some a) _ _ => some a.block | _ => none
theorem QOwn.nil (W : World) (base : Nat) : QOwn W base (.slice none 0 0) 0 [] := ⟨rfl, .inl ⟨rfl, rfl⟩⟩
theorem QOwn.at {off n : Nat} {cs : List Value} {l : List UInt8} (h : (cs.drop off).take n = bytesV l) {j : Nat} {u : Value} (hu : (bytesV l)[j]? = some u) : cs[off + j]? = some u := by
  rw [← h] at hu
  have hj : j < n := by
    rcases Nat.lt_or_ge j n with h1 | h1
    · exact h1
    · rw [List.getElem?_eq_none (by rw [List.length_take]; omega)] at hu; cases hu
  rw [List.getElem?_take_of_lt hj, List.getElem?_drop] at hu
  exact hu
theorem run_append_q (W : World) (base n : Nat) (v : Value) (l : List UInt8) (ty : TypeId) (h : QOwn W base v n l) (hbase : base ≤ W.heap.size)
    (B : Nat) (A : Option Addr) (m c : Nat) (r : List UInt8) (hs : SliceIn W B 1 A m c (bytesV r)) (hb : n + m ≤ 140737488355328) :
    ∃ v' w', (Builtin.append_ #[25, 25] ty #[v, .slice A m c]).run Tryz.prog W = .ok v' w' ∧ QOwn w' base v' (n + m) (l ++ r) ∧ (∀ gq, (∀ a k d, v = .slice (some a) k d → a.block = gq) → Save W.heap.size gq W w') ∧ (qb v' = qb v ∨ ∃ k, qb v' = some k ∧ W.heap.size ≤ k) := by
  have T := u8_ty
  obtain ⟨i, hi, hz, hsz, hby⟩ := info_parts T.hi
  have hrl : r.length = m := by have := hs.1; rw [bytesV_length] at this; omega
  have hm0 : A = none → m = 0 := fun e => by
    subst e
    rcases Nat.eq_zero_or_pos m with h0 | h0
    · exact h0
    · obtain ⟨b, off, h, _⟩ := hs.2.2.2 h0; cases h
  have hsave : ∀ gq, Save W.heap.size gq W W := fun gq => below_save (Below.refl _ _)
  have hcells : ∀ ad, A = some ad → ∀ j u, (bytesV r)[j]? = some u → W.cell? (ad.add j) = some u := by
    intro ad hA j u hu
    rcases Nat.eq_zero_or_pos m with h0 | h0
    · have hn : r = [] := List.eq_nil_of_length_eq_zero (by omega)
      subst hn
      simp [bytesV] at hu
    · obtain ⟨b, off, h, _, hcc⟩ := hs.2.2.2 h0
      rw [h] at hA
      injection hA with hA
      subst hA
      rw [add_plain]
      exact hcc j u hu
  have hone : ∀ u ∈ bytesV r, u.oneCell' = true := fun u hu => by
    obtain ⟨x, _, rfl⟩ := List.mem_map.1 hu
    rfl
  obtain ⟨hl, hv⟩ := h
  rcases hv with ⟨rfl, rfl⟩ | ⟨g, off, cap, cs, rfl, hg, hnc, hcm, hof, hr, hcs⟩
  · obtain rfl : l = [] := List.eq_nil_of_length_eq_zero hl
    rcases Nat.eq_zero_or_pos m with h0 | h0
    · subst h0
      obtain rfl : r = [] := List.eq_nil_of_length_eq_zero hrl
      refine ⟨.slice none 0 0, W, ?_, ⟨rfl, .inl ⟨rfl, rfl⟩⟩, fun gq _ => hsave gq, .inl rfl⟩
      rcases A with _ | ad
      · simp [Builtin.append_, run_underlying T.ht, sizeOf, typeInfo, hi, Builtin.lenOf, Builtin.firstCells]
      · have hf := run_firstCells_some (P := Tryz.prog) W 1 0 ad 0 c [] rfl (fun j v h => by simp at h)
        simp [Builtin.append_, run_underlying T.ht, sizeOf, typeInfo, hi, hsz, Builtin.lenOf, hf]
    · rcases A with _ | ad
      · exact absurd (hm0 rfl) (by omega)
      · have hrun := run_append_nil (P := Tryz.prog) (w := W) 25 ty 5 i (.int .u8 0) T.ht hi hz ad m c (bytesV r) (by rw [hsz, bytesV_length, hrl]; omega) (hcells ad rfl) h0 (by omega) (by rw [hby]; omega)
        have hge := grownCap_ge W m 0 5
        have hcm2 := grownCap_le_maxLen W m 0 5 (by simp only [maxLen]; omega)
        have hnew := RowAt.new W.drew 5 (bytesV r ++ (Builtin.zeroCells (Value.int .u8 0).cells (grownCap W m 0 5 - m)).toList)
        have hsame : (bytesV r ++ (Builtin.zeroCells (Value.int .u8 0).cells (grownCap W m 0 5 - m)).toList).toArray = (bytesV r).toArray ++ Builtin.zeroCells (Value.int .u8 0).cells (grownCap W m 0 5 - m) := by
          apply Array.ext'
          simp
        rw [hsame] at hnew
        rw [Nat.zero_add]
        refine ⟨_, _, hrun, ⟨by simpa using hrl, .inr ⟨W.heap.size, 0, _, _, rfl, hbase, hge, hcm2, ?_, hnew, ?_⟩⟩, fun gq _ => below_save ((below_drewN (Below.refl W.heap.size W) 1).alloc (Nat.le_refl _) _), .inr ⟨_, rfl, Nat.le_refl _⟩⟩
        · rw [List.length_append, bytesV_length, zeroCells_size]; show 0 + _ ≤ r.length + _ * 1; omega
        · rw [List.drop_zero, List.take_append_of_le_length (by rw [bytesV_length]; omega), List.take_of_length_le (by rw [bytesV_length]; omega)]
          rfl
  · have hln : (bytesV l).length = n := by rw [bytesV_length]; exact hl
    rcases A with _ | ad
    · have h0 := hm0 rfl
      subst h0
      obtain rfl : r = [] := List.eq_nil_of_length_eq_zero hrl
      refine ⟨_, W, ?_, ⟨by rw [List.append_nil]; exact hl, .inr ⟨g, off, cap, cs, rfl, hg, hnc, hcm, hof, hr, by rw [List.append_nil]; exact hcs⟩⟩, fun gq _ => hsave gq, .inl rfl⟩
      simp [Builtin.append_, run_underlying T.ht, sizeOf, typeInfo, hi, Builtin.lenOf, Builtin.firstCells, hnc, storeCells]
    · have hlr : (bytesV r).length = m := by rw [bytesV_length]; exact hrl
      by_cases hroom : n + m ≤ cap
      · have hf := run_firstCells_some (P := Tryz.prog) W 1 m ad m c (bytesV r) (by omega) (hcells ad rfl)
        have hsplit : cs = cs.take (off + n) ++ ((cs.drop (off + n)).take m ++ (cs.drop (off + n)).drop m) := by rw [List.take_append_drop, List.take_append_drop]
        have hr2 := hr
        rw [hsplit] at hr2
        have hst := run_storeCells_cells (P := Tryz.prog) g (off + n) (bytesV r) 0 W (fun j hj => by
            have hlt : off + n + 0 + j < cs.length := by omega
            rw [hr.cell (j := off + n + 0 + j) (List.getElem?_eq_getElem hlt)]; rfl)
          (fun j hj => hr.frozen (by omega)) hone
        have hpl : (cs.take (off + n)).length = off + n := by rw [List.length_take]; omega
        have hrow := row_sets_mid (bytesV r) ((cs.drop (off + n)).take m) (cs.take (off + n)) ((cs.drop (off + n)).drop m) W hr2 (by rw [List.length_take, List.length_drop]; omega)
        rw [hpl] at hrow
        have ho := Only.setCells g (bytesV r) (off + n) W
        simp only [Nat.add_zero] at hst
        refine ⟨.slice (some ⟨g, off, none⟩) (n + m) cap, W.setCells g (off + n) (bytesV r), ?_, ⟨by rw [List.length_append]; omega, .inr ⟨g, off, cap, _, rfl, hg, hroom, hcm, ?_, hrow, ?_⟩⟩, fun gq hgq => by
          have e := hgq _ _ _ rfl
          subst e
          exact (hsave _).only ho, .inl rfl⟩
        · simp [Builtin.append_, run_underlying T.ht, sizeOf, typeInfo, hi, hsz, Builtin.lenOf, hroom, hf, Addr.add_lit, hst]
        · simp only [List.length_append, List.length_take, List.length_drop]
          omega
        · rw [List.drop_append_of_le_length (by omega), List.drop_take, Nat.add_sub_cancel_left, hcs, ← List.append_assoc, List.take_append_of_le_length (by rw [List.length_append]; omega), List.take_of_length_le (by rw [List.length_append]; omega)]
          simp [bytesV]
      · have hrun := run_append_grow (P := Tryz.prog) W 25 ty 5 i (.int .u8 0) T.ht hi hz ⟨g, off, none⟩ n cap (bytesV l) (by rw [hsz]; omega) (fun j u hu => by rw [add_plain]; exact hr.cell (QOwn.at hcs hu)) ad m c (bytesV r) (by rw [hsz]; omega) (hcells ad rfl) (by omega) (by omega) (growslice_fits (by omega) (by rw [hby]; omega))
        have hge := grownCap_ge W (n + m) cap 5
        have hcm2 := grownCap_le_maxLen W (n + m) cap 5 (by simp only [maxLen]; omega)
        have hnew := RowAt.new W.drew 5 (bytesV l ++ bytesV r ++ (Builtin.zeroCells (Value.int .u8 0).cells (grownCap W (n + m) cap 5 - (n + m))).toList)
        have hsame : (bytesV l ++ bytesV r ++ (Builtin.zeroCells (Value.int .u8 0).cells (grownCap W (n + m) cap 5 - (n + m))).toList).toArray = (bytesV l).toArray ++ (bytesV r).toArray ++ Builtin.zeroCells (Value.int .u8 0).cells (grownCap W (n + m) cap 5 - (n + m)) := by
          apply Array.ext'
          simp
        rw [hsame] at hnew
        refine ⟨_, _, hrun, ⟨by rw [List.length_append]; omega, .inr ⟨W.heap.size, 0, _, _, rfl, hbase, hge, hcm2, ?_, hnew, ?_⟩⟩, fun gq _ => below_save ((below_drewN (Below.refl W.heap.size W) 1).alloc (Nat.le_refl _) _), .inr ⟨_, rfl, Nat.le_refl _⟩⟩
        · rw [List.length_append, List.length_append, zeroCells_size]
          show 0 + _ ≤ (bytesV l).length + (bytesV r).length + _ * 1
          omega
        · rw [List.drop_zero, List.take_append_of_le_length (by rw [List.length_append]; omega), List.take_of_length_le (by rw [List.length_append]; omega)]
          simp [bytesV]
theorem QOwn.slice {W : World} {base n : Nat} {v : Value} {l : List UInt8} (h : QOwn W base v n l) : ∃ A c, v = .slice A n c := by
  rcases h.2 with ⟨rfl, rfl⟩ | ⟨g, off, c, cs, rfl, _⟩
  · exact ⟨none, 0, rfl⟩
  · exact ⟨_, c, rfl⟩
/-- As it lies, if its block is as it was. -/
theorem QOwn.keep {W W' : World} {base n : Nat} {v : Value} {l : List UInt8} (h : QOwn W base v n l) (hk : ∀ g cs, base ≤ g → RowAt W g 5 cs → W'.heap[g]? = W.heap[g]?) : QOwn W' base v n l := by
  refine ⟨h.1, ?_⟩
  rcases h.2 with h2 | ⟨g, off, c, cs, rfl, hg, h3, h4, h5, hr, h6⟩
  · exact .inl h2
  · exact .inr ⟨g, off, c, cs, rfl, hg, h3, h4, h5, hr.keep (hk g cs hg hr), h6⟩
theorem QOwn.set_ {W : World} {base n g o : Nat} {t : TypeId} {v u : Value} {l : List UInt8} {cs : List Value} (h : QOwn W base v n l) (hg : RowAt W g t cs) (ht : t ≠ 5) : QOwn (W.setCell ⟨g, o, none⟩ u) base v n l :=
  h.keep fun k _ _ hr => Below.heap_setCell W ⟨g, o, none⟩ u k (fun e => by
    subst e
    obtain ⟨c1, a1, b1, q1, _⟩ := hr
    obtain ⟨c2, a2, b2, q2, _⟩ := hg
    rw [q1] at q2
    simp only [Option.some.injEq, Obj.cells.injEq] at q2
    exact ht q2.2.1.symm)
/-- Its octets, as a slice that is read. -/
theorem QOwn.in_ {W : World} {base n : Nat} {A : Option Addr} {c : Nat} {l : List UInt8} (h : QOwn W base (.slice A n c) n l) : SliceIn W W.heap.size 1 A n c (bytesV l) := by
  obtain ⟨hl, h2 | ⟨g, off, c', cs, hv, hg, h3, h4, h5, hr, h6⟩⟩ := h
  · obtain ⟨hv, rfl⟩ := h2
    injection hv with e1 _ e3
    subst e1 e3
    obtain rfl : l = [] := List.eq_nil_of_length_eq_zero hl
    exact SliceIn.none_ (Nat.zero_le _)
  · injection hv with e1 _ e3
    subst e1 e3
    exact ⟨by rw [bytesV_length]; omega, h3, h4, fun _ => ⟨g, off, rfl, hr.lt, fun j u hu => hr.cell (QOwn.at h6 hu)⟩⟩
theorem wpList_append_q {W : World} {ops : Array Oper} {rest : List Oper} {o : Oper} {a : Act} {Q : Exit → Act → World → Prop} (hgd : o.guard = none) (s x : Operand) (ho : o.op = .call { callee := .builtin .append, args := #[s, x], argTypes := #[25, 25] })
    (base n : Nat) (v : Value) (l : List UInt8) (hv : a.eval s = v) (h : QOwn W base v n l) (hbase : base ≤ W.heap.size) (B : Nat) (A : Option Addr) (m c : Nat) (r : List UInt8) (hu : a.eval x = .slice A m c) (hs : SliceIn W B 1 A m c (bytesV r)) (hb : n + m ≤ 140737488355328)
    (hK : ∀ v' w', QOwn w' base v' (n + m) (l ++ r) → (∀ gq, (∀ a k d, v = .slice (some a) k d → a.block = gq) → Save W.heap.size gq W w') → (qb v' = qb v ∨ ∃ k, qb v' = some k ∧ W.heap.size ≤ k) → wpList Tryz.prog ops Q rest (a.put o.dst v') w') : wpList Tryz.prog ops Q (o :: rest) a W := by
  refine wpList_plain hgd fun K hK' => ?_
  obtain ⟨v', w', hrun, h2, h3, h4⟩ := run_append_q W base n v l o.type h hbase B A m c r hs hb
  unfold Oper.wp execOp
  simp only [ho, resolve, invoke, builtin, Sem.run_bind, Sem.run_pure, Result.andThen_ok, List.map_toArray, List.map_cons, List.map_nil, hv, hu, hrun]
  exact hK' _ _ (hK v' w' h2 h3 h4)
theorem qput_any (g o base n : Nat) (v : Value) (l : List UInt8) (w : World) (t : TypeId) (cs : List Value) (hr : RowAt w g t cs) (ho : cs[o]? = some v) (ht : t ≠ 5) (h : QOwn w base v n l) (hbase : base ≤ w.heap.size)
    (B : Nat) (A : Option Addr) (m c : Nat) (r : List UInt8) (hs : SliceIn w B 1 A m c (bytesV r)) (hb : n + m ≤ 140737488355328) :
    Calls Tryz.prog 41 #[.pointer (some ⟨g, o, none⟩), .slice A m c] w fun e w' => e = .returned (.tuple #[]) ∧ ∃ v', RowAt w' g t (cs.set o v') ∧ QOwn w' base v' (n + m) (l ++ r) ∧ (∀ gq, (∀ a k d, v = .slice (some a) k d → a.block = gq) → Save2 w.heap.size gq g w w') ∧ (qb v' = qb v ∨ ∃ k, qb v' = some k ∧ w.heap.size ≤ k) := by
  have hol : o < cs.length := by
    rcases Nat.lt_or_ge o cs.length with h | h
    · exact h
    · rw [List.getElem?_eq_none h] at ho; cases ho
  obtain ⟨Av, cv, rfl⟩ := h.slice
  have c0 := hr.cell ho
  have hkeep : ∀ w1, (∀ gq, (∀ a k d, (Value.slice Av n cv) = .slice (some a) k d → a.block = gq) → Save w.heap.size gq w w1) → RowAt w1 g t cs := by
    intro w1 hsv
    rcases h.2 with ⟨hv, _⟩ | ⟨gq, off, cq, xs, hv, _, _, _, _, hrq, _⟩
    · have s := hsv (g + 1) (fun a k d e => by rw [hv] at e; injection e with e; cases e)
      exact hr.keep (s.block g hr.lt (by omega))
    · have s := hsv gq (fun a k d e => by rw [hv] at e; injection e with e; injection e with e; subst e; rfl)
      exact hr.keep (s.block g hr.lt (fun e => by
        subst e
        obtain ⟨c1, a1, b1, q1, _⟩ := hr
        obtain ⟨c2, a2, b2, q2, _⟩ := hrq
        rw [q1] at q2
        simp only [Option.some.injEq, Obj.cells.injEq] at q2
        exact ht q2.2.1))
  have HK := Lib.hid hkeep
  have HQ := Lib.hid h
  have HS := Lib.hid hs
  have Hol := Lib.hid hol
  clear hkeep h hs ho hr hol
  go_enter Tryz.func41, Tryz.ntmps41
  go_wp2_with (at_builtin; refine wpList_append_q rfl _ _ rfl base n _ l rfl HQ.out hbase B A m c r rfl HS.out hb ?_; intro v1 w1 hq1 hsv hnl; have NLV := Lib.hid hnl; obtain ⟨A1, d1, rfl⟩ := hq1.slice; have Q1 := Lib.hid hq1; have R1 := Lib.hid (HK.out w1 hsv); have f1 := R1.out.frozen Hol.out; have e1 : w1.cell? ⟨g, o, none⟩ = some (cs[o]'Hol.out) := (R1.out.cell (List.getElem?_eq_getElem Hol.out)); have SV := Lib.hid hsv; clear c0 hq1 hsv hnl)
  go_end0
  exact ⟨rfl, _, R1.out.set_ Hol.out _, Q1.out.set_ R1.out ht, fun gq hgq => ((SV.out gq hgq).left).trans (Save.right ((below_save (Below.refl _ _)).setCell o _)), NLV.out⟩
end Go.Proofs.YtniiadhhefgmcaaGreatDoor

/- Layer 23: In, Done, and short (the laws' own bound). Condition: as they state. -/
namespace IH
/-- Few fields, none long; a short body. -/
def shortM (L : List Fld) (n : Nat) : Bool := decide (L.length ≤ 40) && (decide (n ≤ 2000) && L.all fun f => decide (f.1.length ≤ 300) && decide (f.2.length ≤ 500))
theorem shortM_long {L : List Fld} {n k : Nat} {f : Fld} (h : L[k]? = some f) (hf : ¬ (f.1.length ≤ 300 ∧ f.2.length ≤ 500)) : shortM L n = false := by
  unfold shortM
  rw [show (L.all fun f => decide (f.1.length ≤ 300) && decide (f.2.length ≤ 500)) = false from by
    rw [List.all_eq_false]
    exact ⟨f, List.mem_of_getElem? h, by simpa using hf⟩]
  simp
end IH
namespace Go.Proofs.YtniiadhhefgmcaaGreatDoor
open Go.RowKit IH
set_option maxRecDepth 100000
theorem oin_any (g base n : Nat) (v vo me rd er : Value) (l : List UInt8) (w : World) (hr : RowAt w g 82 [v, vo, me, rd, er, .bool false]) (h : QOwn w base v n l) (hbase : base ≤ w.heap.size)
    (B : Nat) (A : Option Addr) (m c : Nat) (r : List UInt8) (hs : SliceIn w B 1 A m c (bytesV r)) (hb : n + m ≤ 140737488355328) :
    Calls Tryz.prog 15 #[.pointer (some ⟨g, 0, none⟩), .slice A m c] w fun e w' => e = .returned (.tuple #[]) ∧ ∃ v', RowAt w' g 82 [v', vo, me, rd, er, .bool false] ∧ QOwn w' base v' (n + m) (l ++ r) ∧ (∀ gq, (∀ a k d, v = .slice (some a) k d → a.block = gq) → Save2 w.heap.size gq g w w') ∧ (qb v' = qb v ∨ ∃ k, qb v' = some k ∧ w.heap.size ≤ k) := by
  have PT := Lib.hid (qput_any g 0 base n v l w _ _ hr rfl (by decide) h hbase B A m c r hs hb)
  have c5 := hr.cell (j := 5) rfl
  clear hr h hs
  go_enter Tryz.func15, Tryz.ntmps15
  go_wp2_with (go_at_call 41; (with_reducible refine PT.out.mono ?_); rintro e w2 ⟨rfl, v', h1⟩; have H1 := Lib.hid h1; clear h1)
  go_end0
  exact ⟨rfl, v', H1.out⟩
set_option maxHeartbeats 4000000 in
theorem short_any (A1 A2 : Option Addr) (n1 n2 c1 c2 : Nat) (L : List Fld) (w : World) (h1 : SliceIn w w.heap.size 2 A1 n1 c1 (fldsV L)) (h63 : n2 ≤ 9223372036854775807) :
    Calls Tryz.prog 9 #[.slice A1 n1 c1, .slice A2 n2 c2] w fun e w' => e = .returned (.bool (shortM L n2)) ∧ w = w' := by
  have hL := fld_count h1
  have hm : n1 ≤ 9223372036854775807 := by have := h1.2.1; have := h1.2.2.1; simp only [maxLen] at this; omega
  by_cases ha : 40 < n1
  · have e : shortM L n2 = false := by unfold shortM; rw [decide_eq_false (by omega)]; rfl
    rw [e]
    clear e h1 hL
    go_enter Tryz.func9, Tryz.ntmps9
    go_wp2
    go_ret
    exact ⟨rfl, rfl⟩
  · by_cases hb : 2000 < n2
    · have e : shortM L n2 = false := by unfold shortM; rw [decide_eq_false (show ¬ n2 ≤ 2000 by omega)]; simp
      rw [e]
      clear e h1 hL
      go_enter Tryz.func9, Tryz.ntmps9
      go_wp2
      go_ret
      exact ⟨rfl, rfl⟩
    · have HL := Lib.hid hL
      have HS := Lib.hid h1
      obtain ⟨T, hT⟩ : ∃ T, shortM L n2 = T := ⟨_, rfl⟩
      have HT := Lib.hid hT
      rw [hT]
      clear hL h1 hT
      go_enter Tryz.func9, Tryz.ntmps9
      go_wp2
      go_loop [5] (fun i => ∃ k : Nat, k ≤ n1 ∧ i = .int .i64 k ∧ ∀ f ∈ L.take k, f.1.length ≤ 300 ∧ f.2.length ≤ 500) (fun i => n1 - (intOf i).toNat)
      case atStart => exact ⟨0, by omega, rfl, by simp⟩
      case round =>
        obtain ⟨k, hk, rfl, hall⟩ := hrel
        have Hall := Lib.hid hall
        clear hall
        by_cases hlt : k < n1
        · obtain ⟨f, hf⟩ : ∃ f, L[k]? = some f := ⟨_, List.getElem?_eq_getElem (by have := HL.out; omega)⟩
          obtain ⟨b, off, rfl, hb', hc⟩ := HS.out.2.2.2 (by omega)
          have hg := fldsV_get L k f hf
          have x0 := hc _ _ hg.1
          have x1 := hc _ _ hg.2
          have s0 : (⟨f.1.toArray⟩ : ByteArray).size = f.1.length := size_mk _
          have s1 : (⟨f.2.toArray⟩ : ByteArray).size = f.2.length := size_mk _
          have HF := Lib.hid hf
          clear hf hg hc
          generalize (⟨f.1.toArray⟩ : ByteArray) = X at *
          generalize (⟨f.2.toArray⟩ : ByteArray) = Y at *
          rw [← Nat.add_assoc] at x1
          by_cases l0 : X.size ≤ 300
          · by_cases l1 : Y.size ≤ 500
            · have HN : Hid (∀ x ∈ L.take (k + 1), x.1.length ≤ 300 ∧ x.2.length ≤ 500) := Lib.hid (by
                rw [List.take_add_one, HF.out]
                intro x hx
                rcases List.mem_append.1 hx with hx | hx
                · exact Hall.out x hx
                · simp at hx; subst hx; exact ⟨by omega, by omega⟩)
              clear s0 s1
              go_wp2
              go_round
              case rel => exact ⟨k + 1, by omega, by go_num, HN.out⟩
              case measure => simp [intOf]; omega
            · have e : Hid (T = false) := Lib.hid (by rw [← HT.out]; exact shortM_long HF.out (by omega))
              have l1' : 500 < Y.size := by omega
              clear s0 s1 l1
              go_wp2
              go_ret
              exact ⟨by rw [e.out]; rfl, rfl⟩
          · have e : Hid (T = false) := Lib.hid (by rw [← HT.out]; exact shortM_long HF.out (by omega))
            have l0' : 300 < X.size := by omega
            clear s0 s1 l0
            go_wp2
            go_ret
            exact ⟨by rw [e.out]; rfl, rfl⟩
        · have hall := Hall.out
          rw [List.take_of_length_le (by have := HL.out; omega)] at hall
          have e : Hid (T = true) := Lib.hid (by
            rw [← HT.out]
            unfold shortM
            rw [decide_eq_true (by have := HL.out; omega), decide_eq_true (show n2 ≤ 2000 by omega), Bool.true_and, Bool.true_and, List.all_eq_true]
            intro f hf
            have := hall f hf
            simp [this])
          clear hall
          go_wp2
          go_ret
          exact ⟨by rw [e.out]; rfl, rfl⟩
end Go.Proofs.YtniiadhhefgmcaaGreatDoor

/- Layer 23: Done, Head of an exchange; the laws' own request (get). Condition: what the reader answers is a hypothesis. -/
namespace Go.Proofs.YtniiadhhefgmcaaGreatDoor
open Go.RowKit IH
set_option maxRecDepth 100000
theorem odone_any (g rg dg : Nat) (r : Rd) (F : Value) (vi vo me er fi : Value) (w : World) (hr : RowAt w g 82 [vi, vo, me, .pointer (some ⟨rg, 0, none⟩), er, fi]) (hrd : RowAt w rg 122 (rdV dg r F)) :
    Calls Tryz.prog 20 #[.pointer (some ⟨g, 0, none⟩)] w fun e w' => e = .returned (.bool (r.w == 3)) ∧ w = w' := by
  have DN := Lib.hid (rddone_any rg dg r F w hrd)
  have c3 := hr.cell (j := 3) rfl
  clear hr hrd
  go_enter Tryz.func20, Tryz.ntmps20
  go_wp2_with (go_at_call 45; (with_reducible refine DN.out.mono ?_); rintro e w2 ⟨rfl, rfl⟩)
  go_ret
  exact ⟨rfl, rfl⟩
set_option maxHeartbeats 4000000 in
theorem ohead_any (g rg : Nat) (vi vo me er fi : Value) (ok : Bool) (w : World) (R : List Value → World → Prop) (hr : RowAt w g 82 [vi, vo, me, .pointer (some ⟨rg, 0, none⟩), er, fi])
    (RH : ∀ W, Below w.heap.size w W → w.heap.size < W.heap.size → Calls Tryz.prog 44 #[.pointer (some ⟨rg, 0, none⟩)] W fun e w' => (∃ C, RightC C ∧ e = .returned (.tuple #[.agg C.toArray, .bool ok]) ∧ R C w') ∧ Below W.heap.size W w')
    (HR : ∀ C W W', R C W → Only w.heap.size W W' → R C W') :
    Calls Tryz.prog 19 #[.pointer (some ⟨g, 0, none⟩)] w fun e w' => (∃ C, RightC C ∧ e = .returned (.tuple #[.agg C.toArray, .bool ok]) ∧ R C w') ∧ Below w.heap.size w w' := by
  have HMi : Hid ((Tryz.prog.info? 27).map (·.size) = some 7) := Lib.hid (by kernel_rfl)
  obtain ⟨w1, hw1⟩ : ∃ W : World, w.alloc (.cells #[.string ⟨#[]⟩, .string ⟨#[]⟩, .int .i64 0, .string ⟨#[]⟩, .int .i64 0, .slice none 0 0, .slice none 0 0] 27) = W := ⟨_, rfl⟩
  have B1 : Hid (Below w.heap.size w w1) := Lib.hid (by rw [← hw1]; exact (Below.refl _ _).alloc (Nat.le_refl _) _)
  have Z1 : Hid (RowAt w1 w.heap.size 27 zeroM) := Lib.hid (by rw [← hw1]; exact RowAt.new w 27 zeroM)
  have R1 : Hid (RowAt w1 g 82 [vi, vo, me, .pointer (some ⟨rg, 0, none⟩), er, fi]) := Lib.hid (hr.below B1.out hr.lt)
  have c3 := R1.out.cell (j := 3) rfl
  replace RH := Lib.hid RH
  replace HR := Lib.hid HR
  clear hr
  go_enter Tryz.func19, Tryz.ntmps19
  go_wp2_with (first
    | (go_at_call 44; (with_reducible refine (RH.out _ B1.out Z1.out.lt).mono ?_); rintro e w2 ⟨⟨C, hC, rfl, hRC⟩, hb2⟩; have B2 := Lib.hid (below_step B1.out hb2); have Z2 := Lib.hid (Z1.out.below hb2 Z1.out.lt); have HC := Lib.hid hC; have HRC := Lib.hid hRC; have HCi : Hid ((Tryz.prog.info? 27).map (·.size) = some C.length) := Lib.hid (by rw [HC.out.1]; exact HMi.out); clear hb2 hC hRC)
    | (refine wpList_store_row rfl 27 _ _ rfl w.heap.size _ C zeroM rfl rfl Z2.out (by rw [HC.out.1]; rfl) HCi.out HC.out.2 ?_; intro wz hrz hoz; have RZ := Lib.hid hrz; have OZ := Lib.hid hoz; clear hrz hoz))
  refine bodyPost_ret (v := .tuple #[.agg C.toArray, .bool ok]) (results_cell_tmp8 Tryz.results19 _ wz ⟨w.heap.size, 0, none⟩ rfl (.agg C.toArray) (.bool ok) rfl (run_loadVar_mid wz w.heap.size 0 27 C _ (rangeOf RZ.out) Tryz.underlying27 rfl HCi.out)) rfl ?_
  exact ⟨⟨C, HC.out, rfl, HR.out _ _ _ HRC.out OZ.out⟩, OZ.out.below B2.out (Nat.le_refl _)⟩
end Go.Proofs.YtniiadhhefgmcaaGreatDoor

/- Layer 23: interim (a response below 200 that is whole is gone past). Condition: what the reader holds. Printed by tools/mkori6.py. -/
namespace Go.Proofs.YtniiadhhefgmcaaGreatDoor
open Go.RowKit IH
set_option maxRecDepth 100000
theorem oint_none (g rg dg : Nat) (r : Rd) (F : Value) (vi vo er fi : Value) (M : ByteArray) (st : Int) (w : World) (hr : RowAt w g 82 [vi, vo, .string M, .pointer (some ⟨rg, 0, none⟩), er, fi]) (hrd : RowAt w rg 122 (rdV dg r F))
    (RH : Calls Tryz.prog 44 #[.pointer (some ⟨rg, 0, none⟩)] w fun e w' => (∃ C, RightC C ∧ C[2]? = some (.int .i64 st) ∧ e = .returned (.tuple #[.agg C.toArray, .bool false])) ∧ Below w.heap.size w w') :
    Calls Tryz.prog 43 #[.pointer (some ⟨g, 0, none⟩)] w fun e w' => e = .returned (.bool false) ∧ Below w.heap.size w w' := by
  have HMi : Hid ((Tryz.prog.info? 27).map (·.size) = some 7) := Lib.hid (by kernel_rfl)
  have Hr := Lib.hid hr
  have Hrd := Lib.hid hrd
  have c3 := hr.cell (j := 3) rfl
  replace RH := Lib.hid RH
  clear hr hrd
  go_enter Tryz.func43, Tryz.ntmps43
  go_wp2_with (first
    | (go_at_call 44; (with_reducible refine RH.out.mono ?_); rintro e w1 ⟨⟨C, hC, hst2, rfl⟩, hb1⟩; have B1 := Lib.hid hb1; have HC := Lib.hid hC; have Hst := Lib.hid hst2; have HCi : Hid ((Tryz.prog.info? 27).map (·.size) = some C.length) := Lib.hid (by rw [HC.out.1]; exact HMi.out); clear hb1 hC hst2)
    | (refine wpList_store_row rfl 27 _ _ rfl w1.heap.size _ C zeroM rfl rfl (RowAt.new w1 27 zeroM) (by rw [HC.out.1]; rfl) HCi.out HC.out.2 ?_; intro w2 hr2 ho2; have hb2 := ho2.below ((Below.refl w1.heap.size w1).alloc (Nat.le_refl _) _) (Nat.le_refl _); have B2 := Lib.hid (below_step B1.out hb2); have M2 := Lib.hid hr2; have E2 := Lib.hid (Hr.out.below B2.out Hr.out.lt); have RD2 := Lib.hid (Hrd.out.below B2.out Hrd.out.lt); have d3 := E2.out.cell (j := 3) rfl;  clear hr2 ho2 hb2 c3))
  go_ret
  exact ⟨rfl, B2.out⟩
theorem oint_part (g rg dg : Nat) (r : Rd) (F : Value) (vi vo er fi : Value) (M : ByteArray) (st : Int) (h3 : (r.w == 3) = false) (w : World) (hr : RowAt w g 82 [vi, vo, .string M, .pointer (some ⟨rg, 0, none⟩), er, fi]) (hrd : RowAt w rg 122 (rdV dg r F))
    (RH : Calls Tryz.prog 44 #[.pointer (some ⟨rg, 0, none⟩)] w fun e w' => (∃ C, RightC C ∧ C[2]? = some (.int .i64 st) ∧ e = .returned (.tuple #[.agg C.toArray, .bool true])) ∧ Below w.heap.size w w') :
    Calls Tryz.prog 43 #[.pointer (some ⟨g, 0, none⟩)] w fun e w' => e = .returned (.bool false) ∧ Below w.heap.size w w' := by
  have HMi : Hid ((Tryz.prog.info? 27).map (·.size) = some 7) := Lib.hid (by kernel_rfl)
  have Hr := Lib.hid hr
  have Hrd := Lib.hid hrd
  have c3 := hr.cell (j := 3) rfl
  replace RH := Lib.hid RH
  have RDN := Lib.hid (fun (W : World) (hW : RowAt W rg 122 (rdV dg r F)) => rddone_any rg dg r F W hW)
  rw [h3] at RDN
  clear hr hrd h3
  go_enter Tryz.func43, Tryz.ntmps43
  go_wp2_with (first
    | (go_at_call 44; (with_reducible refine RH.out.mono ?_); rintro e w1 ⟨⟨C, hC, hst2, rfl⟩, hb1⟩; have B1 := Lib.hid hb1; have HC := Lib.hid hC; have Hst := Lib.hid hst2; have HCi : Hid ((Tryz.prog.info? 27).map (·.size) = some C.length) := Lib.hid (by rw [HC.out.1]; exact HMi.out); clear hb1 hC hst2)
    | (refine wpList_store_row rfl 27 _ _ rfl w1.heap.size _ C zeroM rfl rfl (RowAt.new w1 27 zeroM) (by rw [HC.out.1]; rfl) HCi.out HC.out.2 ?_; intro w2 hr2 ho2; have hb2 := ho2.below ((Below.refl w1.heap.size w1).alloc (Nat.le_refl _) _) (Nat.le_refl _); have B2 := Lib.hid (below_step B1.out hb2); have M2 := Lib.hid hr2; have E2 := Lib.hid (Hr.out.below B2.out Hr.out.lt); have RD2 := Lib.hid (Hrd.out.below B2.out Hrd.out.lt); have d3 := E2.out.cell (j := 3) rfl;  clear hr2 ho2 hb2 c3)
    | (go_at_call 45; (with_reducible refine (RDN.out _ RD2.out).mono ?_); rintro e w3 ⟨rfl, rfl⟩))
  go_ret
  exact ⟨rfl, B2.out⟩
theorem oint_last (g rg dg : Nat) (r : Rd) (F : Value) (vi vo er fi : Value) (M : ByteArray) (st : Int) (h3 : (r.w == 3) = true)  (h200 : 200 ≤ st) (w : World) (hr : RowAt w g 82 [vi, vo, .string M, .pointer (some ⟨rg, 0, none⟩), er, fi]) (hrd : RowAt w rg 122 (rdV dg r F))
    (RH : Calls Tryz.prog 44 #[.pointer (some ⟨rg, 0, none⟩)] w fun e w' => (∃ C, RightC C ∧ C[2]? = some (.int .i64 st) ∧ e = .returned (.tuple #[.agg C.toArray, .bool true])) ∧ Below w.heap.size w w') :
    Calls Tryz.prog 43 #[.pointer (some ⟨g, 0, none⟩)] w fun e w' => e = .returned (.bool false) ∧ Below w.heap.size w w' := by
  have HMi : Hid ((Tryz.prog.info? 27).map (·.size) = some 7) := Lib.hid (by kernel_rfl)
  have Hr := Lib.hid hr
  have Hrd := Lib.hid hrd
  have c3 := hr.cell (j := 3) rfl
  replace RH := Lib.hid RH
  have RDN := Lib.hid (fun (W : World) (hW : RowAt W rg 122 (rdV dg r F)) => rddone_any rg dg r F W hW)
  rw [h3] at RDN
  clear hr hrd h3
  go_enter Tryz.func43, Tryz.ntmps43
  go_wp2_with (first
    | (go_at_call 44; (with_reducible refine RH.out.mono ?_); rintro e w1 ⟨⟨C, hC, hst2, rfl⟩, hb1⟩; have B1 := Lib.hid hb1; have HC := Lib.hid hC; have Hst := Lib.hid hst2; have HCi : Hid ((Tryz.prog.info? 27).map (·.size) = some C.length) := Lib.hid (by rw [HC.out.1]; exact HMi.out); clear hb1 hC hst2)
    | (refine wpList_store_row rfl 27 _ _ rfl w1.heap.size _ C zeroM rfl rfl (RowAt.new w1 27 zeroM) (by rw [HC.out.1]; rfl) HCi.out HC.out.2 ?_; intro w2 hr2 ho2; have hb2 := ho2.below ((Below.refl w1.heap.size w1).alloc (Nat.le_refl _) _) (Nat.le_refl _); have B2 := Lib.hid (below_step B1.out hb2); have M2 := Lib.hid hr2; have E2 := Lib.hid (Hr.out.below B2.out Hr.out.lt); have RD2 := Lib.hid (Hrd.out.below B2.out Hrd.out.lt); have d3 := E2.out.cell (j := 3) rfl; have x2 := hr2.cell (j := 2) Hst.out; clear hr2 ho2 hb2 c3)
    | (go_at_call 45; (with_reducible refine (RDN.out _ RD2.out).mono ?_); rintro e w3 ⟨rfl, rfl⟩))
  go_ret
  exact ⟨rfl, B2.out⟩
set_option maxHeartbeats 4000000 in
theorem oint_gone (g rg dg : Nat) (r : Rd) (F : Value) (vi vo er fi : Value) (M : ByteArray) (st : Int) (h3 : (r.w == 3) = true)  (h200 : ¬ 200 ≤ st) (w : World) (hr : RowAt w g 82 [vi, vo, .string M, .pointer (some ⟨rg, 0, none⟩), er, fi]) (hrd : RowAt w rg 122 (rdV dg r F))
    (RH : Calls Tryz.prog 44 #[.pointer (some ⟨rg, 0, none⟩)] w fun e w' => (∃ C, RightC C ∧ C[2]? = some (.int .i64 st) ∧ e = .returned (.tuple #[.agg C.toArray, .bool true])) ∧ Below w.heap.size w w') :
    Calls Tryz.prog 43 #[.pointer (some ⟨g, 0, none⟩)] w fun e w' => e = .returned (.bool true) ∧ ∃ rg' dg', RowAt w' g 82 [vi, vo, .string M, .pointer (some ⟨rg', 0, none⟩), er, fi] ∧ RowAt w' rg' 122 (rdV dg' (Rd.new false M.data.toList) (.slice none 0 0)) ∧ RowAt w' dg' 146 (decV Dec.new) ∧ w.heap.size ≤ rg' ∧ w.heap.size ≤ dg' ∧ rg' ≠ dg' ∧ Save w.heap.size g w w' := by
  have HMi : Hid ((Tryz.prog.info? 27).map (·.size) = some 7) := Lib.hid (by kernel_rfl)
  have Hr := Lib.hid hr
  have Hrd := Lib.hid hrd
  have c3 := hr.cell (j := 3) rfl
  replace RH := Lib.hid RH
  have RDN := Lib.hid (fun (W : World) (hW : RowAt W rg 122 (rdV dg r F)) => rddone_any rg dg r F W hW)
  rw [h3] at RDN
  have NR := Lib.hid (fun W => mnew_any false M W)
  clear hr hrd h3
  go_enter Tryz.func43, Tryz.ntmps43
  go_wp2_with (first
    | (go_at_call 44; (with_reducible refine RH.out.mono ?_); rintro e w1 ⟨⟨C, hC, hst2, rfl⟩, hb1⟩; have B1 := Lib.hid hb1; have HC := Lib.hid hC; have Hst := Lib.hid hst2; have HCi : Hid ((Tryz.prog.info? 27).map (·.size) = some C.length) := Lib.hid (by rw [HC.out.1]; exact HMi.out); clear hb1 hC hst2)
    | (refine wpList_store_row rfl 27 _ _ rfl w1.heap.size _ C zeroM rfl rfl (RowAt.new w1 27 zeroM) (by rw [HC.out.1]; rfl) HCi.out HC.out.2 ?_; intro w2 hr2 ho2; have hb2 := ho2.below ((Below.refl w1.heap.size w1).alloc (Nat.le_refl _) _) (Nat.le_refl _); have B2 := Lib.hid (below_step B1.out hb2); have M2 := Lib.hid hr2; have E2 := Lib.hid (Hr.out.below B2.out Hr.out.lt); have RD2 := Lib.hid (Hrd.out.below B2.out Hrd.out.lt); have d3 := E2.out.cell (j := 3) rfl; have x2 := hr2.cell (j := 2) Hst.out; have d2 := E2.out.cell (j := 2) rfl; clear hr2 ho2 hb2 c3)
    | (go_at_call 45; (with_reducible refine (RDN.out _ RD2.out).mono ?_); rintro e w3 ⟨rfl, rfl⟩)
    | (go_at_call 33; (with_reducible refine (NR.out _).mono ?_); rintro e w4 ⟨rg', dg', rfl, h1, h2, h4, hrr, hrd, hb4⟩; have B4 := Lib.hid (below_step B2.out hb4); have E4 := Lib.hid (E2.out.below hb4 E2.out.lt); have RR := Lib.hid hrr; have RD := Lib.hid hrd; have HG := Lib.hid (And.intro (Nat.le_trans B2.out.size h1) (And.intro (Nat.le_trans B2.out.size h2) h4)); have f4 := E4.out.frozen (j := 3) (by show 3 < 6; decide); have e4 := E4.out.cell (j := 3) rfl; clear h1 h2 h4 hrr hrd hb4 d3 d2 x2))
  go_ret
  have hgl := Hr.out.lt
  have hG := HG.out
  exact ⟨rfl, rg', dg', E4.out.set_ (j := 3) (by show 3 < 6; decide) _, RR.out.far (by show rg' ≠ g; omega) _, RD.out.far (by show dg' ≠ g; omega) _, hG.1, hG.2.1, hG.2.2, (below_save B4.out).setCell 3 _⟩
end Go.Proofs.YtniiadhhefgmcaaGreatDoor

/- Layer 23: Step, where it has nothing to do. Condition: an error stands, or the response is whole, or no octet is asked. -/
namespace Go.Proofs.YtniiadhhefgmcaaGreatDoor
open Go.RowKit IH
set_option maxRecDepth 100000
end Go.Proofs.YtniiadhhefgmcaaGreatDoor

