/- Oc: several texts, one behind the other. -/
import Derived.Test.YtniiadhhefgmcaaGreatDoorOb
import Derived.Test.YtniiadhhefgmcaaGreatDoorXa
import Derived.Test.YtniiadhhefgmcaaGreatDoorTk
import Derived.Test.YtniiadhhefgmcaaGreatDoorMk
/- Layer 23: Step at work. Condition: what Take answers is a hypothesis. Printed by mkori13.py. -/
namespace Go.Proofs.YtniiadhhefgmcaaGreatDoor
open Go.RowKit IH
set_option maxRecDepth 100000
theorem RdSt.saveE {W W' : World} {g rg dg n c : Nat} {r : Rd} {A : Option Addr} {cs : List Value} (h : RdSt W rg dg r A n c) (hy : RowAt W g 82 cs) (s : Save W.heap.size g W W') : RdSt W' rg dg r A n c := by
  have hb : ∀ b o, A = some ⟨b, o, none⟩ → b ≠ g ∧ b ≠ g := by
    intro b o hA
    have : b ≠ g := by
      intro he
      subst he
      obtain ⟨cur, fz, h3⟩ := h.ty b o hA
      obtain ⟨cur2, lo, hi, h4, -⟩ := hy
      rw [h3] at h4
      simp only [Option.some.injEq, Obj.cells.injEq] at h4
      exact absurd h4.2.1 (by decide)
    exact ⟨this, this⟩
  exact ⟨h.row.save s (fun e => by subst e; exact row_ty_ne23 h.row hy (by decide)) h.row.lt, h.dec.save s (fun e => by subst e; exact row_ty_ne23 h.dec hy (by decide)) h.dec.lt, (h.fl.save2 (s.left (h := g)) hb).more s.size, h.ne, h.gd, h.ty.save2 (s.left (h := g)) hb⟩
/-- All blocks of the old ones are as they were, but exchanges, readers and decoders. -/
def KeepX (w w' : World) : Prop := ∀ (k : Nat) (cur : Array Value) (e : TypeId) (fz : Nat × Nat), w.heap[k]? = some (Obj.cells cur e fz) → e ≠ 82 → e ≠ 122 → e ≠ 146 → w'.heap[k]? = w.heap[k]?
theorem KeepX.refl (w : World) : KeepX w w := fun _ _ _ _ _ _ _ _ => rfl
theorem KeepX.trans {a b c : World} (h : KeepX a b) (k : KeepX b c) : KeepX a c := fun i cur e fz hi h1 h2 h3 =>
  (k i cur e fz ((h i cur e fz hi h1 h2 h3).trans hi) h1 h2 h3).trans (h i cur e fz hi h1 h2 h3)
theorem KeepX.below {w w' : World} (h : Below w.heap.size w w') : KeepX w w' := fun i _ _ _ hi _ _ _ => h.block i (heap_some_lt hi)
theorem row_one {w : World} {g : Nat} {t e : TypeId} {cs : List Value} {cur : Array Value} {fz : Nat × Nat} (hr : RowAt w g t cs) (h : w.heap[g]? = some (Obj.cells cur e fz)) : e = t := by
  obtain ⟨c1, a1, b1, q1, _⟩ := hr
  rw [q1] at h
  simp only [Option.some.injEq, Obj.cells.injEq] at h
  exact h.2.1.symm
theorem KeepX.save {w w' : World} {g : Nat} {cs : List Value} (hr : RowAt w g 82 cs) (s : Save w.heap.size g w w') : KeepX w w' := fun i _ _ _ hi h1 _ _ =>
  s.block i (heap_some_lt hi) (fun e => by subst e; exact h1 (row_one hr hi))
theorem KeepX.save2 {w w' : World} {rg dg n c : Nat} {r : Rd} {A : Option Addr} (hst : RdSt w rg dg r A n c) (s : Save2 w.heap.size rg dg w w') : KeepX w w' := fun i _ _ _ hi _ h2 h3 =>
  s.block i (heap_some_lt hi) (fun e => by subst e; exact h2 (row_one hst.row hi)) (fun e => by subst e; exact h3 (row_one hst.dec hi))
theorem KeepX.set {w : World} {g o : Nat} {cs : List Value} (hr : RowAt w g 82 cs) (v : Value) : KeepX w (w.setCell ⟨g, o, none⟩ v) := KeepX.save hr ((below_save (Below.refl _ _)).setCell o v)
theorem KeepX.own {w w' : World} {base size n : Nat} {t : TypeId} {v : Value} {xs : List Value} (k : KeepX w w') (h : w.ownsRow base t size v n xs) (h1 : t ≠ 82) (h2 : t ≠ 122) (h3 : t ≠ 146) : w'.ownsRow base t size v n xs := by
  refine ⟨h.1, ?_⟩
  rcases h.2 with h4 | ⟨g', cap, cur, hv, hg', hh, r⟩
  · exact .inl h4
  · exact .inr ⟨g', cap, cur, hv, hg', (k g' _ _ _ hh h1 h2 h3).trans hh, r⟩
theorem QOwn.zero {W : World} {base n c : Nat} {A : Option Addr} {l : List UInt8} (h : QOwn W base (.slice A n c) n l) : sliceA A c 0 = A := by
  obtain ⟨-, ⟨hv, -⟩ | ⟨g, off, c', cs, hv, -⟩⟩ := h
  · injection hv with e1 _ _
    subst e1
    unfold sliceA
    split <;> rfl
  · injection hv with e1 _ _
    subst e1
    unfold sliceA
    split
    · rfl
    · simp [add_plain]
/-- What a Step at work answers: an error, octets (or an interim response gone past), or that nothing more can be taken. -/
def StepA (B g : Nat) (vo : Value) (M : ByteArray) (fi : Bool) (ni ci : Nat) (Ai : Option Addr) (l : List UInt8) (r : Rd) (Rf : Nat → List UInt8 × Nat × Int × Rd) (p0 : Nat) (e : Ending) (w' : World) : Prop :=
  (∃ p rg dg r2 A2 n2 c2, p ≤ ni ∧ (p = p0 ∨ Rf p0 = ([], 0, 0, r)) ∧ (Rf p).2.2.1 ≠ 0 ∧ e = .returned (.tuple #[.slice none 0 0, .bool false, .int .i64 (Rf p).2.2.1]) ∧ RowAt w' g 82 [.slice Ai ni ci, vo, .string M, .pointer (some ⟨rg, 0, none⟩), .int .i64 (Rf p).2.2.1, .bool fi] ∧ RdSt w' rg dg r2 A2 n2 c2)
  ∨ (∃ p rg dg A2 n2 c2 Av cv, p ≤ ni ∧ (p = p0 ∨ Rf p0 = ([], 0, 0, r)) ∧ (Rf p).2.2.1 = 0 ∧ (Rf p).2.1 ≤ ni ∧ (0 < (Rf p).2.1 ∨ ((Rf p).2.2.2.w = 3 ∧ (Rf p).2.2.2.start.status < 200)) ∧ e = .returned (.tuple #[.slice Av (Rf p).1.length cv, .bool true, .int .i64 0]) ∧ QIn w' g Av (Rf p).1.length cv (Rf p).1 ∧
      RowAt w' g 82 [.slice (sliceA Ai ci (Rf p).2.1) (ni - (Rf p).2.1) (ci - (Rf p).2.1), vo, .string M, .pointer (some ⟨rg, 0, none⟩), .int .i64 0, .bool fi] ∧ QOwn w' B (.slice (sliceA Ai ci (Rf p).2.1) (ni - (Rf p).2.1) (ci - (Rf p).2.1)) (ni - (Rf p).2.1) (l.drop (Rf p).2.1) ∧
      RdSt w' rg dg (if (Rf p).2.2.2.w = 3 ∧ (Rf p).2.2.2.start.status < 200 then Rd.new false M.data.toList else (Rf p).2.2.2) A2 n2 c2 ∧ B ≤ rg ∧ B ≤ dg)
  ∨ (∃ rg dg A2 n2 c2, Rf ni = ([], 0, 0, r) ∧ e = .returned (.tuple #[.slice none 0 0, .bool false, .int .i64 (if fi then 11 else 0)]) ∧ RowAt w' g 82 [.slice Ai ni ci, vo, .string M, .pointer (some ⟨rg, 0, none⟩), .int .i64 (if fi then 11 else 0), .bool fi] ∧ QOwn w' B (.slice Ai ni ci) ni l ∧ RdSt w' rg dg r A2 n2 c2 ∧ B ≤ rg ∧ B ≤ dg)
set_option maxHeartbeats 16000000 in
theorem ostep_go (B g rg dg : Nat) (r : Rd) (A : Option Addr) (n c : Nat) (Ai : Option Addr) (ni ci : Nat) (l : List UInt8) (vo : Value) (M : ByteArray) (fi : Bool) (most : Int) (Rf : Nat → List UInt8 × Nat × Int × Rd) (p0 : Nat) (hp0 : min most (ni : Int) = (p0 : Int)) (w : World) (hB : B ≤ w.heap.size) (h1 : B ≤ g) (h2 : B ≤ rg) (h3 : B ≤ dg)
    (hr : RowAt w g 82 [.slice Ai ni ci, vo, .string M, .pointer (some ⟨rg, 0, none⟩), .int .i64 0, .bool fi]) (hst : RdSt w rg dg r A n c) (hq : QOwn w B (.slice Ai ni ci) ni l) (hni : ni ≤ 65535) (hw3 : r.w ≠ 3) (hm : 1 ≤ most) (hmb : most ≤ 9223372036854775807)
    (hRf : ∀ p, p ≤ ni → (Rf p).2.1 ≤ p ∧ (Rf p).2.2.2.fields.length ≤ 1000000) (hRz : ∀ p, p ≤ ni → (Rf p).2.2.1 = 0 → (Rf p).2.1 = 0 → Rf p = ([], 0, 0, r))
    (TK : ∀ (W : World) (rg dg : Nat) (A' : Option Addr) (n' c' p : Nat), p ≤ ni → Below B w W → B ≤ rg → B ≤ dg → RdSt W rg dg r A' n' c' → QOwn W B (.slice Ai ni ci) ni l → Calls Tryz.prog 42 #[.pointer (some ⟨rg, 0, none⟩), .slice Ai p ci] W fun e w' => ∃ v A2 n2 c2, e = .returned (.tuple #[v, .int .i64 ((Rf p).2.1 : Nat), .int .i64 (Rf p).2.2.1]) ∧ w'.ownsRow W.heap.size 5 1 v (Rf p).1.length (bytesV (Rf p).1) ∧ RdSt w' rg dg (Rf p).2.2.2 A2 n2 c2 ∧ Save2 W.heap.size rg dg W w') :
    Calls Tryz.prog 17 #[.pointer (some ⟨g, 0, none⟩), .int .i64 most] w fun e w' => StepA B g vo M fi ni ci Ai l r Rf p0 e w' ∧ Below B w w' ∧ KeepX w w' := by
  have DN := Lib.hid (odone_any g rg dg r _ _ _ _ _ _ w hr hst.row)
  have h3b : (r.w == 3) = false := by rw [beq_eq_false_iff_ne]; exact hw3
  rw [h3b] at DN
  have c4 := hr.cell (j := 4) rfl
  have c0 := hr.cell (j := 0) rfl
  have hic : ni ≤ ci := hq.in_.2.1
  have HR := Lib.hid hr
  have HST := Lib.hid hst
  have HQ := Lib.hid hq
  replace TK := Lib.hid TK
  have hp0n : p0 ≤ ni ∧ (p0 = 0 → ni = 0) := by omega
  have HM := Lib.hid hm
  have HRN := Lib.hid hRf
  have HRZ := Lib.hid hRz
  have HW3 := Lib.hid hw3
  clear hr hst hq hw3 h3b hRf hRz
  go_enter Tryz.func17, Tryz.ntmps17
  go_upto_region 4 with (go_at_call 20; (with_reducible refine DN.out.mono ?_); rintro e w2 ⟨rfl, rfl⟩)
  go_loopw [7] (fun pv wr => ∃ (p rg dg : Nat) (A' : Option Addr) (n' c' : Nat), pv = .int .i64 p ∧ p ≤ ni ∧ (p = 0 → ni = 0) ∧ (p = p0 ∨ Rf p0 = ([], 0, 0, r)) ∧ RowAt wr g 82 [.slice Ai ni ci, vo, .string M, .pointer (some ⟨rg, 0, none⟩), .int .i64 0, .bool fi] ∧ RdSt wr rg dg r A' n' c' ∧ QOwn wr B (.slice Ai ni ci) ni l ∧ Below B w wr ∧ KeepX w wr ∧ B ≤ rg ∧ B ≤ dg) (fun pv _ => ni - (intOf pv).toNat)
  case atStart => exact ⟨p0, rg, dg, A, n, c, rfl, hp0n.1, hp0n.2, .inl rfl, HR.out, HST.out, HQ.out, Below.refl _ _, KeepX.refl _, h2, h3⟩
  case round =>
    clear c4 c0 HR HST HQ DN hp0 hp0n h2 h3
    obtain ⟨wq, hwq⟩ : ∃ x : World, x = wr := ⟨_, rfl⟩
    subst hwq
    obtain ⟨p, rg, dg, A', n', c', rfl, hp, hp0, hpf, hr, hst, hq, hbq, hkq, h2, h3⟩ := hrel
    have HR := Lib.hid hr
    have HST := Lib.hid hst
    have HQ := Lib.hid hq
    have HB := Lib.hid hbq
    have HK := Lib.hid hkq
    have HP0 := Lib.hid hp0
    have HPF := Lib.hid hpf
    have TKq := Lib.hid (TK.out wq.drew rg dg A' n' c' p hp (below_drewN hbq 1) h2 h3 ⟨hst.row.drewN 1, hst.dec.drewN 1, hst.fl, hst.ne, hst.gd, hst.ty⟩ (hq.keep (fun _ _ _ _ => rfl)))
    have hpc : (p : Int) ≤ (ci : Int) := by omega
    have k3 := hr.cell (j := 3) rfl
    have k0 := hr.cell (j := 0) rfl
    clear hr hst hq hbq hkq hp0 hpf
    obtain ⟨Rb, Rn, Re, Rr, hRp⟩ : ∃ a b c d, Rf p = (a, b, c, d) := ⟨_, _, _, _, rfl⟩
    rw [hRp] at TKq
    have HRf := Lib.hid hRp
    clear hRp
    simp only at TKq
    by_cases he : Re ≠ 0
    · have heb : (Re != 0) = true := by rw [bne_iff_ne]; exact he
      have HE := Lib.hid he
      clear he
      go_upto_region 5 with fail
      refine wp_region_tree0 (fun W => W.cell? ⟨g, 3, none⟩ = some (.pointer (some ⟨rg, 0, none⟩)) ∧ W.cell? ⟨g, 0, none⟩ = some (.slice Ai ni ci)) (.take 0 (.take 1 (.take 2 (.take 3 (.take 4 (.take 5 (.take 6 (.take 7 (.take 8 (.take 9 (.take 10 (.node (.fork 11 (.take 12 (.take 13 (.take 14 (.take 15 (.take 16 (.take 17 (.take 18 (.done)))))))) (.stop)))))))))))))) (by kernel_rfl) (by kernel_rfl) (of_decide_eq_true (by kernel_rfl)) rfl (by kernel_rfl) (⟨k3, k0⟩) ?_
      intro hH
      iterate 11
        refine tree_take (v := ?_) rfl (by rfl) ?_ ?_
        rotate_left
        · intro w2 hSw
          have e3 := hSw.1
          have e0 := hSw.2
          clear hSw
          go_simp
          try with_reducible rfl
        try simp only [Act.put, List.setIfInBounds_toArray, List.set_cons_zero, List.set_cons_succ]
      refine tree_node ?_
      refine tree_move rfl (by rfl) (fun K hK => ?_) ?_
      · go_simp
        (with_reducible refine TKq.out.mono ?_)
        rintro e w5 ⟨v, A2, n2, c2, rfl, ho5, hs5, hsv⟩
        have ST0 : RdSt wq.drew rg dg r A' n' c' := ⟨HST.out.row.drewN 1, HST.out.dec.drewN 1, HST.out.fl, HST.out.ne, HST.out.gd, HST.out.ty⟩
        have E5 := Lib.hid (exch_take (HR.out.drewN 1) ST0 hsv)
        have Q5 := Lib.hid (QOwn.take (W := wq.drew) (HQ.out.keep (fun _ _ _ _ => rfl)) ST0 hsv)
        have B5 := Lib.hid ((below_drewN HB.out 1).trans ((hsv.mono (B' := B) (Nat.le_trans hB HB.out.size)).below h2 h3))
        have K5 := Lib.hid (KeepX.trans (b := wq.drew) HK.out (KeepX.save2 (w := wq.drew) ST0 hsv))
        refine hK.out _ _ (⟨E5.out.cell (j := 3) rfl, E5.out.cell (j := 0) rfl⟩) ?_
        have O5 := Lib.hid ho5
        have S5 := Lib.hid hs5
        clear hH hK K ho5 hs5 hsv k3 k0 ST0
        intro hH
        try simp only [Act.put, List.setIfInBounds_toArray, List.set_cons_zero, List.set_cons_succ]
        iterate 7
          refine tree_take (v := ?_) rfl (by rfl) ?_ ?_
          rotate_left
          · intro w2 hSw
            have e3 := hSw.1
            have e0 := hSw.2
            clear hSw
            go_simp
            try with_reducible rfl
          try simp only [Act.put, List.setIfInBounds_toArray, List.set_cons_zero, List.set_cons_succ]
        refine tree_done ?_
        clear hH
        have m4 := E5.out.cell (j := 4) rfl
        have f4 := E5.out.frozen (j := 4) (by show 4 < 6; decide)
        go_wp2_with fail
        go_ret3
        refine ⟨.inl ⟨p, rg, dg, Rr, A2, n2, c2, hp, HPF.out, ?_, ?_, ?_, ?_⟩, B5.out.setCell h1 _, K5.out.trans (KeepX.set E5.out _)⟩
        · rw [HRf.out]; exact HE.out
        · rw [HRf.out]; rfl
        · rw [HRf.out]; exact E5.out.set_ (j := 4) (by show 4 < 6; decide) _
        · exact S5.out.setE E5.out _
      exact tree_stop
    · obtain rfl : Re = 0 := by omega
      clear he
      have hRn : Rn ≤ p := by have := (HRN.out p hp).1; rw [HRf.out] at this; exact this
      have hRni : Rn ≤ ni := by omega
      go_upto_region 5 with fail
      refine wp_region_tree0 (fun W => W.cell? ⟨g, 3, none⟩ = some (.pointer (some ⟨rg, 0, none⟩)) ∧ W.cell? ⟨g, 0, none⟩ = some (.slice Ai ni ci)) (.take 0 (.take 1 (.take 2 (.take 3 (.take 4 (.take 5 (.take 6 (.take 7 (.take 8 (.take 9 (.take 10 (.node (.fork 11 (.take 12 (.take 13 (.take 14 (.take 15 (.take 16 (.take 17 (.take 18 (.done)))))))) (.stop)))))))))))))) (by kernel_rfl) (by kernel_rfl) (of_decide_eq_true (by kernel_rfl)) rfl (by kernel_rfl) (⟨k3, k0⟩) ?_
      intro hH
      iterate 11
        refine tree_take (v := ?_) rfl (by rfl) ?_ ?_
        rotate_left
        · intro w2 hSw
          have e3 := hSw.1
          have e0 := hSw.2
          clear hSw
          go_simp
          try with_reducible rfl
        try simp only [Act.put, List.setIfInBounds_toArray, List.set_cons_zero, List.set_cons_succ]
      refine tree_node ?_
      refine tree_move rfl (by rfl) (fun K hK => ?_) ?_
      · go_simp
        (with_reducible refine TKq.out.mono ?_)
        rintro e w5 ⟨v, A2, n2, c2, rfl, ho5, hs5, hsv⟩
        have ST0 : RdSt wq.drew rg dg r A' n' c' := ⟨HST.out.row.drewN 1, HST.out.dec.drewN 1, HST.out.fl, HST.out.ne, HST.out.gd, HST.out.ty⟩
        have E5 := Lib.hid (exch_take (HR.out.drewN 1) ST0 hsv)
        have Q5 := Lib.hid (QOwn.take (W := wq.drew) (HQ.out.keep (fun _ _ _ _ => rfl)) ST0 hsv)
        have B5 := Lib.hid ((below_drewN HB.out 1).trans ((hsv.mono (B' := B) (Nat.le_trans hB HB.out.size)).below h2 h3))
        have K5 := Lib.hid (KeepX.trans (b := wq.drew) HK.out (KeepX.save2 (w := wq.drew) ST0 hsv))
        refine hK.out _ _ (⟨E5.out.cell (j := 3) rfl, E5.out.cell (j := 0) rfl⟩) ?_
        have O5 := Lib.hid ho5
        have S5 := Lib.hid hs5
        clear hH hK K ho5 hs5 hsv k3 k0 ST0
        intro hH
        try simp only [Act.put, List.setIfInBounds_toArray, List.set_cons_zero, List.set_cons_succ]
        iterate 7
          refine tree_take (v := ?_) rfl (by rfl) ?_ ?_
          rotate_left
          · intro w2 hSw
            have e3 := hSw.1
            have e0 := hSw.2
            clear hSw
            go_simp
            try with_reducible rfl
          try simp only [Act.put, List.setIfInBounds_toArray, List.set_cons_zero, List.set_cons_succ]
        refine tree_done ?_
        clear hH
        have m4 := E5.out.cell (j := 4) rfl
        have f4 := E5.out.frozen (j := 4) (by show 4 < 6; decide)
        go_upto_region 9 with fail
        obtain ⟨w6, hw6⟩ : ∃ W : World, w5.setCell ⟨g, 4, none⟩ (.int .i64 0) = W := ⟨_, rfl⟩
        obtain ⟨Av, cv, rfl, hv1, hv2, -⟩ := own_sliceB O5.out
        have V5 : Hid (QIn w5 g Av Rb.length cv Rb) := Lib.hid ⟨hv1, fun _ a ha => by obtain ⟨ab, ao, ap⟩ := a; obtain ⟨b, o, e, -⟩ := hv1.2.2.2 (by assumption); rw [ha] at e; injection e with e; injection e with e1 e2 e3; have := hv2 b o (by rw [ha, e1, e2, e3]); have := HR.out.lt; show ab ≠ g; have : wq.drew.heap.size = wq.heap.size := rfl; omega⟩
        have E6 : Hid (RowAt w6 g 82 [.slice Ai ni ci, vo, .string M, .pointer (some ⟨rg, 0, none⟩), .int .i64 0, .bool fi]) := Lib.hid (by rw [← hw6]; exact E5.out.set_ (j := 4) (by show 4 < 6; decide) _)
        have V6 : Hid (QIn w6 g Av Rb.length cv Rb) := Lib.hid (by rw [← hw6]; exact V5.out.save ((below_save (Below.refl _ _)).setCell 4 _))
        have S6 : Hid (RdSt w6 rg dg Rr A2 n2 c2) := Lib.hid (by rw [← hw6]; exact S5.out.setE E5.out _)
        have Q6 : Hid (QOwn w6 B (.slice Ai ni ci) ni l) := Lib.hid (by rw [← hw6]; exact Q5.out.set_ E5.out (by decide))
        have B6 : Hid (Below B w w6) := Lib.hid (by rw [← hw6]; exact B5.out.setCell h1 _)
        have K6 : Hid (KeepX w w6) := Lib.hid (by rw [← hw6]; exact K5.out.trans (KeepX.set E5.out _))
        rw [hw6]
        clear hw6 m4 f4 E5 S5 Q5 B5 O5 K5 V5 hv1 hv2
        have TQ := Lib.hid (qtakeO_any g B ni ci Ai l Rn hRni vo _ _ _ _ w6 E6.out Q6.out (by omega))
        go_upto_region 10 with (go_at_call 37; (with_reducible refine TQ.out.mono ?_); rintro e w7 ⟨v7, rfl, hr7, hq7, hs7⟩; have E7 := Lib.hid hr7; have Q7 := Lib.hid hq7; have S7 := Lib.hid (S6.out.saveE E6.out hs7); have V7 := Lib.hid (V6.out.save hs7); have B7 := Lib.hid (B6.out.trans ((hs7.mono (Nat.le_trans hB B6.out.size)).below h1)); have K7 := Lib.hid (K6.out.trans (KeepX.save E6.out hs7)); clear hr7 hq7 hs7 TQ)
        clear E6 S6 V6 Q6 B6 K6
        have hfl : n2 ≤ 1000000 := (by have h1 := (HRN.out p hp).2; rw [HRf.out] at h1; have h2 := fld_count S7.out.fl; simp only at h1; omega)
        have OI := Lib.hid (oint_any B g rg dg Rr A2 n2 c2 _ vo _ _ M w7 E7.out S7.out hfl (Nat.le_trans hB B7.out.size) h1 h2 h3)
        (obtain ⟨bg, hbg⟩ : ∃ b, decide (Rr.w = 3 ∧ Rr.start.status < 200) = b := ⟨_, rfl⟩)
        rw [hbg] at OI
        have HBG := Lib.hid hbg
        clear hbg hfl
        go_upto_region 11 with (go_at_call 43; (with_reducible refine OI.out.mono ?_); rintro e w8 ⟨rg', dg', r', A8, n8, c8, rfl, hr8, hst8, hrr8, g1, g2, hs8, hb8⟩; have E8 := Lib.hid hr8; have S8 := Lib.hid hst8; have R8 := Lib.hid hrr8; have Q8 := Lib.hid (Q7.out.save E7.out hs8); have V8 := Lib.hid (V7.out.save hs8); have B8 := Lib.hid (B7.out.trans hb8); have K8 := Lib.hid (K7.out.trans (KeepX.save E7.out hs8)); have G8 := Lib.hid (And.intro g1 g2); clear hr8 hst8 hrr8 g1 g2 hs8 hb8 OI)
        clear E7 S7 V7 Q7 B7 K7
        by_cases hn0 : 0 < Rn
        · have hnI : (0 : Int) < (Rn : Int) := (by omega)
          go_wp2_with fail
          go_ret3
          refine ⟨.inr (.inl ⟨p, rg', dg', A8, n8, c8, Av, cv, hp, HPF.out, ?_, ?_, ?_, ?_, ?_, ?_, ?_, ?_, G8.out.1, G8.out.2⟩), B8.out, K8.out⟩
          · rw [HRf.out]
          · rw [HRf.out]; exact hRni
          · rw [HRf.out]; exact .inl hn0
          · rw [HRf.out]; rfl
          · rw [HRf.out]; exact V8.out
          · rw [HRf.out]; exact E8.out
          · rw [HRf.out]; exact Q8.out
          · rw [HRf.out]; have h := S8.out; rw [R8.out] at h; exact h
        cases bg
        rotate_left
        · have hnI : ¬ (0 : Int) < (Rn : Int) := (by omega)
          go_wp2_with fail
          go_ret3
          refine ⟨.inr (.inl ⟨p, rg', dg', A8, n8, c8, Av, cv, hp, HPF.out, ?_, ?_, ?_, ?_, ?_, ?_, ?_, ?_, G8.out.1, G8.out.2⟩), B8.out, K8.out⟩
          · rw [HRf.out]
          · rw [HRf.out]; exact hRni
          · rw [HRf.out]; exact .inr (of_decide_eq_true HBG.out)
          · rw [HRf.out]; rfl
          · rw [HRf.out]; exact V8.out
          · rw [HRf.out]; exact E8.out
          · rw [HRf.out]; exact Q8.out
          · rw [HRf.out]; have h := S8.out; rw [R8.out] at h; exact h
        have hnI : ¬ (0 : Int) < (Rn : Int) := (by omega)
        obtain rfl : Rn = 0 := (by omega)
        have HZ := HRZ.out p hp (by rw [HRf.out]) (by rw [HRf.out])
        have HZ2 := HZ.symm.trans HRf.out
        injection HZ2 with z1 z2
        injection z2 with z2 z3
        injection z3 with z3 z4
        subst z1 z4
        have HZp := Lib.hid HZ
        have HPZ : Hid (∀ q : Nat, q = p0 ∨ Rf p0 = ([], 0, 0, r)) := Lib.hid (fun q => .inr (HPF.out.elim (fun e => by rw [← e]; exact HZ) (fun e => e)))
        have E9 : Hid (RowAt w8 g 82 [.slice Ai ni ci, vo, .string M, .pointer (some ⟨rg', 0, none⟩), .int .i64 0, .bool fi]) := Lib.hid (by have h := E8.out; rw [HQ.out.zero, Nat.sub_zero, Nat.sub_zero] at h; exact h)
        have Q9 : Hid (QOwn w8 B (.slice Ai ni ci) ni l) := Lib.hid (by have h := Q8.out; rw [HQ.out.zero, Nat.sub_zero, Nat.sub_zero, List.drop_zero] at h; exact h)
        have S9 : Hid (RdSt w8 rg' dg' r A8 n8 c8) := Lib.hid (by have h := S8.out; rw [R8.out, if_neg (of_decide_eq_false HBG.out)] at h; exact h)
        clear E8 Q8 S8 R8 V8 HBG HZ z2 z3
        have x0 := E9.out.cell (j := 0) rfl
        by_cases hpn : p = ni
        · have hpI : (p : Int) = (ni : Int) := (by omega)
          subst hpn
          have x5 := E9.out.cell (j := 5) rfl
          have x4 := E9.out.cell (j := 4) rfl
          have f4 := E9.out.frozen (j := 4) (by show 4 < 6; decide)
          cases fi
          · go_upto_region 16 with fail
            go_region
            go_wp2_with fail
            go_ret3
            exact ⟨.inr (.inr ⟨rg', dg', A8, n8, c8, HZp.out, rfl, E9.out.drewN 1, Q9.out.keep (fun _ _ _ _ => rfl), ⟨S9.out.row.drewN 1, S9.out.dec.drewN 1, S9.out.fl, S9.out.ne, S9.out.gd, S9.out.ty⟩, G8.out.1, G8.out.2⟩), below_drewN B8.out 1, K8.out⟩
          · go_upto_region 16 with fail
            obtain ⟨w9, hw9⟩ : ∃ W : World, w8.setCell ⟨g, 4, none⟩ (.int .i64 11) = W := ⟨_, rfl⟩
            have E10 : Hid (RowAt w9 g 82 [.slice Ai p ci, vo, .string M, .pointer (some ⟨rg', 0, none⟩), .int .i64 11, .bool true]) := Lib.hid (by rw [← hw9]; exact E9.out.set_ (j := 4) (by show 4 < 6; decide) _)
            have Q10 : Hid (QOwn w9 B (.slice Ai p ci) p l) := Lib.hid (by rw [← hw9]; exact Q9.out.set_ E9.out (by decide))
            have S10 : Hid (RdSt w9 rg' dg' r A8 n8 c8) := Lib.hid (by rw [← hw9]; exact S9.out.setE E9.out _)
            have B10 : Hid (Below B w w9) := Lib.hid (by rw [← hw9]; exact B8.out.setCell h1 _)
            have K10 : Hid (KeepX w w9) := Lib.hid (by rw [← hw9]; exact K8.out.trans (KeepX.set E9.out _))
            rw [hw9]
            clear hw9 E9 Q9 S9 x0 x5 x4 f4
            have y4 := E10.out.cell (j := 4) rfl
            go_region
            go_wp2_with fail
            go_ret3
            exact ⟨.inr (.inr ⟨rg', dg', A8, n8, c8, HZp.out, rfl, E10.out.drewN 1, Q10.out.keep (fun _ _ _ _ => rfl), ⟨S10.out.row.drewN 1, S10.out.dec.drewN 1, S10.out.fl, S10.out.ne, S10.out.gd, S10.out.ty⟩, G8.out.1, G8.out.2⟩), below_drewN B10.out 1, K10.out⟩
        · have hpI : ¬ (p : Int) = (ni : Int) := (by omega)
          obtain ⟨q, hq⟩ : ∃ q : Nat, min (2 * (p : Int)) (ni : Int) = (q : Int) := ⟨(min (2 * (p : Int)) (ni : Int)).toNat, (by omega)⟩
          have hmul : IntKind.i64.wrap (2 * (p : Int)) = 2 * (p : Int) := IntWalk.i64_in _ ⟨(by omega), (by omega)⟩
          have hqn : Hid (q ≤ ni ∧ p < q) := Lib.hid (by have := HP0.out; omega)
          go_wp2_with fail
          go_roundw
          case rel => exact ⟨q, rg', dg', A8, n8, c8, rfl, hqn.out.1, (by have := hqn.out; omega), HPZ.out _, E9.out, S9.out, Q9.out, B8.out, K8.out, G8.out.1, G8.out.2⟩
          case measure => have := hqn.out; simp [intOf]; omega
      exact tree_stop
end Go.Proofs.YtniiadhhefgmcaaGreatDoor

/- Layer 23: an exchange as one fact; Step and In in its terms. Condition: no more than 65535 octets wait. -/
namespace Go.Proofs.YtniiadhhefgmcaaGreatDoor
open Go.RowKit IH
set_option maxRecDepth 100000
theorem add_block (a : Addr) (k : Nat) : (a.add k).block = a.block := by
  obtain ⟨b, o, p⟩ := a
  unfold Addr.add
  split <;> rfl
theorem qb_none {A : Option Addr} {n c : Nat} (h : qb (.slice A n c) = none) : A = none := by
  cases A with
  | none => rfl
  | some a => cases h
/-- A reader in memory, where the blocks of its types are as they were. -/
theorem RdSt.keepT {W W' : World} {rg dg n c : Nat} {r : Rd} {A : Option Addr} (h : RdSt W rg dg r A n c) (hs : W.heap.size ≤ W'.heap.size)
    (hk : ∀ (k : Nat) (cur : Array Value) (e : TypeId) (fz : Nat × Nat), W.heap[k]? = some (Obj.cells cur e fz) → e = 122 ∨ e = 146 ∨ e = 74 → W'.heap[k]? = W.heap[k]?) : RdSt W' rg dg r A n c := by
  have h1 : W'.heap[rg]? = W.heap[rg]? := by
    obtain ⟨cur, lo, hi, q, _⟩ := h.row
    exact hk _ _ _ _ q (.inl rfl)
  have h2 : W'.heap[dg]? = W.heap[dg]? := by
    obtain ⟨cur, lo, hi, q, _⟩ := h.dec
    exact hk _ _ _ _ q (.inr (.inl rfl))
  have h3 : ∀ b o, A = some ⟨b, o, none⟩ → W'.heap[b]? = W.heap[b]? := fun b o hA => by
    obtain ⟨cur, fz, q⟩ := h.ty b o hA
    exact hk _ _ _ _ q (.inr (.inr rfl))
  refine ⟨h.row.keep h1, h.dec.keep h2, ?_, h.ne, h.gd, fun b o hA => ?_⟩
  · obtain ⟨f1, f2, f3, f4⟩ := h.fl
    refine ⟨f1, f2, f3, fun hn => ?_⟩
    obtain ⟨b, o, hA, hb, hc⟩ := f4 hn
    exact ⟨b, o, hA, Nat.lt_of_lt_of_le hb hs, fun j u hu => (World.cell?_of_block (h3 b o hA)).trans (hc j u hu)⟩
  · obtain ⟨cur, fz, q⟩ := h.ty b o hA
    exact ⟨cur, fz, (h3 b o hA).trans q⟩
/-- An exchange in memory: what waits in its in-queue (and where: q), its reader. -/
def XAt (W : World) (B g : Nat) (vo : Value) (M : ByteArray) (fi : Bool) (er : Int) (q : Option Nat) (l : List UInt8) (r : Rd) : Prop :=
  ∃ rg dg A n c Ai ci, RowAt W g 82 [.slice Ai l.length ci, vo, .string M, .pointer (some ⟨rg, 0, none⟩), .int .i64 er, .bool fi] ∧ RdSt W rg dg r A n c ∧ QOwn W B (.slice Ai l.length ci) l.length l ∧ B ≤ rg ∧ B ≤ dg ∧ qb (.slice Ai l.length ci) = q ∧ (q = none → r = Rd.new false M.data.toList)
/-- An exchange that has come to an error. -/
def XErr (W : World) (g : Nat) (er : Int) : Prop :=
  ∃ vi vo me fi rg dg r F, RowAt W g 82 [vi, vo, me, .pointer (some ⟨rg, 0, none⟩), .int .i64 er, fi] ∧ RowAt W rg 122 (rdV dg r F)
theorem XAt.below {W W' : World} {B g : Nat} {vo : Value} {M : ByteArray} {fi : Bool} {er : Int} {q : Option Nat} {l : List UInt8} {r : Rd} (h : XAt W B g vo M fi er q l r) (hb : Below W.heap.size W W') : XAt W' B g vo M fi er q l r := by
  obtain ⟨rg, dg, A, n, c, Ai, ci, h1, h2, h3, h4⟩ := h
  exact ⟨rg, dg, A, n, c, Ai, ci, h1.below hb h1.lt, h2.at_ hb, h3.keep (fun k _ _ hr => hb.block k hr.lt), h4⟩
theorem XErr.below {W W' : World} {g : Nat} {er : Int} (h : XErr W g er) (hb : Below W.heap.size W W') : XErr W' g er := by
  obtain ⟨vi, vo, me, fi, rg, dg, r, F, h1, h2⟩ := h
  exact ⟨vi, vo, me, fi, rg, dg, r, F, h1.below hb h1.lt, h2.below hb h2.lt⟩
/-- What a Step answers, in an exchange's own terms. -/
def StepX (B g : Nat) (vo : Value) (M : ByteArray) (fi : Bool) (q : Option Nat) (l : List UInt8) (r : Rd) (p0 : Nat) (e : Ending) (w' : World) : Prop :=
  (∃ p, p ≤ l.length ∧ (p = p0 ∨ runM r (l.take p0) = ([], 0, 0, r)) ∧ (runM r (l.take p)).2.2.1 ≠ 0 ∧ e = .returned (.tuple #[.slice none 0 0, .bool false, .int .i64 (runM r (l.take p)).2.2.1]) ∧ XErr w' g (runM r (l.take p)).2.2.1)
  ∨ (∃ p Av cv, p ≤ l.length ∧ (p = p0 ∨ runM r (l.take p0) = ([], 0, 0, r)) ∧ (runM r (l.take p)).2.2.1 = 0 ∧ (runM r (l.take p)).2.1 ≤ l.length ∧ 0 < (runM r (l.take p)).2.1 ∧ e = .returned (.tuple #[.slice Av (runM r (l.take p)).1.length cv, .bool true, .int .i64 0]) ∧
      SliceIn w' w'.heap.size 1 Av (runM r (l.take p)).1.length cv (bytesV (runM r (l.take p)).1) ∧
      XAt w' B g vo M fi 0 q (l.drop (runM r (l.take p)).2.1) (if (runM r (l.take p)).2.2.2.w = 3 ∧ (runM r (l.take p)).2.2.2.start.status < 200 then Rd.new false M.data.toList else (runM r (l.take p)).2.2.2))
  ∨ (runM r l = ([], 0, 0, r) ∧ e = .returned (.tuple #[.slice none 0 0, .bool false, .int .i64 (if fi then 11 else 0)]) ∧ XAt w' B g vo M fi (if fi then 11 else 0) q l r)
theorem xstep_any (B g : Nat) (vo : Value) (M : ByteArray) (fi : Bool) (q : Option Nat) (l : List UInt8) (r : Rd) (most : Int) (p0 : Nat) (hp0 : min most (l.length : Int) = (p0 : Int)) (w : World) (hB : B ≤ w.heap.size) (hBg : B ≤ g) (hsh : ∀ W, Below B w W → W.ShapedOpen Tryz.prog)
    (hx : XAt w B g vo M fi 0 q l r) (hl : l.length ≤ 65535) (hri : RdIn r) (hf : r.fault = 0) (hsd : SoundM r) (hdec : r.w ≤ 1 → r.dec = Dec.new) (hfl : r.fields.length ≤ 128) (hw3 : r.w ≠ 3) (hm : 1 ≤ most) (hmb : most ≤ 9223372036854775807) :
    Calls Tryz.prog 17 #[.pointer (some ⟨g, 0, none⟩), .int .i64 most] w fun e w' => StepX B g vo M fi q l r p0 e w' ∧ Below B w w' ∧ KeepX w w' := by
  obtain ⟨rg, dg, A, n, c, Ai, ci, h1, h2, h3, h4, h5, h6, h7⟩ := hx
  have hz : ∀ p, p ≤ l.length → (runM r (l.take p)).2.2.1 = 0 → (runM r (l.take p)).2.1 = 0 → runM r (l.take p) = ([], 0, 0, r) := fun p _ e1 e2 => (runM_sound _ r (l.take p) (Nat.le_refl _) hsd hdec e1).2.2 e2
  have hle : ∀ p, p ≤ l.length → (runM r (l.take p)).2.1 ≤ p := fun p hp => by
    have := runM_le23 _ r (l.take p) (Nat.le_refl _)
    rw [List.length_take] at this
    omega
  refine (ostep_go B g rg dg r A n c Ai l.length ci l vo M fi most (fun p => runM r (l.take p)) p0 hp0 w hB hBg h4 h5 h1 h2 h3 hl hw3 hm hmb
    (fun p hp => ⟨hle p hp, by have := runM_few _ r (l.take p) (Nat.le_refl _) hfl; omega⟩) hz ?_).mono ?_
  · intro W rg' dg' A' n' c' p hp hbW hr1 hd1 hst hq
    have hin := take_any hq.in_ p hp (fun _ => rfl)
    rcases hAi : Ai with _ | a
    · subst hAi
      obtain ⟨-, ⟨hv, hl0⟩ | ⟨g', off, c', cs, hv, -⟩⟩ := hq
      · injection hv with _ _ hc
        subst hc
        have hr := h7 (by rw [← h6]; rfl)
        subst hr
        have hp0 : p = 0 := by omega
        subst hp0
        rw [List.take_zero]
        have e0 := fed_zero false M.data.toList
        rw [e0]
        refine (rdtake_nil rg' dg' M.data.toList _ W hst.row).mono ?_
        rintro e w' ⟨rfl, hr', hs'⟩
        exact ⟨.slice none 0 0, A', n', c', rfl, World.ownsRow_nil _ _ _ _, hst.of_save hs' hr' rfl rfl, hs'.left⟩
      · injection hv with e1
        cases e1
    · have hq' := hq
      obtain ⟨-, ⟨hv, -⟩ | ⟨g', off, c9, cs, hv, hBg', -, -, -, hrq, -⟩⟩ := hq
      · injection hv with e1
        rw [hAi] at e1
        cases e1
      · injection hv with e1
        rw [e1] at hin hAi
        injection hAi with hAi
        subst hAi
        exact rdtake_any B rg' dg' r A' n' c' g' off p ci _ W (Nat.le_trans hB hbW.size) hd1 (fun W' hW' => hsh W' (hbW.trans hW')) hr1 hst hri hf hin (by omega) ⟨fun e => by subst e; exact row_ty_ne23 hst.row hrq (by decide), fun e => by subst e; exact row_ty_ne23 hst.dec hrq (by decide)⟩
  · rintro e w' ⟨hA, hb, hk⟩
    refine ⟨?_, hb, hk⟩
    rcases hA with ⟨p, rg', dg', r2, A2, n2, c2, p1, p2, p3, rfl, p4, p5⟩ | ⟨p, rg', dg', A2, n2, c2, Av, cv, p1, p2, p3, p4, p5, rfl, p6, p7, p8, p9, p10, p11⟩ | ⟨rg', dg', A2, n2, c2, p1, rfl, p2, p3, p4, p5, p6⟩
    · exact .inl ⟨p, p1, p2, p3, rfl, _, _, _, _, _, _, _, _, p4, p5.row⟩
    · have hpos : 0 < (runM r (l.take p)).2.1 := by
        rcases Nat.eq_zero_or_pos (runM r (l.take p)).2.1 with h0 | h0
        · exfalso
          have e := hz p p1 p3 h0
          rcases p5 with h | h
          · simp only at h; omega
          · simp only [e] at h; exact hw3 h.1
        · exact h0
      have hdl : (l.drop (runM r (l.take p)).2.1).length = l.length - (runM r (l.take p)).2.1 := by rw [List.length_drop]
      refine .inr (.inl ⟨p, Av, cv, p1, p2, p3, p4, hpos, rfl, p6.1, rg', dg', A2, n2, c2, sliceA Ai ci (runM r (l.take p)).2.1, ci - (runM r (l.take p)).2.1, ?_, p9, ?_, p10, p11, ?_, ?_⟩)
      · rw [hdl]; exact p7
      · rw [hdl]; exact p8
      · rw [← h6]
        unfold sliceA
        split
        · cases Ai <;> rfl
        · cases Ai with
          | none => rfl
          | some a => exact congrArg some (add_block a _)
      · intro hq
        exfalso
        have hA0 := qb_none (h6.trans hq)
        subst hA0
        have : l.length = 0 := by
          obtain ⟨-, ⟨hv, hl0⟩ | ⟨g', off, c', cs, hv, -⟩⟩ := h3
          · exact hl0
          · injection hv with e1; cases e1
        have := hle p p1
        omega
    · refine .inr (.inr ⟨?_, rfl, rg', dg', A2, n2, c2, Ai, ci, p2, p4, p3, p5, p6, h6, h7⟩)
      simp only [List.take_length] at p1
      exact p1
/-- All blocks of the old ones are as they were, but exchanges and the queue's octets. -/
def KeepQ (w w' : World) (q : Option Nat) : Prop := ∀ (k : Nat) (cur : Array Value) (e : TypeId) (fz : Nat × Nat), w.heap[k]? = some (Obj.cells cur e fz) → e ≠ 82 → (e ≠ 5 ∨ q ≠ some k) → w'.heap[k]? = w.heap[k]?
theorem KeepQ.row {w w' : World} {q : Option Nat} {k : Nat} {e : TypeId} {cs : List Value} (h : KeepQ w w' q) (hr : RowAt w k e cs) (h1 : e ≠ 82) (h2 : e ≠ 5) : RowAt w' k e cs := by
  have hr' := hr
  obtain ⟨cur, lo, hi, q1, _⟩ := hr'
  exact hr.keep (h k _ _ _ q1 h1 (.inl h2))
theorem KeepX.row {w w' : World} {k : Nat} {e : TypeId} {cs : List Value} (h : KeepX w w') (hr : RowAt w k e cs) (h1 : e ≠ 82) (h2 : e ≠ 122) (h3 : e ≠ 146) : RowAt w' k e cs := by
  have hr' := hr
  obtain ⟨cur, lo, hi, q1, _⟩ := hr'
  exact hr.keep (h k _ _ _ q1 h1 h2 h3)
theorem KeepQ.own {w w' : World} {q : Option Nat} {base n : Nat} {v : Value} {xs : List Value} (h : KeepQ w w' q) (ho : w.ownsRow base 5 1 v n xs) (hq : ∀ k, v.ownBlock = some k → q ≠ some k) : w'.ownsRow base 5 1 v n xs := by
  refine ⟨ho.1, ?_⟩
  rcases ho.2 with h4 | ⟨g', cap, cur, hv, hg', hh, r⟩
  · exact .inl h4
  · exact .inr ⟨g', cap, cur, hv, hg', (h g' _ _ _ hh (by decide) (.inr (hq g' (by rw [hv]; rfl)))).trans hh, r⟩
/-- In, the exchange not closed. -/
theorem xin_any (B g : Nat) (vo : Value) (M : ByteArray) (er : Int) (q : Option Nat) (l : List UInt8) (r : Rd) (w : World) (hB : B ≤ w.heap.size) (hBg : B ≤ g) (hx : XAt w B g vo M false er q l r)
    (B' : Nat) (A : Option Addr) (m c : Nat) (x : List UInt8) (hs : SliceIn w B' 1 A m c (bytesV x)) (hb : l.length + m ≤ 140737488355328) :
    Calls Tryz.prog 15 #[.pointer (some ⟨g, 0, none⟩), .slice A m c] w fun e w' => e = .returned (.tuple #[]) ∧ (∃ q', XAt w' B g vo M false er q' (l ++ x) r ∧ (q' = q ∨ ∃ k, q' = some k ∧ w.heap.size ≤ k)) ∧ KeepQ w w' q ∧ Below B w w' := by
  obtain ⟨rg, dg, A1, n1, c1, Ai, ci, h1, h2, h3, h4, h5, h6, h7⟩ := hx
  have hxl : x.length = m := by have := hs.1; rw [bytesV_length] at this; omega
  refine (oin_any g B l.length _ vo _ _ _ l w h1 h3 hB B' A m c x hs hb).mono ?_
  rintro e w' ⟨rfl, v', hr', hq', hsv, hqb⟩
  obtain ⟨A', c', rfl⟩ := hq'.slice
  -- the block that alone may have changed besides the exchange's own
  obtain ⟨gq, hgq, hBq, hgt⟩ : ∃ gq, (∀ a k d, (Value.slice Ai l.length ci) = .slice (some a) k d → a.block = gq) ∧ B ≤ gq ∧ (gq = g ∨ (q = some gq ∧ ∃ cs, RowAt w gq 5 cs)) := by
    rcases h3.2 with ⟨hv, _⟩ | ⟨gq, off, cq, xs, hv, hB', _, _, _, hrq, _⟩
    · exact ⟨g, (fun a k d e => by rw [hv] at e; injection e with e; cases e), hBg, .inl rfl⟩
    · refine ⟨gq, (fun a k d e => by rw [hv] at e; injection e with e; injection e with e; subst e; rfl), hB', .inr ⟨?_, xs, hrq⟩⟩
      rw [← h6, hv]
      rfl
  have s := hsv gq hgq
  have hkq : KeepQ w w' q := fun k cur e fz hk e1 e2 => by
    refine s.block k (heap_some_lt hk) (fun he => ?_) (fun he => by subst he; exact e1 (row_one h1 hk))
    rcases hgt with hg | ⟨hq, cs, hrq⟩
    · subst he
      rw [hg] at hk
      exact e1 (row_one h1 hk)
    · subst he
      rcases e2 with e2 | e2
      · exact e2 (row_one hrq hk)
      · exact e2 hq
  refine ⟨rfl, ⟨qb (.slice A' (l.length + m) c'), ⟨rg, dg, A1, n1, c1, A', c', ?_, ?_, ?_, h4, h5, ?_, ?_⟩, ?_⟩, ?_, ?_⟩
  · rw [List.length_append, hxl]; exact hr'
  · exact h2.keepT s.size (fun k cur e fz hk he => hkq k cur e fz hk (by rcases he with h | h | h <;> (rw [h]; decide)) (.inl (by rcases he with h | h | h <;> (rw [h]; decide))))
  · rw [List.length_append, hxl]; exact hq'
  · cases A' <;> rfl
  · intro hn
    apply h7
    rw [← h6]
    rcases hqb with h | ⟨k, hk, -⟩
    · rw [← h]; exact hn
    · rw [hn] at hk; cases hk
  · rcases hqb with h | ⟨k, hk, h⟩
    · exact .inl (h.trans h6)
    · exact .inr ⟨k, hk, h⟩
  · exact hkq
  · exact (s.mono hB).below hBq hBg
/-- An exchange, where the blocks of its own are as they were. -/
theorem XAt.keepB {W W' : World} {B g : Nat} {vo : Value} {M : ByteArray} {fi : Bool} {er : Int} {q : Option Nat} {l : List UInt8} {r : Rd} (h : XAt W B g vo M fi er q l r) (hs : W.heap.size ≤ W'.heap.size)
    (hk : ∀ (k : Nat) (cur : Array Value) (e : TypeId) (fz : Nat × Nat), W.heap[k]? = some (Obj.cells cur e fz) → (e = 82 ∨ e = 122 ∨ e = 146 ∨ e = 74 ∨ (e = 5 ∧ q = some k)) → W'.heap[k]? = W.heap[k]?) : XAt W' B g vo M fi er q l r := by
  obtain ⟨rg, dg, A, n, c, Ai, ci, h1, h2, h3, h4, h5, h6, h7⟩ := h
  refine ⟨rg, dg, A, n, c, Ai, ci, ?_, h2.keepT hs (fun k cur e fz hk' he => hk k cur e fz hk' (by rcases he with h | h | h <;> simp [h])), ?_, h4, h5, h6, h7⟩
  · have h1' := h1
    obtain ⟨cur, lo, hi, q1, _⟩ := h1'
    exact h1.keep (hk _ _ _ _ q1 (.inl rfl))
  · refine ⟨h3.1, ?_⟩
    rcases h3.2 with h | ⟨g', off, c', cs, hv, hg, a1, a2, a3, hr, a4⟩
    · exact .inl h
    · have hq : q = some g' := by rw [← h6, hv]; rfl
      have hr' := hr
      obtain ⟨cur, lo, hi, q1, _⟩ := hr'
      exact .inr ⟨g', off, c', cs, hv, hg, a1, a2, a3, hr.keep (hk _ _ _ _ q1 (.inr (.inr (.inr (.inr ⟨rfl, hq⟩))))), a4⟩
theorem XErr.keepB {W W' : World} {g : Nat} {er : Int} (h : XErr W g er)
    (hk : ∀ (k : Nat) (cur : Array Value) (e : TypeId) (fz : Nat × Nat), W.heap[k]? = some (Obj.cells cur e fz) → (e = 82 ∨ e = 122) → W'.heap[k]? = W.heap[k]?) : XErr W' g er := by
  obtain ⟨vi, vo, me, fi, rg, dg, r, F, h1, h2⟩ := h
  have h1' := h1
  have h2' := h2
  obtain ⟨cur, lo, hi, q1, _⟩ := h1'
  obtain ⟨cur2, lo2, hi2, q2, _⟩ := h2'
  exact ⟨vi, vo, me, fi, rg, dg, r, F, h1.keep (hk _ _ _ _ q1 (.inl rfl)), h2.keep (hk _ _ _ _ q2 (.inr rfl))⟩
/-- Over an append onto a row of octets of one's own. -/
theorem XAt.grown {W W' : World} {B g base n : Nat} {vo v : Value} {xs : List Value} {M : ByteArray} {fi : Bool} {er : Int} {q : Option Nat} {l : List UInt8} {r : Rd} (h : XAt W B g vo M fi er q l r) (ho : W.ownsRow base 5 1 v n xs) (hg : W.grownBy W' v.ownBlock) (hq : ∀ k, v.ownBlock = some k → q ≠ some k) : XAt W' B g vo M fi er q l r :=
  h.keepB hg.size (fun k cur e fz hk he => hg.block k (heap_some_lt hk) (fun hb => by
    rcases he with h | h | h | h | h
    all_goals first
      | exact hq k hb.symm h.2
      | (subst h
         rcases ho.2 with ⟨h3, _⟩ | ⟨g2, cap2, cur2, hv2, _, hh2, _⟩
         · rw [h3] at hb; cases hb
         · rw [hv2] at hb
           simp only [Value.ownBlock, Option.some.injEq] at hb
           subst hb
           rw [hk] at hh2
           simp only [Option.some.injEq, Obj.cells.injEq] at hh2
           exact absurd hh2.2.1 (by decide))))
theorem XErr.grown {W W' : World} {g base n : Nat} {v : Value} {xs : List Value} {er : Int} (h : XErr W g er) (ho : W.ownsRow base 5 1 v n xs) (hg : W.grownBy W' v.ownBlock) : XErr W' g er :=
  h.keepB (fun k cur e fz hk he => hg.block k (heap_some_lt hk) (fun hb => by
    rcases ho.2 with ⟨h3, _⟩ | ⟨g2, cap2, cur2, hv2, _, hh2, _⟩
    · rw [h3] at hb; cases hb
    · rw [hv2] at hb
      simp only [Value.ownBlock, Option.some.injEq] at hb
      subst hb
      rw [hk] at hh2
      simp only [Option.some.injEq, Obj.cells.injEq] at hh2
      rcases he with h | h <;> (subst h; exact absurd hh2.2.1 (by decide))))
/-- Over a store into a block of another type. -/
theorem XAt.only {W W' : World} {B g y : Nat} {t : TypeId} {cs : List Value} {vo : Value} {M : ByteArray} {fi : Bool} {er : Int} {q : Option Nat} {l : List UInt8} {r : Rd} (h : XAt W B g vo M fi er q l r) (ho : Only y W W') (hy : RowAt W y t cs) (ht : t ≠ 82 ∧ t ≠ 122 ∧ t ≠ 146 ∧ t ≠ 74 ∧ t ≠ 5) : XAt W' B g vo M fi er q l r :=
  h.keepB (by rw [ho.size]; exact Nat.le_refl _) (fun k cur e fz hk he => ho.block k (fun hb => by
    subst hb
    have := row_one hy hk
    rcases he with h | h | h | h | ⟨h, -⟩ <;> (subst h; simp [← this] at ht)))
end Go.Proofs.YtniiadhhefgmcaaGreatDoor

/- Layer 23: an exchange's other calls in its own terms; the document's example. Condition: the world's shape. -/
namespace IH
/-- The document's example: what comes, and the reader as it is taken. -/
def ex23L : List UInt8 := [72, 84, 84, 80, 47, 49, 46, 49, 32, 50, 48, 48, 32, 79, 75, 13, 10, 67, 111, 110, 116, 101, 110, 116, 45, 76, 101, 110, 103, 116, 104, 58, 32, 50, 13, 10, 13, 10, 97, 98, 99]
def ex23l (i : Nat) : List UInt8 := match i with | 0 => ex23L | 1 => ex23L.drop 17 | _ => ex23L.drop 40
def ex23r (i : Nat) : Rd := match i with | 0 => Rd.new false [71, 69, 84] | 1 => (runM (Rd.new false [71, 69, 84]) (ex23L.take 30)).2.2.2 | _ => (runM (runM (Rd.new false [71, 69, 84]) (ex23L.take 30)).2.2.2 ((ex23L.drop 17).take 24)).2.2.2
def ex23p (i : Nat) : Nat := match i with | 0 => 30 | _ => 24
theorem ex23_at (i : Nat) (hi : i < 2) : (runM (ex23r i) ((ex23l i).take (ex23p i))).2.2.1 = 0 ∧ (ex23l i).drop (runM (ex23r i) ((ex23l i).take (ex23p i))).2.1 = ex23l (i + 1) ∧ (runM (ex23r i) ((ex23l i).take (ex23p i))).2.1 ≠ 0 ∧ (runM (ex23r i) (ex23l i)).2.1 ≠ 0 ∧
    (ex23r (i + 1)) = (runM (ex23r i) ((ex23l i).take (ex23p i))).2.2.2 ∧ ¬ ((ex23r (i + 1)).w = 3 ∧ (ex23r (i + 1)).start.status < 200) ∧ (ex23r i).w ≠ 3 ∧ min (30 : Int) ((ex23l i).length : Int) = (ex23p i : Int) := by
  match i, hi with
  | 0, _ => refine ⟨by decide +kernel, by decide +kernel, by decide +kernel, by decide +kernel, rfl, by decide +kernel, by decide +kernel, by decide +kernel⟩
  | 1, _ => refine ⟨by decide +kernel, by decide +kernel, by decide +kernel, by decide +kernel, rfl, by decide +kernel, by decide +kernel, by decide +kernel⟩
theorem ex23_end : (ex23r 2).w = 3 ∧ (ex23r 2).start.status = 200 ∧ (ex23l 2).length = 1 := by
  refine ⟨by decide +kernel, by decide +kernel, by decide +kernel⟩
theorem ex23_in : ∀ i, RdIn (ex23r i) ∧ (ex23r i).fault = 0 ∧ SoundM (ex23r i) ∧ ((ex23r i).w ≤ 1 → (ex23r i).dec = Dec.new) ∧ (ex23r i).fields.length ≤ 128 := by
  have h0 : RdIn (ex23r 0) ∧ (ex23r 0).fault = 0 ∧ SoundM (ex23r 0) ∧ ((ex23r 0).w ≤ 1 → (ex23r 0).dec = Dec.new) ∧ (ex23r 0).fields.length ≤ 128 :=
    ⟨newR_in false _ (by simp [Go.maxLen]), rfl, newM_sound _ _, fun _ => rfl, by simp [ex23r, Rd.new]⟩
  have hs : ∀ i, i < 2 → (RdIn (ex23r i) ∧ (ex23r i).fault = 0 ∧ SoundM (ex23r i) ∧ ((ex23r i).w ≤ 1 → (ex23r i).dec = Dec.new) ∧ (ex23r i).fields.length ≤ 128) →
      (RdIn (ex23r (i + 1)) ∧ (ex23r (i + 1)).fault = 0 ∧ SoundM (ex23r (i + 1)) ∧ ((ex23r (i + 1)).w ≤ 1 → (ex23r (i + 1)).dec = Dec.new) ∧ (ex23r (i + 1)).fields.length ≤ 128) := by
    intro i hi ⟨a1, a2, a3, a4, a5⟩
    obtain ⟨e1, -, -, -, e5, -⟩ := ex23_at i hi
    have k1 := runM_in _ (ex23r i) ((ex23l i).take (ex23p i)) (Nat.le_refl _) a1 a2 e1
    have k2 := runM_sound _ (ex23r i) ((ex23l i).take (ex23p i)) (Nat.le_refl _) a3 a4 e1
    have k3 := runM_few _ (ex23r i) ((ex23l i).take (ex23p i)) (Nat.le_refl _) a5
    rw [e5]
    exact ⟨k1.1, k1.2, k2.1, k2.2.1, k3⟩
  have h1 := hs 0 (by decide) h0
  have h2 := hs 1 (by decide) h1
  intro i
  match i with
  | 0 => exact h0
  | 1 => exact h1
  | (n + 2) => exact h2
end IH
namespace Go.Proofs.YtniiadhhefgmcaaGreatDoor
open Go.RowKit IH
set_option maxRecDepth 100000
theorem xout_any (B g n c : Nat) (A : Option Addr) (N : List UInt8) (M : ByteArray) (fi : Bool) (er : Int) (q : Option Nat) (l : List UInt8) (r : Rd) (m : Int) (T : Nat) (hT : (T : Int) = max 0 (min m (n : Int))) (w : World) (hx : XAt w B g (.slice A n c) M fi er q l r) (hq : QIn w g A n c N) (hn : n ≤ 140737488355328) :
    Calls Tryz.prog 12 #[.pointer (some ⟨g, 0, none⟩), .int .i64 m] w fun e w' => ∃ v, e = .returned v ∧ w'.ownsRow w.heap.size 5 1 v T (bytesV (N.take T)) ∧ XAt w' B g (.slice (sliceA A c T) (n - T) (c - T)) M fi er q l r ∧ QIn w' g (sliceA A c T) (n - T) (c - T) (N.drop T) ∧ Save w.heap.size g w w' := by
  obtain ⟨rg, dg, A1, n1, c1, Ai, ci, h1, h2, h3, h4⟩ := hx
  refine (oout_any g n c A N _ _ _ _ _ m T hT w h1 hq hn).mono ?_
  rintro e w' ⟨v, rfl, ho, hr, hs⟩
  exact ⟨v, rfl, ho, ⟨rg, dg, A1, n1, c1, Ai, ci, hr, h2.saveE h1 hs, h3.save h1 hs, h4⟩, (hq.from_ T (by omega)).save hs, hs⟩
theorem xdone_any (B g : Nat) (vo : Value) (M : ByteArray) (fi : Bool) (er : Int) (q : Option Nat) (l : List UInt8) (r : Rd) (w : World) (hx : XAt w B g vo M fi er q l r) :
    Calls Tryz.prog 20 #[.pointer (some ⟨g, 0, none⟩)] w fun e w' => e = .returned (.bool (r.w == 3)) ∧ w = w' := by
  obtain ⟨rg, dg, A1, n1, c1, Ai, ci, h1, h2, h3, h4⟩ := hx
  exact odone_any g rg dg r _ _ _ _ _ _ w h1 h2.row
theorem xwait_any (B g : Nat) (vo : Value) (M : ByteArray) (fi : Bool) (er : Int) (q : Option Nat) (l : List UInt8) (r : Rd) (w : World) (hx : XAt w B g vo M fi er q l r) :
    Calls Tryz.prog 22 #[.pointer (some ⟨g, 0, none⟩)] w fun e w' => e = .returned (.int .i64 l.length) ∧ w' = w := by
  obtain ⟨rg, dg, A1, n1, c1, Ai, ci, h1, h2, h3, h4⟩ := hx
  exact owait_any g _ _ _ _ _ _ _ _ w h1
theorem xhead_any (B g : Nat) (vo : Value) (M : ByteArray) (fi : Bool) (er : Int) (q : Option Nat) (l : List UInt8) (r : Rd) (w : World) (hx : XAt w B g vo M fi er q l r) (hf : r.fields.length ≤ 128) :
    Calls Tryz.prog 19 #[.pointer (some ⟨g, 0, none⟩)] w fun e w' =>
      ((r.w < 2 ∧ e = .returned (.tuple #[.agg zeroM.toArray, .bool false])) ∨ (¬ r.w < 2 ∧ ∃ A' n' c', e = .returned (.tuple #[.agg (msgC r.start (.slice A' n' c') (.slice none 0 0)).toArray, .bool true]) ∧ w'.ownsRow w.heap.size 74 2 (.slice A' n' c') n' (fldsV r.fields))) ∧ Below w.heap.size w w' := by
  obtain ⟨rg, dg, A1, n1, c1, Ai, ci, h1, h2, h3, h4⟩ := hx
  have hn : n1 ≤ 1000000 := by have := fld_count h2.fl; omega
  by_cases hw : r.w < 2
  · refine (ohead_any g rg _ _ _ _ _ false w (fun C _ => C = zeroM) h1 (fun W hW _ => ?_) (fun _ _ _ h _ => h)).mono ?_
    · refine (rdhead_any rg dg r A1 n1 c1 W (h2.at_ hW) hn).mono ?_
      rintro e w' ⟨h | h, hb⟩
      · exact ⟨⟨zeroM, ⟨rfl, by simp [zeroM, Value.oneCell']⟩, h.2, rfl⟩, hb⟩
      · exact absurd hw h.1
    · rintro e w' ⟨⟨C, -, rfl, rfl⟩, hb⟩
      exact ⟨.inl ⟨hw, rfl⟩, hb⟩
  · refine (ohead_any g rg _ _ _ _ _ true w (fun C W => ∃ A' n' c', C = msgC r.start (.slice A' n' c') (.slice none 0 0) ∧ W.ownsRow (w.heap.size + 1) 74 2 (.slice A' n' c') n' (fldsV r.fields)) h1 (fun W hW hlt => ?_) (fun C W W' h ho => ?_)).mono ?_
    · refine (rdhead_any rg dg r A1 n1 c1 W (h2.at_ hW) hn).mono ?_
      rintro e w' ⟨h | h, hb⟩
      · exact absurd h.1 hw
      · obtain ⟨-, A', n', c', rfl, ho⟩ := h
        exact ⟨⟨_, msgC_right _ _ _ _ _ _ _, rfl, A', n', c', rfl, own_low ho hlt⟩, hb⟩
    · obtain ⟨A', n', c', rfl, h⟩ := h
      refine ⟨A', n', c', rfl, h.1, ?_⟩
      rcases h.2 with h2 | ⟨g', cap, cur, hv, hg', hh, r⟩
      · exact .inl h2
      · exact .inr ⟨g', cap, cur, hv, hg', (ho.block g' (by omega)).trans hh, r⟩
    · rintro e w' ⟨⟨C, -, rfl, A', n', c', rfl, ho⟩, hb⟩
      exact ⟨.inr ⟨hw, A', n', c', rfl, own_low ho (Nat.le_succ _)⟩, hb⟩
theorem xnew_ok (C : List Value) (hC : RightC C) (me : ByteArray) (hst : C[2]? = some (.int .i64 0)) (hme : C[0]? = some (.string me)) (N : List UInt8) (w : World)
    (PC : ∀ W, Below w.heap.size w W → Calls Tryz.prog 32 #[.agg C.toArray, .string ⟨#[]⟩] W fun e w' => (∃ v, e = .returned (.tuple #[v, .int .i64 0]) ∧ w'.ownsRow W.heap.size 5 1 v N.length (bytesV N)) ∧ Below W.heap.size W w') :
    Calls Tryz.prog 10 #[.agg C.toArray] w fun e w' => (∃ g A c, e = .returned (.tuple #[.pointer (some ⟨g, 0, none⟩), .int .i64 0]) ∧ XAt w' w.heap.size g (.slice A N.length c) me false 0 none [] (Rd.new false me.data.toList) ∧ QIn w' g A N.length c N ∧ w.heap.size ≤ g ∧ g < w'.heap.size) ∧ Below w.heap.size w w' := by
  refine (onew_good C hC me hst hme N w PC).mono ?_
  rintro e w' ⟨⟨g, rg, dg, A, c, rfl, h1, h2, h3, h4, h5, h6, h7, h8, h9⟩, hb⟩
  refine ⟨⟨g, A, c, rfl, ⟨rg, dg, none, 0, 0, none, 0, h1, ⟨h3, h4, SliceIn.none_ (Nat.zero_le _), (fun b o h => by cases h), h7, (fun b o h => by cases h)⟩, QOwn.nil _ _, h6, h5, rfl, fun _ => rfl⟩, ⟨h2.more (Nat.le_of_lt h1.lt), fun hn a ha => ?_⟩, by omega, h1.lt⟩, hb⟩
  obtain ⟨b, o, e, hb, -⟩ := h2.2.2.2 hn
  rw [ha] at e
  injection e with e
  subst e
  exact Nat.ne_of_lt hb
/-- A Step of the document's example. -/
theorem step23_ex (i B g : Nat) (hi : i < 2) (vo : Value) (q : Option Nat) (w : World) (hB : B ≤ w.heap.size) (hBg : B ≤ g) (hsh : ∀ W, Below B w W → W.ShapedOpen Tryz.prog) (hx : XAt w B g vo ⟨#[71, 69, 84]⟩ false 0 q (ex23l i) (ex23r i)) :
    Calls Tryz.prog 17 #[.pointer (some ⟨g, 0, none⟩), .int .i64 30] w fun e w' => (∃ v, e = .returned v) ∧ XAt w' B g vo ⟨#[71, 69, 84]⟩ false 0 q (ex23l (i + 1)) (ex23r (i + 1)) ∧ Below B w w' := by
  obtain ⟨k1, k2, k3, k4, k5⟩ := ex23_in i
  obtain ⟨e1, e2, e3, e4, e5, e6, e7, e8⟩ := ex23_at i hi
  have hl : (ex23l i).length ≤ 65535 := by
    match i, hi with
    | 0, _ => decide
    | 1, _ => decide
  have hne : ¬ runM (ex23r i) ((ex23l i).take (ex23p i)) = ([], 0, 0, ex23r i) := fun h => e3 (by rw [h])
  refine (xstep_any B g vo _ false q _ _ 30 (ex23p i) e8 w hB hBg hsh hx hl k1 k2 k3 k4 k5 e7 (by decide) (by decide)).mono ?_
  rintro e w' ⟨h | h | h, hb, hk⟩
  · obtain ⟨p, p1, p2, p3, -⟩ := h
    rcases p2 with rfl | p2
    · exact absurd e1 p3
    · exact absurd p2 hne
  · obtain ⟨p, Av, cv, p1, p2, p3, p4, p5, rfl, p6, p7⟩ := h
    rcases p2 with rfl | p2
    · rw [← e5, if_neg e6, e2] at p7
      exact ⟨⟨_, rfl⟩, p7, hb⟩
    · exact absurd p2 hne
  · exact absurd (by rw [h.1]) e4
end Go.Proofs.YtniiadhhefgmcaaGreatDoor

/- Layer 23's laws: the document's example. Condition: the world's shape. Printed by mkori16.py. -/
namespace IH
/-- The example's request. -/
def ex23M : Msg := ⟨{ Sta.zero with method := [71, 69, 84], target := [47, 120], minor := 1 }, [([72, 111, 115, 116], [97])], []⟩
theorem ex23_req : rightM ex23M [] = true ∧ (printM ex23M []).take 3 = [71, 69, 84] ∧ (printM ex23M []).length = 28 := by
  refine ⟨by decide +kernel, by decide +kernel, by decide +kernel⟩
end IH
namespace Go.Proofs.YtniiadhhefgmcaaGreatDoor
open Go.RowKit IH
set_option maxRecDepth 100000
theorem XAt.base {W : World} {B B' g : Nat} {vo : Value} {M : ByteArray} {fi : Bool} {er : Int} {q : Option Nat} {l : List UInt8} {r : Rd} (h : XAt W B g vo M fi er q l r) (hB : B' ≤ B) : XAt W B' g vo M fi er q l r := by
  obtain ⟨rg, dg, A, n, c, Ai, ci, h1, h2, h3, h4, h5, h6⟩ := h
  refine ⟨rg, dg, A, n, c, Ai, ci, h1, h2, ⟨h3.1, ?_⟩, Nat.le_trans hB h4, Nat.le_trans hB h5, h6⟩
  rcases h3.2 with h | ⟨g, off, c, cs, hv, hg, h⟩
  · exact .inl h
  · exact .inr ⟨g, off, c, cs, hv, Nat.le_trans hB hg, h⟩
theorem XAt.lt {W : World} {B g : Nat} {vo : Value} {M : ByteArray} {fi : Bool} {er : Int} {q : Option Nat} {l : List UInt8} {r : Rd} (h : XAt W B g vo M fi er q l r) : g < W.heap.size := by
  obtain ⟨rg, dg, A, n, c, Ai, ci, h1, -⟩ := h
  exact h1.lt
theorem const_bytes23 (t e : TypeId) (cs : Array Value) (n c : Nat) (ht : Program.underlying Tryz.prog t = some (.slice e)) (he : Program.underlying Tryz.prog e = some (.int .u8)) (w : World) :
    (convert t t (.slice (some ⟨w.heap.size, 0, none⟩) n c)).run Tryz.prog (w.alloc (.cells cs e)) = .ok (.slice (some ⟨w.heap.size, 0, none⟩) n c) (w.alloc (.cells cs e (cs.size, cs.size + 1))) := Lib.run_convert_bytes_const (P := Tryz.prog) w t e cs n c ht he
theorem getSta_b (s : ByteArray) (hs : s.size ≤ 1000000) : StaB (getSta s) := ⟨by simp [getSta], by show s.data.toList.length ≤ _; rw [data_len]; omega, by simp [getSta, Sta.zero], by simp [getSta, Sta.zero], by simp [getSta]⟩
set_option maxHeartbeats 16000000 in
theorem awake23_any (w : World) (hsh : w.ShapedOpen Tryz.prog) : Calls Tryz.prog 8 #[] w fun e w' => e = .returned (.bool true) ∧ Below w.heap.size w w' := by
  have HMi : Hid ((Tryz.prog.info? 27).map (·.size) = some 7) := Lib.hid (by kernel_rfl)
  have kc : ∀ w : World, (convert 25 25 (.slice (some ⟨w.heap.size, 0, none⟩) 41 41)).run Tryz.prog (w.alloc (.cells #[.int .u8 72, .int .u8 84, .int .u8 84, .int .u8 80, .int .u8 47, .int .u8 49, .int .u8 46, .int .u8 49, .int .u8 32, .int .u8 50, .int .u8 48, .int .u8 48, .int .u8 32, .int .u8 79, .int .u8 75, .int .u8 13, .int .u8 10, .int .u8 67, .int .u8 111, .int .u8 110, .int .u8 116, .int .u8 101, .int .u8 110, .int .u8 116, .int .u8 45, .int .u8 76, .int .u8 101, .int .u8 110, .int .u8 103, .int .u8 116, .int .u8 104, .int .u8 58, .int .u8 32, .int .u8 50, .int .u8 13, .int .u8 10, .int .u8 13, .int .u8 10, .int .u8 97, .int .u8 98, .int .u8 99] 5)) = .ok (.slice (some ⟨w.heap.size, 0, none⟩) 41 41) (w.alloc (.cells #[.int .u8 72, .int .u8 84, .int .u8 84, .int .u8 80, .int .u8 47, .int .u8 49, .int .u8 46, .int .u8 49, .int .u8 32, .int .u8 50, .int .u8 48, .int .u8 48, .int .u8 32, .int .u8 79, .int .u8 75, .int .u8 13, .int .u8 10, .int .u8 67, .int .u8 111, .int .u8 110, .int .u8 116, .int .u8 101, .int .u8 110, .int .u8 116, .int .u8 45, .int .u8 76, .int .u8 101, .int .u8 110, .int .u8 103, .int .u8 116, .int .u8 104, .int .u8 58, .int .u8 32, .int .u8 50, .int .u8 13, .int .u8 10, .int .u8 13, .int .u8 10, .int .u8 97, .int .u8 98, .int .u8 99] 5 (41, 42))) := fun w => const_bytes23 25 5 #[.int .u8 72, .int .u8 84, .int .u8 84, .int .u8 80, .int .u8 47, .int .u8 49, .int .u8 46, .int .u8 49, .int .u8 32, .int .u8 50, .int .u8 48, .int .u8 48, .int .u8 32, .int .u8 79, .int .u8 75, .int .u8 13, .int .u8 10, .int .u8 67, .int .u8 111, .int .u8 110, .int .u8 116, .int .u8 101, .int .u8 110, .int .u8 116, .int .u8 45, .int .u8 76, .int .u8 101, .int .u8 110, .int .u8 103, .int .u8 116, .int .u8 104, .int .u8 58, .int .u8 32, .int .u8 50, .int .u8 13, .int .u8 10, .int .u8 13, .int .u8 10, .int .u8 97, .int .u8 98, .int .u8 99] 41 41 Tryz.underlying25 Tryz.underlying5 w
  have GET := Lib.hid (get_any ⟨#[47, 120]⟩ w)
  have NW := Lib.hid (fun (W : World) (b : Nat) (hs : SliceIn W W.heap.size 2 (some ⟨b, 0, none⟩) 1 1 (fldsV getFld)) =>
    xnew_ok (msgC (getSta ⟨#[47, 120]⟩) (.slice (some ⟨b, 0, none⟩) 1 1) (.slice none 0 0)) (msgC_right _ _ _ _ _ _ _) ⟨#[71, 69, 84]⟩ rfl rfl (printM ex23M []) W (fun W' hW' => by
      refine (mprint_any (getSta ⟨#[47, 120]⟩) (getSta_b _ (by decide)) (by decide) (by decide) getFld [] (some ⟨b, 0, none⟩) none 1 0 1 0 ⟨#[]⟩ W' ((hs.below hW').more hW'.size) (SliceIn.none_ (Nat.zero_le _)) ?_ (by decide +kernel) (by decide +kernel) (Nat.zero_le _)).mono ?_
      · exact ⟨by decide, by intro f hf; simp only [getFld, List.mem_singleton] at hf; subst hf; decide, by decide⟩
      · rintro e w' ⟨⟨h, -⟩ | ⟨-, v, rfl, ho⟩, hb⟩
        · exact absurd (ex23_req.1.symm.trans h) (by decide)
        · exact ⟨⟨v, rfl, ho⟩, hb⟩))
  have HSH := Lib.hid hsh
  clear hsh
  go_enter Tryz.func8, Tryz.ntmps8
  go_upto_region 2 with (first
    | (go_at_call 14; (with_reducible refine GET.out.mono ?_); rintro e w1 ⟨b, rfl, hs1, hb1⟩; have B1 := Lib.hid hb1; have S1 := Lib.hid hs1; clear hs1 hb1)
    | (go_at_call 10; (with_reducible refine (NW.out _ b S1.out).mono ?_); rintro e w2 ⟨⟨g, A, c, rfl, hx, hq, hg1, hg2⟩, hb2⟩; have B2 := Lib.hid (below_step B1.out hb2); have X2 := Lib.hid (hx.base B1.out.size); have Q2 := Lib.hid hq; have G2 := Lib.hid (And.intro (Nat.le_trans B1.out.size hg1) (And.intro hg2 B1.out.size)); clear hx hq hg1 hg2 hb2))
  have XO := Lib.hid (xout_any _ g _ c A _ _ _ _ _ _ _ 3 3 (by rw [ex23_req.2.2]; rfl) w2 X2.out Q2.out (by rw [ex23_req.2.2]; decide))
  go_upto_region 4 with (go_at_call 12; (with_reducible refine XO.out.mono ?_); rintro e w3 ⟨v, rfl, ho3, hx3, hq3, hs3⟩; obtain ⟨Av, cv, rfl, hin3⟩ := own_slice ho3; have kq := run_string_of (P := Tryz.prog) hin3 25 9 5 Tryz.underlying25 Tryz.underlying5 Tryz.underlying9; rw [ex23_req.2.1] at kq; have B3 := Lib.hid (B2.out.trans ((hs3.mono B2.out.size).below G2.out.1)); have X3 := Lib.hid hx3; clear ho3 hx3 hq3 hs3 hin3)
  clear kq
  obtain ⟨w4, hw4⟩ : ∃ W : World, w3.alloc (.cells #[.int .u8 72, .int .u8 84, .int .u8 84, .int .u8 80, .int .u8 47, .int .u8 49, .int .u8 46, .int .u8 49, .int .u8 32, .int .u8 50, .int .u8 48, .int .u8 48, .int .u8 32, .int .u8 79, .int .u8 75, .int .u8 13, .int .u8 10, .int .u8 67, .int .u8 111, .int .u8 110, .int .u8 116, .int .u8 101, .int .u8 110, .int .u8 116, .int .u8 45, .int .u8 76, .int .u8 101, .int .u8 110, .int .u8 103, .int .u8 116, .int .u8 104, .int .u8 58, .int .u8 32, .int .u8 50, .int .u8 13, .int .u8 10, .int .u8 13, .int .u8 10, .int .u8 97, .int .u8 98, .int .u8 99] 5 (41, 42)) = W := ⟨_, rfl⟩
  have b34 : Below w3.heap.size w3 w4 := by rw [← hw4]; exact (Below.refl _ _).alloc (Nat.le_refl _) _
  have B4 := Lib.hid (below_step B3.out b34)
  have X4 := Lib.hid (X3.out.below b34)
  have S4 : Hid (SliceIn w4 w4.heap.size 1 (some ⟨w3.heap.size, 0, none⟩) 41 41 (bytesV ex23L)) := Lib.hid (by
    have hrow : RowAt w4 w3.heap.size 5 (bytesV ex23L) := by rw [← hw4]; exact RowAt.lit w3 5 (bytesV ex23L)
    exact hrow.slice (size := 1) (n := 41) (c := 41) rfl (Nat.le_refl _) (by simp [maxLen]))
  have XI := Lib.hid (xin_any w.heap.size g _ _ _ _ _ _ w4 B4.out.size G2.out.1 X4.out w4.heap.size (some ⟨w3.heap.size, 0, none⟩) 41 41 ex23L S4.out (by decide))
  have kc3 := kc w3
  rw [hw4] at kc3
  clear kc b34
  go_upto_region 5 with (go_at_call 15; (with_reducible refine XI.out.mono ?_); rintro e w5 ⟨rfl, ⟨q5, hx5, -⟩, -, hb5⟩; have B5 := Lib.hid (B4.out.trans hb5); have X5 := Lib.hid hx5; clear hx5 hb5)
  clear XI X4 X3 X2 B4 B3 hw4 S4 kc3 XO NW GET
  go_wp2_with fail
  go_loopw [3] (fun iv wr => ∃ (i : Nat) (q : Option Nat), iv = .int .i64 i ∧ i ≤ 2 ∧ XAt wr w.heap.size g (.slice (sliceA A c 3) ((printM ex23M []).length - 3) (c - 3)) ⟨#[71, 69, 84]⟩ false 0 q (ex23l i) (ex23r i) ∧ Below w.heap.size w wr) (fun iv _ => 9 - (intOf iv).toNat)
  case atStart => exact ⟨0, q5, rfl, by decide, X5.out, B5.out⟩
  case round =>
    clear X5 B5
    obtain ⟨wq, hwq⟩ : ∃ x : World, x = wr := ⟨_, rfl⟩
    subst hwq
    obtain ⟨i, q, rfl, hi, hx, hb⟩ := hrel
    have X := Lib.hid hx
    have B := Lib.hid hb
    have DN := Lib.hid (xdone_any _ g _ _ _ _ _ _ _ wq hx)
    clear hx hb
    by_cases hi2 : i < 2
    · have ST := Lib.hid (step23_ex i w.heap.size g hi2 _ q wq B.out.size G2.out.1 (fun W hW => shaped_below HSH.out (B.out.trans hW)) X.out)
      have hw3 : ((ex23r i).w == 3) = false := by rw [beq_eq_false_iff_ne]; exact (ex23_at i hi2).2.2.2.2.2.2.1
      rw [hw3] at DN
      have hi9 : (i : Int) < 9 := by omega
      have hadd : IntKind.i64.wrap ((i : Int) + 1) = ((i + 1 : Nat) : Int) := by rw [IntWalk.i64_in _ ⟨by omega, by omega⟩]; rfl
      go_wp2_with (first
        | (go_at_call 20; (with_reducible refine DN.out.mono ?_); rintro e wd ⟨rfl, rfl⟩)
        | (go_at_call 17; (with_reducible refine ST.out.mono ?_); rintro e w7 ⟨⟨v7, rfl⟩, hx7, hb7⟩; have X7 := Lib.hid hx7; have B7 := Lib.hid (B.out.trans hb7); clear hx7 hb7))
      go_roundw
      case rel => exact ⟨i + 1, q, by first | rfl | go_num, hi2, X7.out, B7.out⟩
      case measure => simp [intOf]; omega
    · obtain rfl : i = 2 := by omega
      clear hi2 hi
      obtain ⟨e1, e2, e3⟩ := ex23_end
      rw [e1] at DN
      have HD := Lib.hid (xhead_any _ g _ _ _ _ _ _ _ wq X.out (ex23_in 2).2.2.2.2)
      have h29 : ((2 : Nat) : Int) < 9 := by decide
      go_upto_region 9 with (go_at_call 20; (with_reducible refine DN.out.mono ?_); rintro e wd ⟨rfl, rfl⟩)
      clear DN
      go_upto_region 10 with (first
        | (go_at_call 19; (with_reducible refine HD.out.mono ?_); rintro e w8 ⟨h | h, hb8⟩; (exfalso; have := h.1; rw [e1] at this; exact absurd this (by decide)); obtain ⟨-, A', n', c', rfl, -⟩ := h; have B8 := Lib.hid (below_step B.out hb8); have X8 := Lib.hid (X.out.below hb8); (obtain ⟨C, hC⟩ : ∃ C, msgC (ex23r 2).start (.slice A' n' c') (.slice none 0 0) = C := ⟨_, rfl⟩); rw [hC]; have HC : Hid (RightC C ∧ C[2]? = some (.int .i64 200)) := Lib.hid (by rw [← hC]; exact ⟨msgC_right _ _ _ _ _ _ _, by show some (Value.int .i64 (ex23r 2).start.status) = _; rw [e2]⟩); have HCi : Hid ((Tryz.prog.info? 27).map (·.size) = some C.length) := Lib.hid (by rw [HC.out.1.1]; exact HMi.out); clear hb8 hC)
        | (refine wpList_store_row rfl 27 _ _ rfl w8.heap.size _ C zeroM rfl rfl (RowAt.new w8 27 _) (by rw [HC.out.1.1]; rfl) HCi.out HC.out.1.2 ?_; intro w9 hro hoo; have hb9 := hoo.below ((Below.refl w8.heap.size w8).alloc (Nat.le_refl _) _) (Nat.le_refl _); have B9 := Lib.hid (below_step B8.out hb9); have X9 := Lib.hid (X8.out.below hb9); have R9 := Lib.hid hro; clear hro hoo hb9))
      have x2 := R9.out.cell HC.out.2
      have DN := Lib.hid (xdone_any _ g _ _ _ _ _ _ _ w9 X9.out)
      rw [e1] at DN
      have WT := Lib.hid (xwait_any _ g _ _ _ _ _ _ _ w9 X9.out)
      rw [e3] at WT
      go_wp2_with (first
        | (go_at_call 20; (with_reducible refine DN.out.mono ?_); rintro e wd ⟨rfl, rfl⟩)
        | (go_at_call 22; (with_reducible refine WT.out.mono ?_); rintro e wd ⟨rfl, hwd⟩; subst hwd))
      go_ret
      exact ⟨rfl, B9.out⟩
end Go.Proofs.YtniiadhhefgmcaaGreatDoor

/- Layer 23: a Step of an exchange that has taken so many of all octets: what it answers, in the document's terms. Condition: at most 65535 octets. -/
namespace Go.Proofs.YtniiadhhefgmcaaGreatDoor
open Go.RowKit IH
set_option maxRecDepth 100000
/-- What a Step answers: taken (and where all stands then), or not: an error, or that nothing more can be taken. -/
def NextX (W : World) (B g : Nat) (vo : Value) (M : ByteArray) (fi : Bool) (q : Option Nat) (S : List UInt8) (E p tk : Nat) (O : List UInt8) (r : Rd) (X : List UInt8) (tb : Bool) (f : Int) : Prop :=
  (tb = true ∧ f = 0 ∧ ∃ p' tk' r', XAt W B g vo M fi 0 q ((S.take E).drop (p' + tk')) r' ∧ Xin S M.data.toList E p' tk' (O ++ X) r' ∧ RdIn r' ∧ r'.fault = 0 ∧ r'.fields.length ≤ 128 ∧ p + tk < p' + tk' ∧ p + tk + X.length ≤ p' + tk')
  ∨ (tb = false ∧ X = [] ∧ ((f ≠ 0 ∧ XErr W g f ∧ (told23 M.data.toList (S.take E)).1.e = f) ∨ (f = (if fi = true ∧ r.w ≠ 3 then 11 else 0) ∧ Rest23 (told23 M.data.toList (S.take E)) (p + tk) O r ∧ XAt W B g vo M fi f q ((S.take E).drop (p + tk)) r)))
theorem NextX.grown {W W' : World} {B g base n : Nat} {vo v : Value} {xs : List Value} {M : ByteArray} {fi : Bool} {q : Option Nat} {S : List UInt8} {E p tk : Nat} {O X : List UInt8} {r : Rd} {tb : Bool} {f : Int} (h : NextX W B g vo M fi q S E p tk O r X tb f) (ho : W.ownsRow base 5 1 v n xs) (hg : W.grownBy W' v.ownBlock) (hq : ∀ k, v.ownBlock = some k → q ≠ some k) : NextX W' B g vo M fi q S E p tk O r X tb f := by
  rcases h with ⟨h1, h2, p', tk', r', h3, h4⟩ | ⟨h1, h2, ⟨h3, h4, h5⟩ | ⟨h3, h4, h5⟩⟩
  · exact .inl ⟨h1, h2, p', tk', r', h3.grown ho hg hq, h4⟩
  · exact .inr ⟨h1, h2, .inl ⟨h3, h4.grown ho hg, h5⟩⟩
  · exact .inr ⟨h1, h2, .inr ⟨h3, h4, h5.grown ho hg hq⟩⟩
end Go.Proofs.YtniiadhhefgmcaaGreatDoor

