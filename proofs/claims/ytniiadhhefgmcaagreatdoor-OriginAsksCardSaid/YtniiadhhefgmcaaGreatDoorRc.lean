/- Rc: several texts, one behind the other. -/
import Derived.Test.YtniiadhhefgmcaaGreatDoorRb
import Derived.Test.YtniiadhhefgmcaaGreatDoorFq
/- Layer 8: a reader's step, by the code. Condition: the world's shape, at most 10^8 octets. -/
namespace IH
theorem lineM_nn (a : Bool) (b : List UInt8) : 0 ≤ (lineM a b).2.1 := by
  unfold lineM
  split
  · unfold requestL
    split
    · simp
    · split
      · simp
      · simp only; omega
  · unfold responseL
    split
    · simp
    · split
      · simp
      · simp only; omega
theorem lineM_zero {a : Bool} {b : List UInt8} (h : (lineM a b).2.2 ≠ 0) : (lineM a b).2.1 = 0 := by
  unfold lineM at h ⊢
  split
  · rename_i ha
    rw [if_pos ha] at h
    unfold requestL at h ⊢
    split
    · rfl
    · rename_i h1
      rw [if_neg h1] at h
      split
      · rfl
      · rename_i h2; rw [if_neg h2] at h; exact absurd rfl h
  · rename_i ha
    rw [if_neg ha] at h
    unfold responseL at h ⊢
    split
    · rfl
    · rename_i h1
      rw [if_neg h1] at h
      split
      · rfl
      · rename_i h2; rw [if_neg h2] at h; exact absurd rfl h
end IH
namespace Go.Proofs.YtniiadhhefgmcaaGreatDoor
open Go.RowKit IH
set_option maxRecDepth 100000
theorem stepM_line {r : Rd} {l : List UInt8} (hw : r.w = 0) : stepM r l = if (lineM r.asks l).2.2 = 11 then ([], 0, 0, lineRd r l) else ([], (lineM r.asks l).2.1.toNat, (lineM r.asks l).2.2, lineRd r l) := by
  unfold stepM lineRd
  rw [if_pos hw]
  by_cases h11 : (lineM r.asks l).2.2 = 11
  · rw [if_pos h11, if_pos h11, if_neg (by omega)]
  · rw [if_neg h11, if_neg h11]
    by_cases h0 : (lineM r.asks l).2.2 = 0
    · rw [if_neg (by simp [h0]), if_pos h0, h0]
    · rw [if_pos h0, if_neg h0, lineM_zero h0]; rfl
theorem stepM_fields {r : Rd} {l : List UInt8} (hw : r.w = 1) : stepM r l = if fieldsE r l = 11 then ([], 0, 0, fieldsRd r l) else ([], (fieldsN r l).toNat, fieldsE r l, fieldsRd r l) := by
  have h11f := framing_err r.start (parseFs l).1 r.method
  by_cases h0 : (parseFs l).2.2 = 0
  · have hE : fieldsE r l = (framingL r.start (parseFs l).1 r.method).2.2 := by unfold fieldsE; rw [if_neg (fun h => h h0)]
    have hN : fieldsN r l = if (framingL r.start (parseFs l).1 r.method).2.2 = 0 then (parseFs l).2.1 else 0 := by unfold fieldsN; rw [hE]
    have hR : fieldsRd r l = if (framingL r.start (parseFs l).1 r.method).2.2 ≠ 0 then { r with fields := (parseFs l).1, kind := 0, left := 0 } else { r with fields := (parseFs l).1, kind := (framingL r.start (parseFs l).1 r.method).1, left := (framingL r.start (parseFs l).1 r.method).2.1, w := if (framingL r.start (parseFs l).1 r.method).1 ≠ 2 ∧ (framingL r.start (parseFs l).1 r.method).2.1 = 0 then 3 else 2 } := by
      unfold fieldsRd; rw [if_neg (fun h => h h0)]
    rw [hE, hN, hR, if_neg h11f]
    unfold stepM
    rw [if_neg (by omega), if_pos hw, if_neg (by omega), if_neg (fun h => h h0)]
    simp only
    by_cases hf : (framingL r.start (parseFs l).1 r.method).2.2 = 0
    · have hn : ¬ ((framingL r.start (parseFs l).1 r.method).2.2 ≠ 0) := fun h => h hf
      rw [if_neg hn, if_pos hf, if_neg hn, hf]
    · rw [if_pos hf, if_neg hf, if_pos hf]; rfl
  · have hE : fieldsE r l = (parseFs l).2.2 := by unfold fieldsE; rw [if_pos h0]
    have hN : fieldsN r l = 0 := by unfold fieldsN; rw [hE, if_neg h0]
    have hR : fieldsRd r l = r := by unfold fieldsRd; rw [if_pos h0]
    rw [hE, hN, hR]
    unfold stepM
    rw [if_neg (by omega), if_pos hw]
    by_cases h11 : (parseFs l).2.2 = 11
    · rw [if_pos h11, if_pos h11]
    · rw [if_neg h11, if_neg h11, if_pos h0]; rfl
theorem stepM_body {r : Rd} {l : List UInt8} (hw : r.w = 2) : stepM r l = ((bodyOut r l).1, (bodyOut r l).2.1, (bodyOut r l).2.2, bodyRd r l) := by
  unfold stepM bodyOut bodyRd
  rw [if_neg (by omega), if_neg (by omega), if_pos hw]
  by_cases hk : r.kind = 2
  · rw [if_pos hk, if_pos hk, if_pos hk]
    simp only
    by_cases h0 : (run r.dec l).2.2.1 = 0
    · rw [if_neg (by simp [h0]), if_pos h0, h0, hw]
    · obtain ⟨e1, e2, _⟩ := run_err r.dec l h0
      rw [if_pos h0, if_neg h0, e1, e2]
  · rw [if_neg hk, if_neg hk, if_neg hk]
    simp only
    rw [hw]
theorem stepM_rest {r : Rd} {l : List UInt8} (hw : r.w = 3) : stepM r l = ([], 0, 0, r) := by
  unfold stepM
  rw [if_neg (by omega), if_neg (by omega), if_neg (by omega)]
theorem fieldsN_nn (r : Rd) (l : List UInt8) : 0 ≤ fieldsN r l := by
  unfold fieldsN
  split
  · rename_i h
    unfold fieldsE at h
    split at h
    · rename_i h1; exact absurd h h1
    · rename_i h1
      have := (parseL_bd (b := l) (by omega)).1
      omega
  · exact Int.le_refl _
theorem lineRd_dec (r : Rd) (l : List UInt8) : (lineRd r l).dec = r.dec ∧ (lineRd r l).fields = r.fields := by
  unfold lineRd
  split <;> exact ⟨rfl, rfl⟩
theorem fieldsRd_dec (r : Rd) (l : List UInt8) : (fieldsRd r l).dec = r.dec := by
  unfold fieldsRd
  split
  · rfl
  · split <;> rfl
theorem fieldsRd_fields {r : Rd} {l : List UInt8} (h : (parseFs l).2.2 = 0) : (fieldsRd r l).fields = (parseFs l).1 := by
  unfold fieldsRd
  rw [if_neg (by simp [h])]
  split <;> rfl
theorem fieldsRd_same {r : Rd} {l : List UInt8} (h : (parseFs l).2.2 ≠ 0) : fieldsRd r l = r := by
  unfold fieldsRd
  rw [if_pos h]
set_option maxHeartbeats 32000000 in
theorem rdstep_any (B g dg : Nat) (r : Rd) (A : Option Addr) (n c b0 off m k : Nat) (l : List UInt8) (w : World) (hB : B ≤ w.heap.size) (hdg : B ≤ dg) (hsh : ∀ W, Below B w W → W.ShapedOpen Tryz.prog) (hst : RdSt w g dg r A n c) (hri : RdIn r) (hin : SliceIn w w.heap.size 1 (some ⟨b0, off, none⟩) m k (bytesV l)) (hm : m ≤ 100000000) (hne : b0 ≠ g ∧ b0 ≠ dg) :
    Calls Tryz.prog 88 #[.pointer (some ⟨g, 0, none⟩), .slice (some ⟨b0, off, none⟩) m k] w fun e w' => ∃ v A' n' c', e = .returned (.tuple #[v, .int .i64 ((stepM r l).2.1 : Nat), .int .i64 (stepM r l).2.2.1]) ∧ w'.ownsRow w.heap.size 5 1 v (stepM r l).1.length (bytesV (stepM r l).1) ∧ RdSt w' g dg (stepM r l).2.2.2 A' n' c' ∧ Save2 w.heap.size g dg w w' := by
  have d3 := hst.row.cell (j := 3) rfl
  have HST := Lib.hid hst
  rcases hri.w with hw | hw | hw | hw
  · have LN := rdline_any g dg r (.slice A n c) b0 off m k l w (hsh w (Below.refl _ _)) hst.row hin (by omega) hne.1
    have hS := stepM_line (l := l) hw
    have hnn := lineM_nn r.asks l
    obtain ⟨nl, hnl⟩ : ∃ x, (lineM r.asks l).2.1 = x := ⟨_, rfl⟩
    obtain ⟨el, hel⟩ : ∃ x, (lineM r.asks l).2.2 = x := ⟨_, rfl⟩
    rw [hnl, hel] at LN hS
    rw [hnl] at hnn
    obtain ⟨q, hq⟩ := Int.eq_ofNat_of_zero_le hnn
    subst hq
    rw [hw] at d3
    rw [Int.toNat_natCast] at hS
    replace LN := Lib.hid LN
    have HSS := Lib.hid hS
    clear hnn hnl hel hS hB hdg hsh hst hri hin hne hw
    by_cases h11 : el = 11
    · have e11 : (el == 11) = true := by rw [beq_iff_eq]; exact h11
      have HS : Hid (stepM r l = ([], 0, 0, lineRd r l)) := Lib.hid (by rw [HSS.out, if_pos h11])
      clear h11
      go_enter Tryz.func88, Tryz.ntmps88
      go_wp2_with (go_at_call 118; (with_reducible refine LN.out.mono ?_); rintro x2 w2 ⟨rfl, hr2, hs2⟩; have R2 := Lib.hid hr2; have SV2 := Lib.hid hs2; clear hr2 hs2)
      go_ret3
      refine ⟨.slice none 0 0, A, n, c, by rw [HS.out]; rfl, by rw [HS.out]; exact World.ownsRow_nil _ _ _ _, ?_, SV2.out.left⟩
      rw [HS.out]
      exact HST.out.of_save SV2.out R2.out (lineRd_dec r l).1 (lineRd_dec r l).2
    · have e11 : (el == 11) = false := by rw [beq_eq_false_iff_ne]; exact h11
      have HS : Hid (stepM r l = ([], q, el, lineRd r l)) := Lib.hid (by rw [HSS.out, if_neg h11])
      clear h11
      go_enter Tryz.func88, Tryz.ntmps88
      go_wp2_with (go_at_call 118; (with_reducible refine LN.out.mono ?_); rintro x2 w2 ⟨rfl, hr2, hs2⟩; have R2 := Lib.hid hr2; have SV2 := Lib.hid hs2; clear hr2 hs2)
      go_ret3
      refine ⟨.slice none 0 0, A, n, c, by rw [HS.out]; rfl, by rw [HS.out]; exact World.ownsRow_nil _ _ _ _, ?_, SV2.out.left⟩
      rw [HS.out]
      exact HST.out.of_save SV2.out R2.out (lineRd_dec r l).1 (lineRd_dec r l).2
  · have FN := rdfields_any g dg r (.slice A n c) b0 off m k l w (hsh w (Below.refl _ _)) hst.row hin hm hri.m
    have hS := stepM_fields (l := l) hw
    have hnn := fieldsN_nn r l
    obtain ⟨nl, hnl⟩ : ∃ x, fieldsN r l = x := ⟨_, rfl⟩
    obtain ⟨el, hel⟩ : ∃ x, fieldsE r l = x := ⟨_, rfl⟩
    rw [hnl, hel] at FN hS
    rw [hnl] at hnn
    obtain ⟨q, hq⟩ := Int.eq_ofNat_of_zero_le hnn
    subst hq
    rw [hw] at d3
    rw [Int.toNat_natCast] at hS
    replace FN := Lib.hid FN
    have HSS := Lib.hid hS
    clear hnn hnl hel hS hB hdg hsh hst hri hin hne hw
    have fin : ∀ w2 : World, Save w.heap.size g w w2 → (((parseFs l).2.2 ≠ 0 ∧ RowAt w2 g 122 (rdV dg r (.slice A n c))) ∨ ((parseFs l).2.2 = 0 ∧ ∃ A n c, RowAt w2 g 122 (rdV dg (fieldsRd r l) (.slice A n c)) ∧ SliceIn w2 w2.heap.size 2 A n c (fldsV (parseFs l).1) ∧ (∀ b o, A = some ⟨b, o, none⟩ → w.heap.size ≤ b) ∧ TyAt 74 w2 A)) → ∃ A' n' c', RdSt w2 g dg (fieldsRd r l) A' n' c' := by
      rintro w2 hs (⟨h, hr⟩ | ⟨h, A2, n2, c2, hr, hf, hA, hT⟩)
      · rw [fieldsRd_same h]
        exact ⟨A, n, c, HST.out.of_save hs hr rfl rfl⟩
      · exact ⟨A2, n2, c2, HST.out.of_new hs hr (fieldsRd_dec r l) (by rw [fieldsRd_fields h]; exact hf) hA hT⟩
    have FIN := Lib.hid fin
    clear fin
    by_cases h11 : el = 11
    · have e11 : (el == 11) = true := by rw [beq_iff_eq]; exact h11
      have HS : Hid (stepM r l = ([], 0, 0, fieldsRd r l)) := Lib.hid (by rw [HSS.out, if_pos h11])
      clear h11
      go_enter Tryz.func88, Tryz.ntmps88
      go_wp2_with (go_at_call 119; (with_reducible refine FN.out.mono ?_); rintro x2 w2 ⟨rfl, hs2, hor⟩; have SV2 := Lib.hid hs2; have OR := Lib.hid hor; clear hs2 hor)
      go_ret3
      obtain ⟨A', n', c', hst'⟩ := FIN.out w2 SV2.out OR.out
      exact ⟨.slice none 0 0, A', n', c', by rw [HS.out]; rfl, by rw [HS.out]; exact World.ownsRow_nil _ _ _ _, by rw [HS.out]; exact hst', SV2.out.left⟩
    · have e11 : (el == 11) = false := by rw [beq_eq_false_iff_ne]; exact h11
      have HS : Hid (stepM r l = ([], q, el, fieldsRd r l)) := Lib.hid (by rw [HSS.out, if_neg h11])
      clear h11
      go_enter Tryz.func88, Tryz.ntmps88
      go_wp2_with (go_at_call 119; (with_reducible refine FN.out.mono ?_); rintro x2 w2 ⟨rfl, hs2, hor⟩; have SV2 := Lib.hid hs2; have OR := Lib.hid hor; clear hs2 hor)
      go_ret3
      obtain ⟨A', n', c', hst'⟩ := FIN.out w2 SV2.out OR.out
      exact ⟨.slice none 0 0, A', n', c', by rw [HS.out]; rfl, by rw [HS.out]; exact World.ownsRow_nil _ _ _ _, by rw [HS.out]; exact hst', SV2.out.left⟩
  · have BD := rdbody_any B g dg r A n c b0 off m k l w hB hdg hsh hst hri hin hm hne
    have hS := stepM_body (l := l) hw
    obtain ⟨bo, hbo⟩ : ∃ x, bodyOut r l = x := ⟨_, rfl⟩
    rw [hbo] at BD hS
    rw [hw] at d3
    rw [hS]
    replace BD := Lib.hid BD
    clear hbo hS hB hdg hsh hst hri hin hne hw
    go_enter Tryz.func88, Tryz.ntmps88
    go_wp2_with (go_at_call 120; (with_reducible refine BD.out.mono ?_); rintro x2 w2 ⟨v, rfl, ho2, hr2, hs2⟩; have O2 := Lib.hid ho2; have R2 := Lib.hid hr2; have SV2 := Lib.hid hs2; clear ho2 hr2 hs2)
    go_ret3
    exact ⟨_, A, n, c, rfl, O2.out, R2.out, SV2.out⟩
  · have hS := stepM_rest (l := l) hw
    rw [hw] at d3
    rw [hS]
    clear hS hB hdg hsh hst hri hin hne hw
    go_enter Tryz.func88, Tryz.ntmps88
    go_wp2_with fail
    go_ret3
    exact ⟨.slice none 0 0, A, n, c, rfl, World.ownsRow_nil _ _ _ _, HST.out, Save2.refl _ _ _ _⟩
end Go.Proofs.YtniiadhhefgmcaaGreatDoor

/- Layer 8: a reader takes octets (Reader.Take), by the code. Condition: the world's shape, at most 10^8 octets. Printed by mkrea6.py. -/
namespace IH
theorem stepM_fault (r : Rd) (b : List UInt8) : (stepM r b).2.2.2.fault = r.fault := by
  unfold stepM
  split
  · split
    · rfl
    · split <;> rfl
  · split
    · split
      · rfl
      · split
        · rfl
        · simp only
          split <;> rfl
    · split
      · split
        · simp only
          split <;> rfl
        · rfl
      · rfl
theorem stepM_out (r : Rd) (b : List UInt8) : (stepM r b).1.length ≤ (stepM r b).2.1 := by
  unfold stepM
  split
  · split
    · simp
    · split <;> simp
  · split
    · split
      · simp
      · split
        · simp
        · simp only
          split <;> simp
    · split
      · split
        · simp only
          split
          · simp
          · exact run_out _ _ _ (Nat.le_refl _)
        · simp only [List.length_take]; omega
      · simp
end IH
namespace Go.Proofs.YtniiadhhefgmcaaGreatDoor
open Go.RowKit IH
set_option maxRecDepth 100000
theorem own_save2 {w w' : World} {base size n g d : Nat} {e : TypeId} {v : Value} {xs : List Value} (h : w.ownsRow base e size v n xs) (hs : Save2 w.heap.size g d w w') (hg : g < base) (hd : d < base) : w'.ownsRow base e size v n xs := by
  refine ⟨h.1, ?_⟩
  rcases h.2 with h2 | ⟨g', cap, cur, hv, hb, hh, r⟩
  · exact .inl h2
  · exact .inr ⟨g', cap, cur, hv, hb, (hs.block g' (Array.getElem?_eq_some_iff.1 hh).1 (by omega) (by omega)).trans hh, r⟩
theorem own_ty {w : World} {base size n : Nat} {e : TypeId} {v : Value} {xs : List Value} (h : w.ownsRow base e size v n xs) : ∀ q, v.ownBlock = some q → base ≤ q ∧ ∃ cur fz, w.heap[q]? = some (Obj.cells cur e fz) := by
  intro q hq
  rcases h.2 with ⟨rfl, _⟩ | ⟨g', cap, cur, rfl, hb, hh, _⟩
  · cases hq
  · simp only [Value.ownBlock, Option.some.injEq] at hq
    subst hq
    exact ⟨hb, cur, _, hh⟩
theorem RdSt.fault {W : World} {g dg n c : Nat} {r : Rd} {A : Option Addr} (h : RdSt W g dg r A n c) (e : Int) : RdSt (W.setCell ⟨g, 13, none⟩ (.int .i64 e)) g dg { r with fault := e } A n c :=
  h.of_save ((Save.refl _ _ _).setCell 13 _) (h.row.set_ (j := 13) (by simp [rdV, staC]) (.int .i64 e)) rfl rfl
theorem RdSt.grown {W W' : World} {g dg n c : Nat} {r : Rd} {A : Option Addr} {v : Value} {base m : Nat} {xs : List Value} (h : RdSt W g dg r A n c) (ho : W.ownsRow base 5 1 v m xs) (hg : g < base) (hd : dg < base) (hgr : W.grownBy W' v.ownBlock) : RdSt W' g dg r A n c := by
  have hty := own_ty ho
  have key : ∀ k, k < W.heap.size → v.ownBlock ≠ some k → W'.heap[k]? = W.heap[k]? := fun k h1 h2 => hgr.block k h1 (fun e => h2 e.symm)
  have nb : ∀ k, k < base → v.ownBlock ≠ some k := fun k hk e => by have := (hty k e).1; omega
  have nA : ∀ b o, A = some ⟨b, o, none⟩ → v.ownBlock ≠ some b := fun b o hA e => by
    obtain ⟨_, cur, fz, hh⟩ := hty b e
    obtain ⟨cur', fz', hh'⟩ := h.ty b o hA
    rw [hh] at hh'
    injection hh' with hh'
    injection hh' with _ h2 _
    exact absurd h2 (by decide)
  refine ⟨h.row.keep (key g h.row.lt (nb g hg)), h.dec.keep (key dg h.dec.lt (nb dg hd)), ?_, h.ne, h.gd, ?_⟩
  · refine ⟨h.fl.1, h.fl.2.1, h.fl.2.2.1, fun hn => ?_⟩
    obtain ⟨b, off, e, hb, hc⟩ := h.fl.2.2.2 hn
    exact ⟨b, off, e, Nat.lt_of_lt_of_le hb hgr.size, fun j u hu => (World.cell?_of_block (key b hb (nA b off e))).trans (hc j u hu)⟩
  · intro b off e
    obtain ⟨cur, fz, hh⟩ := h.ty b off e
    exact ⟨cur, fz, (key b (Array.getElem?_eq_some_iff.1 hh).1 (nA b off e)).trans hh⟩
theorem Save2.grown {B g d : Nat} {a W W' : World} {row : Option Nat} (h : Save2 B g d a W) (hg : W.grownBy W' row) (hB : B ≤ W.heap.size) (hr : ∀ k, row = some k → B ≤ k) : Save2 B g d a W' :=
  h.trans ⟨hg.os, hg.tape, hg.output, hg.size, fun k hk _ _ => hg.block k (by omega) (fun e => by have := hr k e.symm; omega)⟩
set_option maxHeartbeats 32000000 in
theorem rdtake_any (B g dg : Nat) (r : Rd) (A : Option Addr) (n c b0 off m k : Nat) (l : List UInt8) (w : World) (hB : B ≤ w.heap.size) (hdg : B ≤ dg) (hsh : ∀ W, Below B w W → W.ShapedOpen Tryz.prog) (hBg : B ≤ g) (hst : RdSt w g dg r A n c) (hri : RdIn r) (hf0 : r.fault = 0) (hin : SliceIn w w.heap.size 1 (some ⟨b0, off, none⟩) m k (bytesV l)) (hm : m ≤ 100000000) (hne : b0 ≠ g ∧ b0 ≠ dg) :
    Calls Tryz.prog 42 #[.pointer (some ⟨g, 0, none⟩), .slice (some ⟨b0, off, none⟩) m k] w fun e w' => ∃ v A' n' c', e = .returned (.tuple #[v, .int .i64 ((runM r l).2.1 : Nat), .int .i64 (runM r l).2.2.1]) ∧ w'.ownsRow w.heap.size 5 1 v (runM r l).1.length (bytesV (runM r l).1) ∧ RdSt w' g dg (runM r l).2.2.2 A' n' c' ∧ Save2 w.heap.size g dg w w' := by
  have hll : l.length = m := by have := hin.1; rw [bytesV_length] at this; omega
  have hmk := hin.2.1
  have hGg := hst.row.lt
  have hGd := hst.dec.lt
  have ST := Lib.hid (fun (wr : World) (r1 : Rd) (A1 : Option Addr) (n1 c1 off' m' k' : Nat) (l' : List UInt8) (hS : Save2 w.heap.size g dg w wr) (h1 : RdSt wr g dg r1 A1 n1 c1) (h2 : RdIn r1) (h3 : SliceIn wr wr.heap.size 1 (some ⟨b0, off', none⟩) m' k' (bytesV l')) (h4 : m' ≤ 100000000) =>
    rdstep_any B g dg r1 A1 n1 c1 b0 off' m' k' l' wr (Nat.le_trans hB hS.size) hdg (fun W hW => hsh W (((hS.mono hB).below hBg hdg).trans hW)) h1 h2 h3 h4 hne)
  have HIN := Lib.hid hin
  have HNE := Lib.hid hne
  have HLL := Lib.hid hll
  have HGG := Lib.hid hGg
  have HGD := Lib.hid hGd
  obtain ⟨T, hT⟩ : ∃ T, runM r l = T := ⟨_, rfl⟩
  rw [hT]
  have HT := Lib.hid hT
  have HST := Lib.hid hst
  have HRI := Lib.hid hri
  have HF0 := Lib.hid hf0
  clear hB hdg hsh hBg hst hri hf0 hin hne hll hGg hGd hT
  go_enter Tryz.func42, Tryz.ntmps42
  go_wp2_with fail
  go_loopw [7, 8] (fun ov av wr => ∃ (a : Nat) (ol : List UInt8) (r1 : Rd) (A1 : Option Addr) (n1 c1 : Nat), wr.ownsRow w.heap.size 5 1 ov ol.length (bytesV ol) ∧ av = .int .i64 a ∧ a ≤ m ∧ ol.length ≤ a ∧ RdSt wr g dg r1 A1 n1 c1 ∧ RdIn r1 ∧ r1.fault = 0 ∧ Save2 w.heap.size g dg w wr ∧ T = aheadM ol a (runM r1 (l.drop a))) (fun _ av _ => m - (intOf av).toNat)
  case atStart =>
    refine ⟨0, [], r, A, n, c, World.ownsRow_nil _ _ _ _, rfl, by omega, by simp, HST.out, HRI.out, HF0.out, Save2.refl _ _ _ _, ?_⟩
    rw [List.drop_zero, HT.out, aheadM_nil]
    intro h
    rw [← HT.out] at h ⊢
    exact ⟨(runM_err r l h).1, (runM_err r l h).2.1⟩
  case round =>
    obtain ⟨w1, hw1⟩ : ∃ x : World, x = wr := ⟨_, rfl⟩
    subst hw1
    obtain ⟨a, ol, r1, A1, n1, c1, hown, rfl, ha, hola, hst1, hri1, hf1, hsv, hrun⟩ := hrel
    have d13 := hst1.row.cell (j := 13) rfl
    rw [hf1] at d13
    have hsl := stepM_le (r := r1) (b := l.drop a)
    rw [List.length_drop] at hsl
    have hsf := stepM_fault r1 (l.drop a)
    rw [hf1] at hsf
    have hrs := runM_step r1 (l.drop a)
    have hin9 := stepM_in hri1 (l.drop a)
    have hol2 := stepM_out r1 (l.drop a)
    have hsub : ∀ A', (a < m → A' = some ⟨b0, off + a, none⟩) → SliceIn w1 w1.heap.size 1 A' (m - a) (k - a) (bytesV (l.drop a)) := fun A' hA' => by
      have h0 := (HIN.out.save2 hsv (fun b o e => by injection e with e; injection e with e1 _ _; subst e1; exact HNE.out)).more hsv.size
      have h := h0.sub (a := a) (b := m) ha (Nat.le_refl _) A' (fun hlt => by rw [hA' hlt]; simp [add_plain])
      rw [Nat.mul_one, Nat.mul_one] at h
      rw [show bytesV (l.drop a) = ((bytesV l).drop a).take (m - a) by rw [List.take_of_length_le (by rw [List.length_drop, bytesV_length]; have := HLL.out; omega)]; simp [bytesV, List.map_drop]]
      exact h
    have STP : ∃ off', (k = a → off' = off) ∧ (¬ k = a → off' = off + a) ∧ SliceIn w1 w1.heap.size 1 (some ⟨b0, off', none⟩) (m - a) (k - a) (bytesV (l.drop a)) := by
      by_cases hka : k = a
      · exact ⟨off, fun _ => rfl, fun h => absurd hka h, hsub _ (fun h => by omega)⟩
      · exact ⟨off + a, fun h => absurd h hka, fun _ => rfl, hsub _ (fun _ => rfl)⟩
    obtain ⟨off', ho1, ho2, hs'⟩ := STP
    have SC := ST.out w1 r1 A1 n1 c1 off' (m - a) (k - a) (l.drop a) hsv hst1 hri1 hs' (by omega)
    obtain ⟨x, nn, e, r2, hq⟩ : ∃ x nn e r2, stepM r1 (l.drop a) = (x, nn, e, r2) := ⟨_, _, _, _, rfl⟩
    rw [hq] at SC hsl hsf hrs hin9 hol2
    simp only at SC hsl hsf hrs hin9 hol2
    have HOWN := Lib.hid hown
    have HSV := Lib.hid hsv
    have HRUN := Lib.hid hrun
    have HRS := Lib.hid hrs
    have HSF := Lib.hid hsf
    have HIN9 := Lib.hid hin9
    have HO2 := Lib.hid hol2
    have z1 : ((m - a : Nat) : Int) = (m : Int) - (a : Int) := by omega
    have z2 : ((k - a : Nat) : Int) = (k : Int) - (a : Int) := by omega
    have hl9 := HLL.out
    have jk : (a : Int) ≤ (m : Int) := by omega
    have jk2 : (a : Int) ≤ (k : Int) := by omega
    have hwn : IntKind.i64.wrap ((a : Int) + (nn : Int)) = (a : Int) + (nn : Int) := IntWalk.i64_in _ ⟨by omega, by omega⟩
    clear hl9
    have NSl := Lib.hid (show nn ≤ m - a by have := HLL.out; omega)
    have OLA := Lib.hid hola
    replace SC := Lib.hid SC
    clear hsub hs' hown hst1 hri1 hf1 hsv hrun hsl hsf hrs hin9 hol2 hq hola z1 z2
    have fin : ∀ (w2 : World) (A2 : Option Addr) (n2 c2 : Nat), RdSt w2 g dg r2 A2 n2 c2 → Save2 w1.heap.size g dg w1 w2 → RdSt (w2.setCell ⟨g, 13, none⟩ (.int .i64 e)) g dg { r2 with fault := e } A2 n2 c2 ∧ Save2 w.heap.size g dg w (w2.setCell ⟨g, 13, none⟩ (.int .i64 e)) := fun w2 A2 n2 c2 h1 h2 =>
      ⟨h1.fault e, (HSV.out.step h2 (Nat.le_refl _)).trans (((Save.refl _ _ _).setCell 13 _).left)⟩
    have FIN := Lib.hid fin
    clear fin
    by_cases he : e = 0
    · subst he
      have en : ((0 : Int) != 0) = false := rfl
      have hx2 : r2.fault = 0 := HSF.out
      have HR2 : Hid ({ r2 with fault := 0 } = r2) := Lib.hid (by rw [← hx2])
      clear hx2
      have own3 : ∀ (w2 : World) (v2 : Value), w2.ownsRow w1.heap.size 5 1 v2 x.length (bytesV x) → (w2.setCell ⟨g, 13, none⟩ (.int .i64 0)).ownsRow w1.heap.size 5 1 v2 x.length (bytesV x) := fun w2 v2 h =>
        own_save2 h (((Save.refl _ _ _).setCell 13 _).left (h := dg)) (by have := HGG.out; have := HSV.out.size; omega) (by have := HGD.out; have := HSV.out.size; omega)
      have OWN3 := Lib.hid own3
      clear own3
      by_cases hn0 : nn = 0
      · subst hn0
        have HFin : Hid (T = (ol ++ x, a, 0, r2)) := Lib.hid (by
          rw [HRUN.out, HRS.out, if_neg (by simp), if_pos rfl]
          simp [aheadM])
        by_cases hka : k = a
        · have ho := ho1 hka
          subst ho
          clear ho1 ho2
          rw [hka, Nat.sub_self] at SC
          subst hka
          rw [show m - k = 0 by omega] at SC
          go_wp2_with (first
            | (go_at_call 88; (with_reducible refine SC.out.mono ?_); rintro x2 w2 ⟨v2, A2, n2, c2, rfl, hov2, hst2, hs2⟩; have e13 := hst2.row.cell (j := 13) rfl; have p13 := hst2.row.frozen (j := 13) (by simp [rdV, staC]); have OV2 := Lib.hid hov2; have ST2 := Lib.hid hst2; have SV2 := Lib.hid hs2; obtain ⟨w3, hw3⟩ : ∃ W, w2.setCell ⟨g, 13, none⟩ (.int .i64 0) = W := ⟨_, rfl⟩; have F2 := FIN.out w2 A2 n2 c2 hst2 hs2; rw [hw3] at F2; have R3 := Lib.hid F2.1; have SV3 := Lib.hid F2.2; have q13 := F2.1.row.cell (j := 13) rfl; have OW3 := own_save2 (own_save2 HOWN.out SV2.out HGG.out HGD.out) (((Save.refl w2.heap.size g w2).setCell 13 (.int .i64 0)).left (h := dg)) HGG.out HGD.out; rw [hw3] at OW3; replace OW3 := Lib.hid OW3; have OX3 := OWN3.out w2 v2 OV2.out; rw [hw3] at OX3; obtain ⟨AV2, cv2, hv2, hsx⟩ := own_slice OX3; subst hv2; have SX3 := Lib.hid hsx; clear hsx OX3; clear hov2 hst2 hs2 F2)
            | (at_builtin; refine wpList_appS u8_ty rfl _ _ rfl w.heap.size _ _ _ rfl OW3.out w3.heap.size AV2 x.length cv2 (bytesV x) rfl SX3.out (bytesV_one x) (by have := HO2.out; have := OLA.out; have := NSl.out; omega) (by simp only [maxLen]; have := HO2.out; have := OLA.out; have := NSl.out; omega) (by have := SV3.out.size; omega) ?_; intro v4 w4 hown4 hgr4; have O4 := Lib.hid hown4; have R4 := Lib.hid (R3.out.grown OW3.out HGG.out HGD.out hgr4); have SV4 := Lib.hid (SV3.out.grown hgr4 SV3.out.size (fun q hq => (own_ty OW3.out q hq).1)); clear hown4 hgr4))
          go_ret3
          refine ⟨_, A2, n2, c2, by rw [HFin.out]; rfl, by rw [HFin.out]; simp only [List.length_append, bytesV_append]; exact O4.out, by rw [HFin.out]; have h := R4.out; rw [HR2.out] at h; exact h, SV4.out⟩
        · have ho := ho2 hka
          subst ho
          clear ho1 ho2
          go_wp2_with (first
            | (go_at_call 88; (with_reducible refine SC.out.mono ?_); rintro x2 w2 ⟨v2, A2, n2, c2, rfl, hov2, hst2, hs2⟩; have e13 := hst2.row.cell (j := 13) rfl; have p13 := hst2.row.frozen (j := 13) (by simp [rdV, staC]); have OV2 := Lib.hid hov2; have ST2 := Lib.hid hst2; have SV2 := Lib.hid hs2; obtain ⟨w3, hw3⟩ : ∃ W, w2.setCell ⟨g, 13, none⟩ (.int .i64 0) = W := ⟨_, rfl⟩; have F2 := FIN.out w2 A2 n2 c2 hst2 hs2; rw [hw3] at F2; have R3 := Lib.hid F2.1; have SV3 := Lib.hid F2.2; have q13 := F2.1.row.cell (j := 13) rfl; have OW3 := own_save2 (own_save2 HOWN.out SV2.out HGG.out HGD.out) (((Save.refl w2.heap.size g w2).setCell 13 (.int .i64 0)).left (h := dg)) HGG.out HGD.out; rw [hw3] at OW3; replace OW3 := Lib.hid OW3; have OX3 := OWN3.out w2 v2 OV2.out; rw [hw3] at OX3; obtain ⟨AV2, cv2, hv2, hsx⟩ := own_slice OX3; subst hv2; have SX3 := Lib.hid hsx; clear hsx OX3; clear hov2 hst2 hs2 F2)
            | (at_builtin; refine wpList_appS u8_ty rfl _ _ rfl w.heap.size _ _ _ rfl OW3.out w3.heap.size AV2 x.length cv2 (bytesV x) rfl SX3.out (bytesV_one x) (by have := HO2.out; have := OLA.out; have := NSl.out; omega) (by simp only [maxLen]; have := HO2.out; have := OLA.out; have := NSl.out; omega) (by have := SV3.out.size; omega) ?_; intro v4 w4 hown4 hgr4; have O4 := Lib.hid hown4; have R4 := Lib.hid (R3.out.grown OW3.out HGG.out HGD.out hgr4); have SV4 := Lib.hid (SV3.out.grown hgr4 SV3.out.size (fun q hq => (own_ty OW3.out q hq).1)); clear hown4 hgr4))
          go_ret3
          refine ⟨_, A2, n2, c2, by rw [HFin.out]; rfl, by rw [HFin.out]; simp only [List.length_append, bytesV_append]; exact O4.out, by rw [HFin.out]; have h := R4.out; rw [HR2.out] at h; exact h, SV4.out⟩
      · have nz : ((nn : Int) == 0) = false := by rw [beq_eq_false_iff_ne]; omega
        have HFin : Hid (T = aheadM (ol ++ x) (a + nn) (runM r2 (l.drop (a + nn)))) := Lib.hid (by
          rw [HRUN.out, HRS.out, if_neg (by simp), if_neg hn0, aheadM_aheadM, List.drop_drop])
        by_cases hka : k = a
        · have ho := ho1 hka
          subst ho
          clear ho1 ho2
          rw [hka, Nat.sub_self] at SC
          subst hka
          rw [show m - k = 0 by omega] at SC
          go_wp2_with (first
            | (go_at_call 88; (with_reducible refine SC.out.mono ?_); rintro x2 w2 ⟨v2, A2, n2, c2, rfl, hov2, hst2, hs2⟩; have e13 := hst2.row.cell (j := 13) rfl; have p13 := hst2.row.frozen (j := 13) (by simp [rdV, staC]); have OV2 := Lib.hid hov2; have ST2 := Lib.hid hst2; have SV2 := Lib.hid hs2; obtain ⟨w3, hw3⟩ : ∃ W, w2.setCell ⟨g, 13, none⟩ (.int .i64 0) = W := ⟨_, rfl⟩; have F2 := FIN.out w2 A2 n2 c2 hst2 hs2; rw [hw3] at F2; have R3 := Lib.hid F2.1; have SV3 := Lib.hid F2.2; have q13 := F2.1.row.cell (j := 13) rfl; have OW3 := own_save2 (own_save2 HOWN.out SV2.out HGG.out HGD.out) (((Save.refl w2.heap.size g w2).setCell 13 (.int .i64 0)).left (h := dg)) HGG.out HGD.out; rw [hw3] at OW3; replace OW3 := Lib.hid OW3; have OX3 := OWN3.out w2 v2 OV2.out; rw [hw3] at OX3; obtain ⟨AV2, cv2, hv2, hsx⟩ := own_slice OX3; subst hv2; have SX3 := Lib.hid hsx; clear hsx OX3; clear hov2 hst2 hs2 F2)
            | (at_builtin; refine wpList_appS u8_ty rfl _ _ rfl w.heap.size _ _ _ rfl OW3.out w3.heap.size AV2 x.length cv2 (bytesV x) rfl SX3.out (bytesV_one x) (by have := HO2.out; have := OLA.out; have := NSl.out; omega) (by simp only [maxLen]; have := HO2.out; have := OLA.out; have := NSl.out; omega) (by have := SV3.out.size; omega) ?_; intro v4 w4 hown4 hgr4; have O4 := Lib.hid hown4; have R4 := Lib.hid (R3.out.grown OW3.out HGG.out HGD.out hgr4); have SV4 := Lib.hid (SV3.out.grown hgr4 SV3.out.size (fun q hq => (own_ty OW3.out q hq).1)); clear hown4 hgr4))
          go_roundw
          case rel => exact ⟨k + nn, ol ++ x, r2, A2, n2, c2, by simp only [List.length_append, bytesV_append]; exact O4.out, by go_num, by have := NSl.out; omega, by rw [List.length_append]; have := HO2.out; have := OLA.out; omega, by have h := R4.out; rw [HR2.out] at h; exact h, HIN9.out (by first | rfl | trivial), HSF.out, SV4.out, HFin.out⟩
          case measure => simp only [intOf]; have := NSl.out; omega
        · have ho := ho2 hka
          subst ho
          clear ho1 ho2
          go_wp2_with (first
            | (go_at_call 88; (with_reducible refine SC.out.mono ?_); rintro x2 w2 ⟨v2, A2, n2, c2, rfl, hov2, hst2, hs2⟩; have e13 := hst2.row.cell (j := 13) rfl; have p13 := hst2.row.frozen (j := 13) (by simp [rdV, staC]); have OV2 := Lib.hid hov2; have ST2 := Lib.hid hst2; have SV2 := Lib.hid hs2; obtain ⟨w3, hw3⟩ : ∃ W, w2.setCell ⟨g, 13, none⟩ (.int .i64 0) = W := ⟨_, rfl⟩; have F2 := FIN.out w2 A2 n2 c2 hst2 hs2; rw [hw3] at F2; have R3 := Lib.hid F2.1; have SV3 := Lib.hid F2.2; have q13 := F2.1.row.cell (j := 13) rfl; have OW3 := own_save2 (own_save2 HOWN.out SV2.out HGG.out HGD.out) (((Save.refl w2.heap.size g w2).setCell 13 (.int .i64 0)).left (h := dg)) HGG.out HGD.out; rw [hw3] at OW3; replace OW3 := Lib.hid OW3; have OX3 := OWN3.out w2 v2 OV2.out; rw [hw3] at OX3; obtain ⟨AV2, cv2, hv2, hsx⟩ := own_slice OX3; subst hv2; have SX3 := Lib.hid hsx; clear hsx OX3; clear hov2 hst2 hs2 F2)
            | (at_builtin; refine wpList_appS u8_ty rfl _ _ rfl w.heap.size _ _ _ rfl OW3.out w3.heap.size AV2 x.length cv2 (bytesV x) rfl SX3.out (bytesV_one x) (by have := HO2.out; have := OLA.out; have := NSl.out; omega) (by simp only [maxLen]; have := HO2.out; have := OLA.out; have := NSl.out; omega) (by have := SV3.out.size; omega) ?_; intro v4 w4 hown4 hgr4; have O4 := Lib.hid hown4; have R4 := Lib.hid (R3.out.grown OW3.out HGG.out HGD.out hgr4); have SV4 := Lib.hid (SV3.out.grown hgr4 SV3.out.size (fun q hq => (own_ty OW3.out q hq).1)); clear hown4 hgr4))
          go_roundw
          case rel => exact ⟨a + nn, ol ++ x, r2, A2, n2, c2, by simp only [List.length_append, bytesV_append]; exact O4.out, by go_num, by have := NSl.out; omega, by rw [List.length_append]; have := HO2.out; have := OLA.out; omega, by have h := R4.out; rw [HR2.out] at h; exact h, HIN9.out (by first | rfl | trivial), HSF.out, SV4.out, HFin.out⟩
          case measure => simp only [intOf]; have := NSl.out; omega
    · have en : (e != 0) = true := by rw [bne_iff_ne]; exact he
      have HFin : Hid (T = ([], 0, e, { r2 with fault := e })) := Lib.hid (by
        rw [HRUN.out, HRS.out, if_pos he]
        unfold aheadM
        rw [if_pos he])
      clear he
      by_cases hka : k = a
      · have ho := ho1 hka
        subst ho
        clear ho1 ho2
        rw [hka, Nat.sub_self] at SC
        subst hka
        rw [show m - k = 0 by omega] at SC
        go_wp2_with (go_at_call 88; (with_reducible refine SC.out.mono ?_); rintro x2 w2 ⟨v2, A2, n2, c2, rfl, hov2, hst2, hs2⟩; have e13 := hst2.row.cell (j := 13) rfl; have p13 := hst2.row.frozen (j := 13) (by simp [rdV, staC]); have OV2 := Lib.hid hov2; have ST2 := Lib.hid hst2; have SV2 := Lib.hid hs2; obtain ⟨w3, hw3⟩ : ∃ W, w2.setCell ⟨g, 13, none⟩ (.int .i64 e) = W := ⟨_, rfl⟩; have F2 := FIN.out w2 A2 n2 c2 hst2 hs2; rw [hw3] at F2; have R3 := Lib.hid F2.1; have SV3 := Lib.hid F2.2; have q13 := F2.1.row.cell (j := 13) rfl; clear hov2 hst2 hs2 F2)
        go_region
        go_wp2
        go_ret3
        exact ⟨.slice none 0 0, A2, n2, c2, by rw [HFin.out]; rfl, by rw [HFin.out]; exact World.ownsRow_nil _ _ _ _, by rw [HFin.out]; first | exact R3.out | exact R3.out.at_ (below_drewN (Below.refl _ _) 1), by first | exact SV3.out | exact SV3.out.trans (Save2.of_below (below_drewN (Below.refl _ _) 1))⟩
      · have ho := ho2 hka
        subst ho
        clear ho1 ho2
        go_wp2_with (go_at_call 88; (with_reducible refine SC.out.mono ?_); rintro x2 w2 ⟨v2, A2, n2, c2, rfl, hov2, hst2, hs2⟩; have e13 := hst2.row.cell (j := 13) rfl; have p13 := hst2.row.frozen (j := 13) (by simp [rdV, staC]); have OV2 := Lib.hid hov2; have ST2 := Lib.hid hst2; have SV2 := Lib.hid hs2; obtain ⟨w3, hw3⟩ : ∃ W, w2.setCell ⟨g, 13, none⟩ (.int .i64 e) = W := ⟨_, rfl⟩; have F2 := FIN.out w2 A2 n2 c2 hst2 hs2; rw [hw3] at F2; have R3 := Lib.hid F2.1; have SV3 := Lib.hid F2.2; have q13 := F2.1.row.cell (j := 13) rfl; clear hov2 hst2 hs2 F2)
        go_region
        go_wp2
        go_ret3
        exact ⟨.slice none 0 0, A2, n2, c2, by rw [HFin.out]; rfl, by rw [HFin.out]; exact World.ownsRow_nil _ _ _ _, by rw [HFin.out]; first | exact R3.out | exact R3.out.at_ (below_drewN (Below.refl _ _) 1), by first | exact SV3.out | exact SV3.out.trans (Save2.of_below (below_drewN (Below.refl _ _) 1))⟩
end Go.Proofs.YtniiadhhefgmcaaGreatDoor

/- Layer 8: is all of it taken, the message without its body, a message read whole, by the code. Condition: the world's shape, at most 10^8 octets. -/
namespace Go.Proofs.YtniiadhhefgmcaaGreatDoor
open Go.RowKit IH
set_option maxRecDepth 100000
theorem results_cell_tmp8 {P : Program} {fn : Func} {t u : Tmp} {ty : TypeId} (h : fn.results = #[.cell t ty, .tmp u]) (tmps : Array Value) (w : World) (a : Addr) (ht : tmps.getD t undef = .pointer (some a)) (v x : Value) (hu : tmps.getD u undef = x)
    (hl : (loadVar ty a).run P w = .ok v w) : (results fn tmps).run P w = .ok (.tuple #[v, x]) w := by
  simp only [Array.getD_eq_getD_getElem?] at ht hu
  simp [results, h, ht, hu, asAddr, hl]
theorem own_far' {w : World} {base size n : Nat} {e : TypeId} {v : Value} {xs : List Value} (h : w.ownsRow base e size v n xs) {p : Addr} (u : Value) (hp : p.block < base) : (w.setCell p u).ownsRow base e size v n xs := by
  refine ⟨h.1, ?_⟩
  rcases h.2 with h2 | ⟨g', cap, cur, hv, hb, hh, r⟩
  · exact .inl h2
  · exact .inr ⟨g', cap, cur, hv, hb, (Below.heap_setCell w p u g' (by omega)).trans hh, r⟩
theorem own_only8 {w w' : World} {base size n g : Nat} {e : TypeId} {v : Value} {xs : List Value} (h : w.ownsRow base e size v n xs) (ho : Only g w w') (hg : g < base) : w'.ownsRow base e size v n xs := by
  refine ⟨h.1, ?_⟩
  rcases h.2 with h2 | ⟨g', cap, cur, hv, hb, hh, r⟩
  · exact .inl h2
  · exact .inr ⟨g', cap, cur, hv, hb, (ho.block g' (by omega)).trans hh, r⟩
theorem rddone_any (g dg : Nat) (r : Rd) (F : Value) (w : World) (hr : RowAt w g 122 (rdV dg r F)) :
    Calls Tryz.prog 45 #[.pointer (some ⟨g, 0, none⟩)] w fun e w' => e = .returned (.bool (r.w == 3)) ∧ w = w' := by
  have d3 := hr.cell (j := 3) rfl
  clear hr
  go_enter Tryz.func45, Tryz.ntmps45
  go_wp2
  go_ret
  exact ⟨rfl, rfl⟩
def zeroM : List Value := [.string ⟨#[]⟩, .string ⟨#[]⟩, .int .i64 0, .string ⟨#[]⟩, .int .i64 0, .slice none 0 0, .slice none 0 0]
theorem msgC_one (s : Sta) (A A' : Option Addr) (n c n' c' : Nat) : ∀ v ∈ msgC s (.slice A n c) (.slice A' n' c'), v.oneCell' = true := by
  intro v hv
  simp only [msgC, staC, List.cons_append, List.nil_append, List.mem_cons, List.not_mem_nil, or_false] at hv
  rcases hv with rfl | rfl | rfl | rfl | rfl | rfl | rfl <;> rfl
set_option maxHeartbeats 16000000 in
theorem rdhead_any (g dg : Nat) (r : Rd) (A : Option Addr) (n c : Nat) (w : World) (hst : RdSt w g dg r A n c) (hn : n ≤ 1000000) :
    Calls Tryz.prog 44 #[.pointer (some ⟨g, 0, none⟩)] w fun e w' =>
      ((r.w < 2 ∧ e = .returned (.tuple #[.agg zeroM.toArray, .bool false])) ∨ (¬ r.w < 2 ∧ ∃ A' n' c', e = .returned (.tuple #[.agg (msgC r.start (.slice A' n' c') (.slice none 0 0)).toArray, .bool true]) ∧ w'.ownsRow w.heap.size 74 2 (.slice A' n' c') n' (fldsV r.fields))) ∧ Below w.heap.size w w' := by
  have HMi : Hid ((Tryz.prog.info? 27).map (·.size) = some 7) := Lib.hid (by kernel_rfl)
  obtain ⟨w1, hw1⟩ : ∃ W : World, w.alloc (.cells #[.string ⟨#[]⟩, .string ⟨#[]⟩, .int .i64 0, .string ⟨#[]⟩, .int .i64 0, .slice none 0 0, .slice none 0 0] 27) = W := ⟨_, rfl⟩
  have B1 : Hid (Below w.heap.size w w1) := Lib.hid (by rw [← hw1]; exact (Below.refl _ _).alloc (Nat.le_refl _) _)
  have Z1 : Hid (RowAt w1 w.heap.size 27 zeroM) := Lib.hid (by rw [← hw1]; exact RowAt.new w 27 zeroM)
  have R1 : Hid (RowAt w1 g 122 (rdV dg r (.slice A n c))) := Lib.hid (hst.row.below B1.out hst.row.lt)
  have d3 := R1.out.cell (j := 3) rfl
  have HST := Lib.hid hst
  by_cases hw : r.w < 2
  · have HW := Lib.hid hw
    clear hst
    go_enter Tryz.func44, Tryz.ntmps44
    go_wp2_with (refine wpList_store_row rfl 27 _ _ rfl w.heap.size _ zeroM zeroM rfl rfl Z1.out rfl HMi.out (by simp [zeroM, Value.oneCell']) ?_; intro wz hrz hoz; have RZ := Lib.hid hrz; have OZ := Lib.hid hoz; clear hrz hoz)
    exact bodyPost_ret (v := .tuple #[.agg zeroM.toArray, .bool false]) (results_cell_tmp8 Tryz.results44 _ wz ⟨w.heap.size, 0, none⟩ rfl (.agg zeroM.toArray) (.bool false) rfl (run_loadVar_mid wz w.heap.size 0 27 zeroM _ (rangeOf RZ.out) Tryz.underlying27 rfl HMi.out)) rfl (by first | exact ⟨.inl ⟨HW.out, rfl⟩, OZ.out.below B1.out (Nat.le_refl _)⟩ | exact ⟨.inl rfl, OZ.out.below B1.out (Nat.le_refl _)⟩ | exact ⟨rfl, OZ.out.below B1.out (Nat.le_refl _)⟩)
  · have HW := Lib.hid hw
    obtain ⟨C, hC⟩ : ∃ C, msgC r.start (.slice A n c) (.slice none 0 0) = C := ⟨_, rfl⟩
    have hCl : C.length = 7 := by rw [← hC]; rfl
    have h5 : C[5]? = some (.slice A n c) := by rw [← hC]; rfl
    have HC1 : Hid (∀ v ∈ C, v.oneCell' = true) := Lib.hid (by rw [← hC]; exact msgC_one _ _ _ _ _ _ _)
    have HCi : Hid ((Tryz.prog.info? 27).map (·.size) = some C.length) := Lib.hid (by rw [hCl]; exact HMi.out)
    have HCl := Lib.hid hCl
    have RG : Hid (w1.rangeAt g 4 C) := Lib.hid (fun j v hj => by
      have hj7 : j < 7 := by have := (List.getElem?_eq_some_iff.1 hj).1; omega
      refine R1.out.cell (j := 4 + j) ?_
      rw [← hC] at hj
      rw [← hj]
      match j, hj7 with
      | 0, _ => rfl
      | 1, _ => rfl
      | 2, _ => rfl
      | 3, _ => rfl
      | 4, _ => rfl
      | 5, _ => rfl
      | 6, _ => rfl)
    have hcn := fld_count hst.fl
    have CL := fun (W : World) (hW : Below w.heap.size w W) => clone_any A n c r.fields W ((hst.fl.below hW).more hW.size) hn
    rw [hcn] at CL
    have HC := Lib.hid hC
    have H5 := Lib.hid h5
    replace CL := Lib.hid CL
    clear hst hC hCl h5 hcn
    go_enter Tryz.func44, Tryz.ntmps44
    go_wp2_with (first
      | (refine wpList_load_g (wanted_un rfl) 27 _ rfl g 4 rfl C _ RG.out Tryz.underlying27 rfl HCi.out ?_; have tok1 : Hid True := Lib.hid trivial)
      | (have _t := tok1; refine wpList_store_row rfl 27 _ _ rfl w1.heap.size _ C zeroM rfl rfl (RowAt.new w1 27 _) (by rw [HCl.out]; rfl) HCi.out HC1.out ?_; intro w3 hr3 ho3; have hb3 := ho3.below ((Below.refl w1.heap.size w1).alloc (Nat.le_refl _) _) (Nat.le_refl _); have B3 := Lib.hid (below_step B1.out hb3); have Z3 := Lib.hid (Z1.out.below hb3 Z1.out.lt); have L3 := Lib.hid hr3; have Zl := Lib.hid Z1.out.lt; have c5 := hr3.cell (j := 5) H5.out; clear hr3 ho3 hb3 tok1)
      | (go_at_call 60; (with_reducible refine (CL.out _ B3.out).mono ?_); rintro x4 w4 ⟨v4, rfl, ho4, hb4⟩; obtain ⟨A4, c4, rfl, hs4⟩ := own_slice ho4; have B4 := Lib.hid (below_step B3.out hb4); have Z4 := Lib.hid (Z3.out.below hb4 Z3.out.lt); have L4 := Lib.hid (L3.out.below hb4 L3.out.lt); have c5 := L4.out.cell (j := 5) H5.out; have f5 := L4.out.frozen (j := 5) (by rw [HCl.out]; omega); have O4 := Lib.hid ho4; obtain ⟨w5, hw5⟩ : ∃ W, w4.setCell ⟨w1.heap.size, 5, none⟩ (.slice A4 n c4) = W := ⟨_, rfl⟩; have L5 : Hid (RowAt w5 w1.heap.size 27 (msgC r.start (.slice A4 n c4) (.slice none 0 0))) := Lib.hid (by rw [← hw5]; have h := L4.out.set_ (j := 5) (by rw [HCl.out]; omega) (.slice A4 n c4); rw [← HC.out] at h; exact h); have O5 := own_far' O4.out (p := ⟨w1.heap.size, 5, none⟩) (.slice A4 n c4) L3.out.lt; rw [hw5] at O5; replace O5 := Lib.hid O5; have Z5 : Hid (RowAt w5 w.heap.size 27 zeroM) := Lib.hid (by rw [← hw5]; exact Z4.out.far (by have := Zl.out; show w.heap.size ≠ w1.heap.size; omega) _); have B5 : Hid (Below w.heap.size w w5) := Lib.hid (by rw [← hw5]; exact B4.out.setCell (by have := Zl.out; show w.heap.size ≤ w1.heap.size; omega) _); have tok5 : Hid True := Lib.hid trivial; clear ho4 hb4 hs4)
      | (have _t := tok5; refine wpList_load_g (wanted_un rfl) 27 _ rfl w1.heap.size 0 rfl (msgC r.start (.slice A4 n c4) (.slice none 0 0)) _ (rangeOf L5.out) Tryz.underlying27 rfl HMi.out ?_)
      | (have _t := tok5; refine wpList_store_row rfl 27 _ _ rfl w.heap.size _ (msgC r.start (.slice A4 n c4) (.slice none 0 0)) zeroM rfl rfl Z5.out rfl HMi.out (msgC_one _ _ _ _ _ _ _) ?_; intro wz hrz hoz; have RZ := Lib.hid hrz; have OZ := Lib.hid hoz; clear hrz hoz))
    refine bodyPost_ret (v := .tuple #[.agg (msgC r.start (.slice A4 n c4) (.slice none 0 0)).toArray, .bool true]) (results_cell_tmp8 Tryz.results44 _ wz ⟨w.heap.size, 0, none⟩ rfl (.agg (msgC r.start (.slice A4 n c4) (.slice none 0 0)).toArray) (.bool true) rfl (run_loadVar_mid wz w.heap.size 0 27 (msgC r.start (.slice A4 n c4) (.slice none 0 0)) _ (rangeOf RZ.out) Tryz.underlying27 rfl HMi.out)) rfl ?_
    have O6 := own_mono (own_only8 O5.out OZ.out (Nat.lt_trans Zl.out L3.out.lt)) B3.out.size
    first | exact ⟨.inr ⟨HW.out, A4, n, c4, rfl, O6⟩, OZ.out.below B5.out (Nat.le_refl _)⟩ | exact ⟨.inr ⟨A4, n, c4, rfl, O6⟩, OZ.out.below B5.out (Nat.le_refl _)⟩
end Go.Proofs.YtniiadhhefgmcaaGreatDoor

/- Layer 8: message.Parse, by the code. Condition: the world's shape, at most 10^8 octets. -/
namespace IH
theorem stepM_few (r : Rd) (b : List UInt8) (h : r.fields.length ≤ 128) : (stepM r b).2.2.2.fields.length ≤ 128 := by
  have hp : (parseFs b).1.length ≤ 128 := by unfold parseFs; exact pF_len _ _ _ _ _ (by simp)
  unfold stepM
  dsimp only
  split
  · split
    · exact h
    · split <;> exact h
  · split
    · split
      · exact h
      · split
        · exact h
        · split
          · exact hp
          · exact hp
    · split
      · split
        · split <;> exact h
        · exact h
      · exact h
theorem runM_few : ∀ (k : Nat) (r : Rd) (b : List UInt8), b.length ≤ k → r.fields.length ≤ 128 → (runM r b).2.2.2.fields.length ≤ 128 := by
  intro k
  induction k with
  | zero =>
    intro r b hb h
    have hs := stepM_few r b h
    have hle := stepM_le (r := r) (b := b)
    rw [runM_step]
    split
    · exact hs
    · rw [if_pos (by omega)]; exact hs
  | succ k ih =>
    intro r b hb h
    have hs := stepM_few r b h
    rw [runM_step]
    split
    · exact hs
    · split
      · exact hs
      · have := ih (stepM r b).2.2.2 (b.drop (stepM r b).2.1) (by rw [List.length_drop]; omega) hs
        unfold aheadM
        split <;> exact this
end IH
namespace Go.Proofs.YtniiadhhefgmcaaGreatDoor
open Go.RowKit IH
set_option maxRecDepth 100000
end Go.Proofs.YtniiadhhefgmcaaGreatDoor
