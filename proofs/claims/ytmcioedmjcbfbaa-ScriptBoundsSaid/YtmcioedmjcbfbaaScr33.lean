/- Walks of layer 27: is a deed right; are all. Condition: as in the texts on lines, at most 10^6 deeds. -/
import Derived.Test.YtmcioedmjcbfbaaSc
import Derived.Test.YtmcioedmjcbfbaaScr32
namespace Go.Proofs.Ytmcioedmjcbfbaa
open Go.RowKit IH
set_option maxRecDepth 100000
/-- Has a deed nothing else than its line tells? -/
def rightD (d : Deed) : Bool := decide (0 ≤ d.kind ∧ d.kind ≤ 10) && sameD d (clean d)
theorem trim_line (l : List UInt8) : Lib.trimSuffix (l ++ [10]) [10] = l := by
  unfold Lib.trimSuffix
  simp [Lib.hasSuffix]
set_option maxHeartbeats 8000000 in
theorem sright_any (d : Deed) (AB AC AK : Option Addr) (nB cB nC cC nK cK : Nat) (w : World)
    (hB : SliceIn w w.heap.size 1 AB nB cB (bytesV d.b)) (hC : SliceIn w w.heap.size 1 AC nC cC (intsV d.calls)) (hK : SliceIn w w.heap.size 1 AK nK cK (boolsV d.keep)) (hd : DeedN d) :
    Calls Try.prog 50 #[.agg (cells8 d (.slice AB nB cB) (.slice AC nC cC) (.slice AK nK cK)).toArray] w fun e w' => e = .returned (.bool (rightD d)) ∧ Below w.heap.size w w' := by
  rw [c8]
  obtain ⟨g0, hg0⟩ : ∃ g0, w.heap.size = g0 := ⟨_, rfl⟩
  obtain ⟨wa, hwa⟩ : ∃ wa, w.alloc (.cells (cells8 d (.slice AB nB cB) (.slice AC nC cC) (.slice AK nK cK)).toArray 53) = wa := ⟨_, rfl⟩
  rw [hg0]
  rw [hg0] at hB hC hK
  have hz1 : wa.heap.size = g0 + 1 := by rw [← hwa]; simp [hg0]
  have B1 : Hid (Below g0 w wa) := Lib.hid (by rw [← hwa]; exact (Below.refl _ _).alloc (by omega) _)
  have R1 : RowAt wa g0 53 (cells8 d (.slice AB nB cB) (.slice AC nC cC) (.slice AK nK cK)) := by rw [← hwa, ← hg0]; exact RowAt.new w _ _
  have HB := Lib.hid ((hB.below B1.out).more (show g0 ≤ wa.heap.size by omega))
  have HC := Lib.hid ((hC.below B1.out).more (show g0 ≤ wa.heap.size by omega))
  have HK := Lib.hid ((hK.below B1.out).more (show g0 ≤ wa.heap.size by omega))
  have lB : d.b.length = nB := by have := hB.1; rw [bytesV_length] at this; omega
  have lC : d.calls.length = nC := by have := hC.1; rw [intsV_length] at this; omega
  have lK : d.keep.length = nK := by have := hK.1; rw [boolsV_length] at this; omega
  have hnB : nB ≤ 1000000000 := by have := hd.lb; omega
  have hnC : nC ≤ 1000000000 := by have := hd.lc; omega
  have hnK : nK ≤ 1000000000 := by have := hd.lk; omega
  rw [c8] at hwa
  have hg1 : g0 < wa.heap.size := by omega
  have OF := fun w => of_any d.kind w
  have HR1 := Lib.hid R1
  by_cases hk : 0 ≤ d.kind ∧ d.kind ≤ 10
  · rw [ofR_in hk.1 hk.2] at OF
    rw [show frmCells (nameK d.kind, d.kind, asksK d.kind) = [.string ⟨(nameK d.kind).toArray⟩, .int .i64 d.kind, .string ⟨(asksK d.kind).toArray⟩] from rfl] at OF
    replace OF := Lib.hid OF
    have hrd : rightD d = sameD d (clean d) := by unfold rightD; rw [decide_eq_true hk]; rfl
    have SP := fun (W : World) (hW : Below wa.heap.size wa W) => sprint_any d hk.1 hk.2 AB AC AK nB cB nC cC nK cK W ((HB.out.below hW).more hW.size) ((HC.out.below hW).more hW.size) ((HK.out.below hW).more hW.size) hd
    obtain ⟨X, hX⟩ : ∃ X : ByteArray, (⟨(nameK d.kind).toArray⟩ : ByteArray) = X := ⟨_, rfl⟩
    obtain ⟨Y, hY⟩ : ∃ X : ByteArray, (⟨(asksK d.kind).toArray⟩ : ByteArray) = X := ⟨_, rfl⟩
    obtain ⟨P, hP⟩ : ∃ X : ByteArray, (⟨(printD d ++ [10]).toArray⟩ : ByteArray) = X := ⟨_, rfl⟩
    obtain ⟨Z, hZ⟩ : ∃ X : ByteArray, (⟨(printD d).toArray⟩ : ByteArray) = X := ⟨_, rfl⟩
    have hpz := printD_size hd
    have hPs : P.size ≤ 99999991 := by rw [← hP, size_mk, List.length_append]; simp; omega
    have hZs : Z.size ≤ 99999990 := by rw [← hZ, size_mk]; exact hpz
    have TS := fun w => Try.strings_TrimSuffix P ⟨#[10]⟩ w (by omega)
    rw [show P.data.toList = printD d ++ [10] by rw [← hP], show (⟨#[10]⟩ : ByteArray).data.toList = [10] from rfl, trim_line, hZ] at TS
    have SA := fun w => sparse_any Z (by omega) w
    rw [show Z.data.toList = printD d by rw [← hZ], line_clean hk.1 hk.2 hd.ic hd.iN hd.it hd.ip hd.ia] at SA
    rw [c8, hX, hY, hP] at SP
    rw [hX, hY] at OF
    have HSP := Lib.hid SP
    have HTS := Lib.hid TS
    have HSA := Lib.hid SA
    have HSM : Hid (∀ (W : World) (DB : Option Addr) (mB eB : Nat) (DC : Option Addr) (mC eC : Nat) (DK : Option Addr) (mK eK : Nat), Below wa.heap.size wa W → Own3 W wa.heap.size (clean d) (.slice DB mB eB) (.slice DC mC eC) (.slice DK mK eK) →
        Calls Try.prog 70 #[.agg (cells8 d (.slice AB nB cB) (.slice AC nC cC) (.slice AK nK cK)).toArray, .agg (cells8 (clean d) (.slice DB mB eB) (.slice DC mC eC) (.slice DK mK eK)).toArray] W fun e w' => e = .returned (.bool (sameD d (clean d))) ∧ Below W.heap.size W w') := Lib.hid (fun W DB mB eB DC mC eC DK mK eK hW ho => by
      obtain ⟨A1, e1, h1, s1⟩ := own_slice ho.b
      obtain ⟨A2, e2, h2, s2⟩ := own_slice ho.c
      obtain ⟨A3, e3, h3, s3⟩ := own_slice ho.k
      injection h1 with a1 b1 c1
      injection h2 with a2 b2 c2
      injection h3 with a3 b3 c3
      subst a1 b1 c1 a2 b2 c2 a3 b3 c3
      exact ssame_any d (clean d) AB AC AK DB DC DK nB cB nC cC nK cK _ eB _ eC _ eK W ((HB.out.below hW).more hW.size) ((HC.out.below hW).more hW.size) ((HK.out.below hW).more hW.size) s1 s2 s3 ⟨hnB, hnC, hnK⟩)
    rw [c8] at HSM
    rw [hrd]
    have r0 := R1.cell (j := 0) rfl
    have e00 : ((0 : Int) == 0) = true := rfl
    clear hrd hX hY hP hZ hpz SP TS SA hB hC hK lB lC lK hd hk HB HC HK
    obtain ⟨D, hD⟩ : ∃ D, clean d = D := ⟨_, rfl⟩
    rw [hD] at HSM HSA
    rw [hD]
    clear hD
    have HC8 := Lib.hid (fun (vB vC vK : Value) => c8 D vB vC vK)
    generalize sameD d D = sm at *
    obtain ⟨xk, hxk⟩ : ∃ x, d.kind = x := ⟨_, rfl⟩
    obtain ⟨xc, hxc⟩ : ∃ x, d.conn = x := ⟨_, rfl⟩
    obtain ⟨xn, hxn⟩ : ∃ x, d.n = x := ⟨_, rfl⟩
    obtain ⟨xt, hxt⟩ : ∃ x, d.torn = x := ⟨_, rfl⟩
    obtain ⟨xp, hxp⟩ : ∃ x, d.part = x := ⟨_, rfl⟩
    rw [hxk] at OF r0
    rw [hxk, hxc, hxn, hxt, hxp] at HSP HSM hwa ⊢
    have HR2 : Hid (RowAt wa g0 53 [.int .i64 xk, .int .i64 xc, .int .i64 xn, .slice AB nB cB, .slice AC nC cC, .slice AK nK cK, .int .i64 xt, .int .i64 xp]) := Lib.hid (by rw [← hxk, ← hxc, ← hxn, ← hxt, ← hxp]; exact HR1.out)
    clear hxk hxc hxn hxt hxp R1 HR1
    go_enter Try.func50, Try.ntmps50
    go_upto_region 4 with (go_at_call 51; refine (OF.out _).mono ?_; rintro e w2 ⟨rfl, hb2⟩)
    have BA : Hid (Below wa.heap.size wa (w2.alloc (.cells #[.string X, .int .i64 xk, .string Y] 94))) := Lib.hid (hb2.alloc hb2.size _)
    obtain ⟨w3, hw3⟩ : ∃ w3, w2.alloc (.cells #[.string X, .int .i64 xk, .string Y] 94) = w3 := ⟨_, rfl⟩
    have RF : RowAt w3 w2.heap.size 94 [.string X, .int .i64 xk, .string Y] := by rw [← hw3]; exact RowAt.new w2 _ [.string X, .int .i64 xk, .string Y]
    rw [hw3] at BA
    rw [hw3]
    have fl := RF.lt
    have f0 := RF.cell (j := 0) rfl
    have f1 := RF.cell (j := 1) rfl
    have f2 := RF.cell (j := 2) rfl
    have R3 := HR2.out.below BA.out hg1
    have q0 := R3.cell (j := 0) rfl
    have q1 := R3.cell (j := 1) rfl
    have q2 := R3.cell (j := 2) rfl
    have q3 := R3.cell (j := 3) rfl
    have q4 := R3.cell (j := 4) rfl
    have q5 := R3.cell (j := 5) rfl
    have q6 := R3.cell (j := 6) rfl
    have q7 := R3.cell (j := 7) rfl
    generalize w2.heap.size = gf at *
    clear r0 RF R3 hw3 hb2
    go_upto_region 6 with (first
      | (go_at_call 52; refine (HSP.out _ BA.out).mono ?_; rintro e w4 ⟨rfl, hb4⟩; have B4 := Lib.hid (below_step BA.out hb4))
      | (go_at_call 69; refine (HTS.out _).mono ?_; rintro e w5 ⟨rfl, hw5⟩; have hw5' := hw5.symm; subst hw5')
      | (go_at_call 37; refine (HSA.out _).mono ?_; rintro e w6 ⟨⟨vB, vC, vK, he, ho⟩, hb6⟩; simp only [Option.getD_some, Option.isSome_some, if_true, HC8.out] at he; simp only [Option.getD_some] at ho; have B6 := Lib.hid (below_step B4.out hb6); have O6 := Lib.hid (ho.base B4.out.size); obtain ⟨DB, eB, rfl, _⟩ := own_slice ho.b; obtain ⟨DC, eC, rfl, _⟩ := own_slice ho.c; obtain ⟨DK, eK, rfl, _⟩ := own_slice ho.k; subst he; clear ho hb6))
    obtain ⟨w7, hw7⟩ : ∃ w7, w6.alloc (.cells (cells8 D (.slice DB D.b.length eB) (.slice DC D.calls.length eC) (.slice DK D.keep.length eK)).toArray 53) = w7 := ⟨_, rfl⟩
    have R7 : RowAt w7 w6.heap.size 53 (cells8 D (.slice DB D.b.length eB) (.slice DC D.calls.length eC) (.slice DK D.keep.length eK)) := by rw [← hw7]; exact RowAt.new w6 _ _
    have B7 : Hid (Below wa.heap.size wa w7) := Lib.hid (by rw [← hw7]; exact B6.out.alloc B6.out.size _)
    have O7 : Own3 w7 wa.heap.size D (.slice DB D.b.length eB) (.slice DC D.calls.length eC) (.slice DK D.keep.length eK) := by rw [← hw7]; exact O6.out.keep (Kept3.below ((Below.refl _ _).alloc (Nat.le_refl _) _))
    have SM7 := HSM.out w7 _ _ _ _ _ _ _ _ _ B7.out O7
    have RD := HR2.out.below B7.out hg1
    rw [HC8.out] at hw7 SM7
    rw [hw7]
    replace SM7 := Lib.hid SM7
    have t0 := R7.cell (j := 0) rfl
    have t1 := R7.cell (j := 1) rfl
    have t2 := R7.cell (j := 2) rfl
    have t3 := R7.cell (j := 3) rfl
    have t4 := R7.cell (j := 4) rfl
    have t5 := R7.cell (j := 5) rfl
    have t6 := R7.cell (j := 6) rfl
    have t7 := R7.cell (j := 7) rfl
    have u0 := RD.cell (j := 0) rfl
    have u1 := RD.cell (j := 1) rfl
    have u2 := RD.cell (j := 2) rfl
    have u3 := RD.cell (j := 3) rfl
    have u4 := RD.cell (j := 4) rfl
    have u5 := RD.cell (j := 5) rfl
    have u6 := RD.cell (j := 6) rfl
    have u7 := RD.cell (j := 7) rfl
    generalize w6.heap.size = gy at *
    clear q0 q1 q2 q3 q4 q5 q6 q7 f0 f1 f2 fl R7 RD O7 O6 hw7 hw5 hb4 HSP HTS HSA HSM
    go_wp2_with (go_at_call 70; refine SM7.out.mono ?_; rintro e w8 ⟨rfl, hb8⟩)
    go_ret
    exact ⟨rfl, (B1.out.trans (B7.out.mono (by omega))).trans (hb8.mono (by have := B7.out.size; omega))⟩
  · rw [ofR_out hk] at OF
    have hrd : rightD d = false := by unfold rightD; rw [decide_eq_false hk]; rfl
    rw [hrd]
    have r0 := R1.cell (j := 0) rfl
    replace OF := Lib.hid OF
    rw [show frmCells ([], 0, []) = [.string ⟨#[]⟩, .int .i64 0, .string ⟨#[]⟩] from rfl] at OF
    clear hrd hk R1 hB hC hK lB lC lK hd HB HC HK
    generalize d.kind = xk at *
    go_enter Try.func50, Try.ntmps50
    go_wp2_with (go_at_call 51; refine (OF.out _).mono ?_; rintro e w2 ⟨rfl, hb2⟩)
    go_ret
    exact ⟨rfl, B1.out.trans ((hb2.mono (by omega)).alloc (by have := hb2.size; omega) _)⟩
theorem right1_any (d : Deed) (AB AC AK : Option Addr) (nB cB nC cC nK cK : Nat) (w : World)
    (hB : SliceIn w w.heap.size 1 AB nB cB (bytesV d.b)) (hC : SliceIn w w.heap.size 1 AC nC cC (intsV d.calls)) (hK : SliceIn w w.heap.size 1 AK nK cK (boolsV d.keep)) (hd : DeedN d) :
    Calls Try.prog 49 #[.agg (cells8 d (.slice AB nB cB) (.slice AC nC cC) (.slice AK nK cK)).toArray] w fun e w' => e = .returned (.bool (!rightD d)) ∧ Below w.heap.size w w' := by
  have SR := fun (W : World) (hW : Below w.heap.size w W) => sright_any d AB AC AK nB cB nC cC nK cK W ((hB.below hW).more hW.size) ((hC.below hW).more hW.size) ((hK.below hW).more hW.size) hd
  have BW : Below w.heap.size w (w.alloc (.cells (cells8 d (.slice AB nB cB) (.slice AC nC cC) (.slice AK nK cK)).toArray 53)) := (Below.refl _ _).alloc (Nat.le_refl _) _
  replace SR := SR _ BW
  rw [c8] at SR BW ⊢
  replace SR := Lib.hid SR
  have HBW := Lib.hid BW
  generalize rightD d = r at *
  clear hB hC hK hd BW
  go_enter Try.func49, Try.ntmps49
  go_wp2_with (go_at_call 50; refine SR.out.mono ?_; rintro e w2 ⟨rfl, hb2⟩)
  go_ret
  exact ⟨rfl, below_step HBW.out hb2⟩
/-- Deeds in a slice that came in. -/
structure DeedsIn (w : World) (A : Option Addr) (n c : Nat) (L : List Deed) (V : List Value) : Prop where
  s : SliceIn w w.heap.size 8 A n c V
  r : DeedsR w w.heap.size L V
  n : ∀ d ∈ L, DeedN d
theorem DeedsIn.below {w w' : World} {A : Option Addr} {n c : Nat} {L : List Deed} {V : List Value} (h : DeedsIn w A n c L V) (hb : Below w.heap.size w w') : DeedsIn w' A n c L V :=
  ⟨(h.s.below hb).more hb.size, (h.r.below hb).more hb.size, h.n⟩
theorem DeedsIn.len {w : World} {A : Option Addr} {n c : Nat} {L : List Deed} {V : List Value} (h : DeedsIn w A n c L V) : L.length = n := by
  have := h.s.1
  rw [h.r.length] at this
  omega
/-- One of them: its cells, and what they read as. -/
theorem DeedsIn.at_ {w : World} {A : Option Addr} {n c : Nat} {L : List Deed} {V : List Value} (h : DeedsIn w A n c L V) {k : Nat} {d : Deed} (hk : L[k]? = some d) :
    ∃ b off AB nB cB AC nC cC AK nK cK, A = some ⟨b, off, none⟩ ∧ b < w.heap.size ∧ SliceIn w w.heap.size 1 AB nB cB (bytesV d.b) ∧ SliceIn w w.heap.size 1 AC nC cC (intsV d.calls) ∧ SliceIn w w.heap.size 1 AK nK cK (boolsV d.keep) ∧
      (w.cell? ⟨b, off + k * 8, none⟩ = some (.int .i64 d.kind) ∧ w.cell? ⟨b, off + k * 8 + 1, none⟩ = some (.int .i64 d.conn) ∧ w.cell? ⟨b, off + k * 8 + 2, none⟩ = some (.int .i64 d.n) ∧ w.cell? ⟨b, off + k * 8 + 3, none⟩ = some (.slice AB nB cB) ∧
      w.cell? ⟨b, off + k * 8 + 4, none⟩ = some (.slice AC nC cC) ∧ w.cell? ⟨b, off + k * 8 + 5, none⟩ = some (.slice AK nK cK) ∧ w.cell? ⟨b, off + k * 8 + 6, none⟩ = some (.int .i64 d.torn) ∧ w.cell? ⟨b, off + k * 8 + 7, none⟩ = some (.int .i64 d.part)) := by
  obtain ⟨b, off, cs, rfl, hb, hr, hc⟩ := deed_at h.s h.r hk
  obtain ⟨AB, nB, cB, AC, nC, cC, AK, nK, cK, rfl, s1, s2, s3⟩ := hr
  exact ⟨b, off, AB, nB, cB, AC, nC, cC, AK, nK, cK, rfl, hb, s1, s2, s3, deed_cells hc⟩
set_option maxHeartbeats 4000000 in
theorem IndexRight_any (A : Option Addr) (n c : Nat) (L : List Deed) (V : List Value) (w : World) (hin : DeedsIn w A n c L V) (hs : n ≤ 1000000) :
    Calls Try.prog 68 #[.slice A n c, .func (.func 49) #[] #[]] w fun e w' => e = .returned (.int .i64 (fiF (fun d => !rightD d) L)) ∧ Below w.heap.size w w' := by
  have hL := hin.len
  have HI := Lib.hid hin
  have HL := Lib.hid hL
  clear hin hL
  go_enter Try.func68, Try.ntmps68
  go_wp2
  go_loopw [8] (fun i wr => ∃ k : Nat, k ≤ n ∧ i = .int .i64 k ∧ (L.take k).any (fun d => !rightD d) = false ∧ Below w.heap.size w wr) (fun i _ => n - (intOf i).toNat)
  case atStart => exact ⟨0, by omega, rfl, rfl, Below.refl _ _⟩
  case round =>
    obtain ⟨w0, rfl⟩ : ∃ w0 : World, w0 = wr := ⟨_, rfl⟩
    obtain ⟨k, hk, rfl, hno, hbel⟩ := hrel
    by_cases hlt : k < n
    · obtain ⟨d, hdk⟩ : ∃ d, L[k]? = some d := ⟨_, List.getElem?_eq_getElem (by rw [HL.out]; exact hlt)⟩
      obtain ⟨b, off, AB, nB, cB, AC, nC, cC, AK, nK, cK, rfl, hbl, s1, s2, s3, a0, a1, a2, a3, a4, a5, a6, a7⟩ := (HI.out.below hbel).at_ hdk
      have F1 := right1_any d AB AC AK nB cB nC cC nK cK w0 s1 s2 s3 (HI.out.n d (List.mem_of_getElem? hdk))
      rw [c8] at F1
      obtain ⟨r, hr⟩ : ∃ r, rightD d = r := ⟨_, rfl⟩
      rw [hr] at F1
      have ltI : (k : Int) < (n : Int) := by omega
      have HB := Lib.hid hbel
      cases r with
      | true =>
        have hnx := anyF_snoc (p := fun d => !rightD d) hdk (by rw [hr]; rfl) hno
        have HN := Lib.hid hnx
        replace F1 := Lib.hid F1
        clear hnx hdk hno hr s1 s2 s3 hbel
        generalize d.kind = xk at *
        generalize d.conn = xc at *
        generalize d.n = xn at *
        generalize d.torn = xt at *
        generalize d.part = xp at *
        go_wp2_with (go_at_call 49; refine F1.out.mono ?_; rintro e w2 ⟨rfl, hb2⟩)
        go_roundw
        case rel => exact ⟨k + 1, by omega, by go_num, HN.out, below_step HB.out hb2⟩
        case measure => simp [intOf]; omega
      | false =>
        have hfin : fiF (fun d => !rightD d) L = k := by unfold fiF; rw [fiF_hit (p := fun d => !rightD d) hdk (by rw [hr]; rfl) hno]
        have HF := Lib.hid hfin
        replace F1 := Lib.hid F1
        clear hfin hdk hno hr s1 s2 s3 hbel
        generalize d.kind = xk at *
        generalize d.conn = xc at *
        generalize d.n = xn at *
        generalize d.torn = xt at *
        generalize d.part = xp at *
        go_wp2_with (go_at_call 49; refine F1.out.mono ?_; rintro e w2 ⟨rfl, hb2⟩)
        go_ret
        rw [HF.out]
        exact ⟨rfl, below_step HB.out hb2⟩
    · obtain rfl : n = k := by omega
      rw [List.take_of_length_le (by rw [HL.out]; exact Nat.le_refl _)] at hno
      have HF : Hid (fiF (fun d => !rightD d) L = -1) := Lib.hid (by unfold fiF; rw [fiF_none hno])
      clear hno
      go_wp2
      go_ret
      rw [HF.out]
      exact ⟨rfl, hbel⟩
theorem fiF_any {α : Type} (p : α → Bool) (L : List α) : decide (0 ≤ fiF p L) = L.any p := by
  unfold fiF
  cases h : L.findIdx? p with
  | none =>
    rw [List.findIdx?_eq_none_iff] at h
    have : L.any p = false := by rw [List.any_eq_false]; intro x hx; simp [h x hx]
    rw [this]; rfl
  | some i =>
    obtain ⟨hl, hp, _⟩ := List.findIdx?_eq_some_iff_getElem.1 h
    have : L.any p = true := List.any_eq_true.2 ⟨_, List.getElem_mem hl, hp⟩
    rw [this]
    simp
theorem sRight_any (A : Option Addr) (n c : Nat) (L : List Deed) (V : List Value) (w : World) (hin : DeedsIn w A n c L V) (hs : n ≤ 1000000) :
    Calls Try.prog 33 #[.slice A n c] w fun e w' => e = .returned (.bool (L.all rightD)) ∧ Below w.heap.size w w' := by
  have IX := IndexRight_any A n c L V w hin hs
  have hany : (!L.any fun d => !rightD d) = L.all rightD := by
    rw [List.all_eq_not_any_not]
  have hf := fiF_any (fun d => !rightD d) L
  obtain ⟨x, hx⟩ : ∃ x, fiF (fun d => !rightD d) L = x := ⟨_, rfl⟩
  rw [hx] at IX hf
  have CF : Hid (Calls Try.prog 48 #[.slice A n c, .func (.func 49) #[] #[]] w fun e w' => e = .returned (.bool (decide (0 ≤ x))) ∧ Below w.heap.size w w') := Lib.hid (by
    replace IX := Lib.hid IX
    clear hin hany hf hx
    go_enter Try.func48, Try.ntmps48
    go_wp2_with (go_at_call 68; refine IX.out.mono ?_; rintro e w2 ⟨rfl, hb2⟩)
    all_goals
      go_ret
      exact ⟨rfl, hb2⟩)
  rw [hf] at CF
  rw [← hany]
  generalize (L.any fun d => !rightD d) = bb at *
  clear hin hany hf hx IX
  go_enter Try.func33, Try.ntmps33
  go_wp2_with (go_at_call 48; refine CF.out.mono ?_; rintro e w2 ⟨rfl, hb2⟩)
  go_ret
  exact ⟨rfl, hb2⟩
end Go.Proofs.Ytmcioedmjcbfbaa
