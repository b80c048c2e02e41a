/- Layer 7's laws: ChunkBack, walked. Condition: the world's shape. -/
import Derived.Test.YtefoaldpllnijaaDoorLaw07c
import Derived.Test.YtefoaldpllnijaaDoorApw
import Derived.Test.YtefoaldpllnijaaDoorOpenP
namespace Go.Proofs.YtefoaldpllnijaaDoor
open Go.RowKit IH
set_option maxRecDepth 100000
/-- Two rows of one's own, each in its block. -/
structure Two (W : World) (base : Nat) (v u : Value) (a b : List UInt8) : Prop where
  o1 : W.ownsRow base 5 1 v a.length (bytesV a)
  o2 : W.ownsRow base 5 1 u b.length (bytesV b)
  ap : Apart v u
section
variable {W W' : World} {base : Nat} {v u v' u' : Value} {a b a' b' : List UInt8}
theorem Two.below (h : Two W base v u a b) (hb : Below W.heap.size W W') : Two W' base v u a b := ⟨own_below h.o1 hb, own_below h.o2 hb, h.ap⟩
theorem Two.second (h : Two W base v u a b) {n : Nat} (ho : W'.ownsRow base 5 1 u' n (bytesV b')) (hn : n = b'.length) (hg : W.grownBy W' u.ownBlock) (hm : Moved W u u') : Two W' base v u' a b' :=
  ⟨own_apart h.o1 hg h.ap, own_count ho hn, (h.ap.symm.moved hm h.o1).symm⟩
theorem Two.first (h : Two W base v u a b) {n : Nat} (ho : W'.ownsRow base 5 1 v' n (bytesV a')) (hn : n = a'.length) (hg : W.grownBy W' v.ownBlock) (hm : Moved W v v') : Two W' base v' u a' b :=
  ⟨own_count ho hn, own_apart h.o2 hg h.ap.symm, h.ap.moved hm h.o2⟩
end
theorem flat_snoc {L : List (List UInt8)} {k : Nat} {p : List UInt8} (h : L[k]? = some p) : (L.take (k + 1)).flatten = (L.take k).flatten ++ p := by
  rw [List.take_add_one, h]; simp
theorem odd_snoc {z : List UInt8} {L : List (List UInt8)} {k : Nat} {p : List UInt8} (h : L[k]? = some p) : (L.take (k + 1)).flatMap (oddP z) = (L.take k).flatMap (oddP z) ++ oddP z p := by
  rw [List.take_add_one, h]; simp
theorem oddP_nil (z : List UInt8) : oddP z [] = [] := rfl
theorem oddP_of {z p : List UInt8} (h : 0 < p.length) : oddP z p = z ++ digs 16 64 p.length ++ [32, 59, 120, 61, 34, 121, 34, 13, 10] ++ p ++ [13, 10] := by
  unfold oddP
  rw [if_neg (by intro e; subst e; simp at h)]
theorem flat_le (M : Nat) : ∀ (L : List (List UInt8)), (∀ p ∈ L, p.length ≤ M) → L.flatten.length ≤ M * L.length ∧ IH.total L ≤ M * L.length
  | [], _ => by simp [IH.total]
  | a :: L, h => by
    have h1 := h a (by simp)
    obtain ⟨h2, h3⟩ := flat_le M L fun p hp => h p (by simp [hp])
    have e : IH.total (a :: L) = a.length + IH.total L := by simp [IH.total]
    rw [List.flatten_cons, List.length_append, List.length_cons, e, Nat.mul_add, Nat.mul_one]
    omega
theorem odd_le (z : List UInt8) (hz : z.length ≤ 4) : ∀ (L : List (List UInt8)), (∀ p ∈ L, p.length ≤ 500) → (L.flatMap (oddP z)).length ≤ 530 * L.length
  | [], _ => by simp
  | a :: L, h => by
    have h1 := h a (by simp)
    have h2 := odd_le z hz L fun p hp => h p (by simp [hp])
    have h3 : (oddP z a).length ≤ 530 := by
      rcases Nat.eq_zero_or_pos a.length with h0 | h0
      · obtain rfl : a = [] := List.eq_nil_of_length_eq_zero h0
        simp [oddP_nil]
      · rw [oddP_of h0]
        have := hexd_short 6 a.length (by omega) (by omega)
        simp only [List.length_append, List.length_cons, List.length_nil]
        omega
    rw [List.flatMap_cons, List.length_append, List.length_cons, Nat.mul_add, Nat.mul_one]
    omega
set_option maxHeartbeats 16000000 in
theorem cback_walk (w : World) (hsh : w.ShapedOpen Tryd.prog) (A : Option Addr) (n c : Nat) (L : List (List UInt8)) (V : List Value) (hin : SliceIn w w.heap.size 1 A n c V) (hR : PiecesR w w.heap.size L V)
    (A2 : Option Addr) (m c2 : Nat) (T : List UInt8) (hin2 : SliceIn w w.heap.size 1 A2 m c2 (bytesV T)) (b : Int) (_wfb : (Lit.int .i64 b).wf = true) :
    Calls Tryd.prog 8 #[.slice A n c, .slice A2 m c2, .int .i64 b] w fun e w' => e = .returned (.bool true) ∧ Below w.heap.size w w' := by
  have AW := Lib.hid (fun w => awake07_any w)
  have hL : L.length = n := by have h1 := hin.1; have h2 := hR.1; omega
  have hT : T.length = m := by have := hin2.1; rw [bytesV_length, Nat.mul_one] at this; exact this
  have hnc := hin.2.1
  have Hsh := Lib.hid hsh
  have Hin := Lib.hid hin
  have HR := Lib.hid hR
  have Hin2 := Lib.hid hin2
  have HL := Lib.hid hL
  have HT := Lib.hid hT
  have b1 : -5 < Int.tmod b 5 := Int.lt_tmod_of_pos b (by omega)
  have b2 : Int.tmod b 5 < 5 := Int.tmod_lt_of_pos b (by omega)
  clear hsh hin hR hin2 hL hT
  by_cases hb : 30 < n ∨ 300 < m
  · have hways : (30 : Int) < (n : Int) ∨ ((n : Int) ≤ 30 ∧ (300 : Int) < (m : Int)) := by omega
    clear hb
    rcases hways with h5 | ⟨h5, h6⟩
    all_goals
      go_enter Tryd.func8, Tryd.ntmps8
      go_wp2_with fail
      refine (AW.out _).mono ?_
      rintro e w2 ⟨rfl, hb2⟩
      have B2 := Lib.hid hb2; clear hb2
      go_wp2_with fail
      refine (AW.out _).mono ?_
      rintro e w3 ⟨rfl, hb3⟩
      have B3 := Lib.hid (below_step B2.out hb3); clear hb3
      go_wp2
      go_ret
      exact ⟨rfl, B3.out⟩
  · have h5 : (n : Int) ≤ 30 := by omega
    have h6 : (m : Int) ≤ 300 := by omega
    clear hb
    go_enter Tryd.func8, Tryd.ntmps8
    go_upto_region 4 with (go_at_call 21; refine (AW.out _).mono ?_; rintro e w2 ⟨rfl, hb2⟩; have B2 := Lib.hid hb2; clear hb2)
    obtain ⟨k0, hk⟩ : ∃ k, (Int.tmod b 5 + 5) % 5 = k := ⟨_, rfl⟩
    have k1 : 0 ≤ k0 := by omega
    have k2 : k0 ≤ 4 := by omega
    obtain ⟨z, rfl⟩ : ∃ z : Nat, k0 = z := ⟨k0.toNat, by omega⟩
    have hz4 : z ≤ 4 := by omega
    have hzI : (z : Int) ≤ 4 := by omega
    obtain ⟨ZB, hZB⟩ : ∃ ZB, (⟨#[48, 48, 48, 48]⟩ : ByteArray).extract 0 z = ZB := ⟨_, rfl⟩
    obtain ⟨Z, hZ⟩ : ∃ Z, List.replicate z (48 : UInt8) = Z := ⟨_, rfl⟩
    have hZd : ZB.data.toList = Z := by
      rw [← hZB, ← hZ, take_data _ _ (by show z ≤ 4; exact hz4)]
      have : z = 0 ∨ z = 1 ∨ z = 2 ∨ z = 3 ∨ z = 4 := by omega
      rcases this with rfl | rfl | rfl | rfl | rfl <;> rfl
    have hZl : Z.length ≤ 4 := by rw [← hZ, List.length_replicate]; exact hz4
    have hZs : ZB.size ≤ 4 := by rw [← data_len, hZd]; exact hZl
    have HZd := Lib.hid hZd
    have HZ := Lib.hid hZ
    obtain ⟨W0, hW0⟩ : ∃ W0, w2.heap.size = W0 := ⟨_, rfl⟩
    have hwW : w.heap.size ≤ W0 := by rw [← hW0]; exact B2.out.size
    have HW0 := Lib.hid hW0
    clear hW0 hZd hZ k1 k2
    go_wp2_with fail
    rw [hk]
    clear hk hZB b1 b2
    go_loopw [7, 8, 10] (fun v u i wr => ∃ k : Nat, i = .int .i64 k ∧ k ≤ n ∧ (∀ p ∈ L.take k, p.length ≤ 500) ∧ Two wr W0 v u (L.take k).flatten ((L.take k).flatMap (oddP Z)) ∧ W0 ≤ wr.heap.size ∧ Below w.heap.size w wr) (fun _ _ i _ => n - (intOf i).toNat)
    case atStart => exact ⟨0, rfl, by omega, by simp, ⟨World.ownsRow_nil _ _ _ _, World.ownsRow_nil _ _ _ _, Apart.nil _⟩, by rw [← HW0.out]; exact Nat.le_refl _, B2.out⟩
    case round =>
      obtain ⟨k, rfl, hk, hps, htwo, hlo, hbel⟩ := hrel
      obtain ⟨w0, rfl⟩ : ∃ w0 : World, w0 = wr := ⟨_, rfl⟩
      obtain ⟨f1, f2⟩ := flat_le 500 (L.take k) hps
      have f3 := odd_le Z hZl (L.take k) hps
      rw [List.length_take] at f1 f2 f3
      have HPS := Lib.hid hps
      have HTW := Lib.hid htwo
      have Hbel := Lib.hid hbel
      have hB := hbel.size
      clear hps htwo hbel
      by_cases hlt : k < n
      · obtain ⟨p, hp⟩ : ∃ p, L[k]? = some p := ⟨_, List.getElem?_eq_getElem (by rw [HL.out]; exact hlt)⟩
        obtain ⟨b0, off, A', c', rfl, hb0, hcell, hs⟩ := piece_at (Hin.out.below Hbel.out) (HR.out.below Hbel.out) hp
        have hfs := flat_snoc hp
        have hos := odd_snoc (z := Z) hp
        obtain ⟨pn, hpn⟩ : ∃ pn, p.length = pn := ⟨_, rfl⟩
        rw [hpn] at hcell hs
        have HS := Lib.hid hs
        have hcellW : ∀ W, Below w.heap.size w W → W.cell? ⟨b0, off + k, none⟩ = some (.slice A' pn c') := fun W h4 => (h4.cell (p := ⟨b0, off + k, none⟩) hb0).trans ((Hbel.out.cell (p := ⟨b0, off + k, none⟩) hb0).symm.trans hcell)
        have hsW : ∀ W, Below w.heap.size w W → SliceIn W w.heap.size 1 A' pn c' (bytesV p) := fun W h4 => HS.out.keep fun q hq => (h4.cell hq).trans (Hbel.out.cell hq).symm
        obtain ⟨O1, hO1⟩ : ∃ O, (L.take k).flatten = O := ⟨_, rfl⟩
        obtain ⟨O2, hO2⟩ : ∃ O, (L.take k).flatMap (oddP Z) = O := ⟨_, rfl⟩
        rw [hO1] at HTW hfs f1
        rw [hO2] at HTW hos f3
        have hl1 : O1.length ≤ 15000 := by omega
        have hl2 : O2.length ≤ 15900 := by omega
        clear f1 f2 f3 hO1 hO2 hs
        by_cases h500 : 500 < pn
        · have hI : (500 : Int) < (pn : Int) := by omega
          clear hfs hos hp hpn hcellW hsW
          go_wp2
          go_ret
          exact ⟨rfl, Hbel.out⟩
        · have hI : ¬ (500 : Int) < (pn : Int) := by omega
          have hps2 : ∀ q ∈ L.take (k + 1), q.length ≤ 500 := by
            intro q hq
            rw [List.take_add_one, hp] at hq
            rcases List.mem_append.1 hq with hq | hq
            · exact HPS.out q hq
            · simp at hq; subst hq; omega
          have HP2 := Lib.hid hps2
          have tok1 : True := trivial
          have HPN := Lib.hid hpn
          have hps3 : (pn : Int) ≤ 500 := by omega
          have HE1 := Lib.hid (show O1.length + pn = (O1 ++ p).length by rw [List.length_append, hpn])
          by_cases h0 : pn = 0
          · subst h0
            obtain rfl : p = [] := List.eq_nil_of_length_eq_zero hpn
            rw [oddP_nil, List.append_nil] at hos
            have HF := Lib.hid hfs
            have HO := Lib.hid hos
            clear hfs hos hp hpn hcellW h500 hps2
            go_wp2_with (at_builtin; refine wpList_appW u8_ty rfl _ _ rfl W0 _ _ _ rfl HTW.out.o1 w.heap.size _ _ _ _ rfl HS.out (bytesV_one []) (by omega) (by simp only [maxLen]; omega) hlo ?_; intro v3 w3 hown3 hgr3 hmv3; rw [← bytesV_append] at hown3; have T3 := Lib.hid (HTW.out.first hown3 HE1.out hgr3 hmv3); have B3 := Lib.hid (Hbel.out.grown hgr3 hB (fun g hg => by have := (HTW.out.o1.lt g hg).1; omega)); have l3 := Lib.hid (Nat.le_trans hlo hgr3.size); have k3 := (B3.out.cell (p := ⟨b0, off + k, none⟩) hb0).trans ((Hbel.out.cell (p := ⟨b0, off + k, none⟩) hb0).symm.trans hcell); clear hown3 hgr3 hmv3)
            go_roundw
            case rel => exact ⟨k + 1, by go_num, by omega, HP2.out, by rw [HF.out, HO.out]; exact T3.out, l3.out, B3.out⟩
            case measure => simp [intOf]; omega
          · have h0I : (0 : Int) < (pn : Int) := by omega
            rw [oddP_of (by omega), hpn] at hos
            have hD7 := hexd_short 6 pn (by omega) (by omega)
            have hD13 := (hex_digs pn (by omega)).2.2
            obtain ⟨D, hD⟩ : ∃ D, digs 16 64 pn = D := ⟨_, rfl⟩
            rw [hD] at hos hD7 hD13
            have hE : encL [p] = D ++ 13 :: (10 :: (p ++ [13, 10]) ++ [48, 13, 10, 13, 10]) := by
              unfold encL
              rw [List.flatMap_cons, List.flatMap_nil, List.append_nil, encP_of (by omega), hpn, hD]
              simp
            obtain ⟨E, hEE⟩ : ∃ E, encL [p] = E := ⟨_, rfl⟩
            have REN := fun (W : World) (hb : Below w.heap.size w W) => renc_any (some ⟨b0, off + k, none⟩) 1 (c - k) [p] [.slice A' pn c'] W (by
              have h1 := ((Hin.out.below hb).more hb.size).sub (a := k) (b := k + 1) (by omega) (by omega) (some ⟨b0, off + k, none⟩) (fun _ => by simp [add_plain])
              rw [show k + 1 - k = 1 by omega] at h1
              refine ⟨rfl, by omega, h1.2.2.1, fun _ => ⟨b0, off + k, rfl, Nat.lt_of_lt_of_le hb0 hb.size, fun j u hu => ?_⟩⟩
              match j with
              | 0 => simp only [List.getElem?_cons_zero, Option.some.injEq] at hu; subst hu; exact hcellW W hb
              | j + 1 => simp at hu) (pieces_one ((hsW W hb).more hb.size)) (by omega) (by simp [IH.total, hpn]; omega)
            rw [hEE] at REN hE
            have hE0 : 0 < E.length := by rw [hE]; simp only [List.length_append, List.length_cons]; omega
            have HE := Lib.hid hE
            have HF := Lib.hid hfs
            have HO : Hid ((L.take (k + 1)).flatMap (oddP Z) = ((((O2 ++ Z) ++ D) ++ [32, 59, 120, 61, 34, 121, 34, 13, 10]) ++ p) ++ [13, 10]) := Lib.hid (by rw [hos]; simp)
            replace REN := Lib.hid REN
            have HE0 := Lib.hid hE0
            have HD13 := Lib.hid hD13
            have hca : ¬ c = k := by omega
            have jk1 : (k : Int) + 1 ≤ (n : Int) := by omega
            have jk2 : ((k : Int) + 1).toNat = k + 1 := by omega
            have jk3 : k + 1 ≤ c := by omega
            have jk4 : k + 1 - k = 1 := by omega
            have HZl2 := Lib.hid (show O2.length + ZB.size = (O2 ++ Z).length by rw [List.length_append, ← HZd.out, data_len])
            clear hfs hos hp hpn h500 hps2 hD hE hEE hE0 hD13
            obtain ⟨DL, hDL⟩ : ∃ DL, D.length = DL := ⟨_, rfl⟩
            have HDL := Lib.hid hDL
            rw [hDL] at hD7
            clear hDL
            go_upto_region 14 with (first
              | (at_builtin; have _t := tok1; refine wpList_appW u8_ty rfl _ _ rfl W0 _ _ _ rfl HTW.out.o1 w.heap.size _ _ _ _ rfl HS.out (bytesV_one p) (by omega) (by simp only [maxLen]; omega) hlo ?_; intro v3 w3 hown3 hgr3 hmv3; rw [← bytesV_append] at hown3; have T3 := Lib.hid (HTW.out.first hown3 HE1.out hgr3 hmv3); have B3 := Lib.hid (Hbel.out.grown hgr3 hB (fun g hg => by have := (HTW.out.o1.lt g hg).1; omega)); have l3 := Lib.hid (Nat.le_trans hlo hgr3.size); have k3 := hcellW w3 B3.out; clear hown3 hgr3 hmv3 tok1 _t; have tok2 : True := trivial)
              | (go_at_call 26; have _t := tok2; (with_reducible refine (REN.out w3 B3.out).mono ?_); rintro e' w4 ⟨v4, rfl, ho4, hb4⟩; have T4 := Lib.hid (T3.out.below hb4); have B4 := Lib.hid (below_step B3.out hb4); have l4 := Lib.hid (Nat.le_trans l3.out hb4.size); obtain ⟨g4, c4, rfl, hg4, _⟩ := own_some ho4 HE0.out; have S4 : Hid (Two w4 W0 (.slice (some ⟨g4, 0, none⟩) E.length c4) _ E O2) := Lib.hid ⟨own_low ho4 l3.out, T4.out.o2, fun q hq hv => by have h1 := (T3.out.o2.lt q hv).2; have h2 := (ho4.lt q hq).1; omega⟩; clear ho4 hb4 tok2 _t hg4; have tok3 : True := trivial)
              | (at_builtin; have _t := tok3; refine wpList_app_strW rfl _ _ rfl W0 _ _ O2 rfl T4.out.o2 _ rfl (by omega) l4.out ?_; intro v5 w5 hown5 hgr5 hmv5; rw [HZd.out] at hown5; have T5 := Lib.hid (T4.out.second hown5 HZl2.out hgr5 hmv5); have S5 := Lib.hid (S4.out.second hown5 HZl2.out hgr5 hmv5); have B5 := Lib.hid (B4.out.grown hgr5 B4.out.size (fun g hg => by have := (T4.out.o2.lt g hg).1; omega)); have l5 := Lib.hid (Nat.le_trans l4.out hgr5.size); clear hown5 hgr5 hmv5 tok3 _t))
            have hOz : (O2 ++ Z).length ≤ 15910 := by rw [← HZl2.out]; omega
            obtain ⟨Oz, hOzz⟩ : ∃ O, O2 ++ Z = O := ⟨_, rfl⟩
            rw [hOzz] at T5 S5 HO hOz
            clear T3 B3 l3 T4 S4 B4 l4 REN HTW HE1 HZl2 hOzz k3
            go_wp2_with fail
            go_loopw [8, 12] (fun u q wr => ∃ j : Nat, q = .int .i64 j ∧ j ≤ DL ∧ Two wr W0 v3 u (O1 ++ p) (Oz ++ D.take j) ∧ Two wr W0 (.slice (some ⟨g4, 0, none⟩) E.length c4) u E (Oz ++ D.take j) ∧ W0 ≤ wr.heap.size ∧ Below w.heap.size w wr) (fun _ q _ => DL - (intOf q).toNat)
            case atStart => exact ⟨0, rfl, by omega, by simpa using T5.out, by simpa using S5.out, l5.out, B5.out⟩
            case round =>
              clear T5 S5 B5 l5
              obtain ⟨j, rfl, hj, t6, s6, l6, b6⟩ := hrel
              have T6 := Lib.hid t6
              have S6 := Lib.hid s6
              have B6 := Lib.hid b6
              have hDE : E.length = DL + 1 + (10 :: (p ++ [13, 10]) ++ [48, 13, 10, 13, 10]).length := by rw [HE.out, List.length_append, List.length_cons, HDL.out]; omega
              have hjE : j < E.length := by omega
              obtain ⟨x, hx⟩ : ∃ x, E[j]? = some x := ⟨_, List.getElem?_eq_getElem hjE⟩
              obtain ⟨b9, o9, e9, _, hc9⟩ := (SliceIn.of_own S6.out.o1).2.2.2 (by omega)
              simp only [Option.some.injEq, Addr.mk.injEq, and_true] at e9
              obtain ⟨rfl, rfl⟩ := e9
              have c9 := hc9 j (.int .u8 x.toNat) (by rw [bytesV_get, hx]; rfl)
              rw [Nat.zero_add] at c9
              have jI : (j : Int) < (E.length : Int) := by omega
              clear t6 s6 b6 hc9 hDE
              by_cases hjd : j < DL
              · have hxD : D[j]? = some x := by rw [HE.out, List.getElem?_append_left (by rw [HDL.out]; exact hjd)] at hx; exact hx
                have hne : x ≠ 13 := (HD13.out x (List.mem_of_getElem? hxD)).2
                have e13 : ((x.toNat : Int) == 13) = false := by rw [beq_eq_false_iff_ne]; intro h; exact hne (UInt8.toNat_inj.1 (by have : (13 : UInt8).toNat = 13 := rfl; omega))
                have n13 : ((x.toNat : Int) != 13) = true := by rw [bne, e13]; rfl
                have HTK := Lib.hid (show Oz ++ D.take (j + 1) = (Oz ++ D.take j) ++ [x] by rw [List.take_add_one, hxD]; simp)
                have hll : (Oz ++ D.take j).length ≤ 15920 := by rw [List.length_append, List.length_take]; omega
                have HLL := Lib.hid (show (Oz ++ D.take j).length + 1 = ((Oz ++ D.take j) ++ [x]).length from (@List.length_append _ (Oz ++ D.take j) [x]).symm)
                obtain ⟨Oj, hOj⟩ : ∃ O, Oz ++ D.take j = O := ⟨_, rfl⟩
                rw [hOj] at T6 S6 HTK HLL hll
                clear hx hxD hne hOj
                have HN1 : Hid (SliceIn (wr.alloc (.cells #[.int .u8 x.toNat] 5)) (wr.heap.size + 1) 1 (some ⟨wr.heap.size, 0, none⟩) 1 1 (bytesV [x])) := Lib.hid (((RowAt.new wr 5 (bytesV [x])).slice (size := 1) (n := 1) (c := 1) rfl (Nat.le_refl _) (by simp [maxLen])).more (by simp))
                have HA := Lib.hid (below_al wr (.cells #[.int .u8 x.toNat] 5))
                have T6a := Lib.hid (T6.out.below HA.out)
                have S6a := Lib.hid (S6.out.below HA.out)
                have B6a := Lib.hid (below_step B6.out HA.out)
                have la : W0 ≤ (wr.alloc (.cells #[.int .u8 x.toNat] 5)).heap.size := Nat.le_trans l6 HA.out.size
                have L6 := Lib.hid la
                clear la l6
                go_wp2_with (at_builtin; (refine wpList_appW u8_ty rfl _ _ rfl W0 _ _ _ rfl T6a.out.o2 (wr.heap.size + 1) _ _ _ _ rfl HN1.out (bytesV_one [x]) (by omega) (by simp only [maxLen]; omega) L6.out ?_; intro v7 w7 hown7 hgr7 hmv7; rw [← bytesV_append] at hown7; have T7 := Lib.hid (T6a.out.second hown7 HLL.out hgr7 hmv7); have S7 := Lib.hid (S6a.out.second hown7 HLL.out hgr7 hmv7); have B7 := Lib.hid (B6a.out.grown hgr7 B6a.out.size (fun g hg => by have := (T6a.out.o2.lt g hg).1; omega)); have L7 := Lib.hid (Nat.le_trans L6.out hgr7.size); clear hown7 hgr7 hmv7))
                go_roundw
                case rel => exact ⟨j + 1, by go_num, by omega, by rw [HTK.out]; exact T7.out, by rw [HTK.out]; exact S7.out, L7.out, B7.out⟩
                case measure => simp [intOf]; omega
              · obtain rfl : j = DL := by omega
                have hx13 : x = 13 := by
                  rw [HE.out, List.getElem?_append_right (by rw [HDL.out]; exact Nat.le_refl _), HDL.out, Nat.sub_self] at hx
                  simpa using hx.symm
                subst hx13
                have e13 : (((13 : UInt8).toNat : Int) == 13) = true := rfl
                have n13 : (((13 : UInt8).toNat : Int) != 13) = false := rfl
                have hTk : D.take j = D := List.take_of_length_le (by rw [HDL.out]; exact Nat.le_refl _)
                rw [hTk] at T6
                have hl3 : (Oz ++ D).length ≤ 15920 := by rw [List.length_append, HDL.out]; omega
                obtain ⟨O3, hO3⟩ : ∃ O, Oz ++ D = O := ⟨_, rfl⟩
                rw [hO3] at T6 HO hl3
                have HE4 := Lib.hid (show O3.length + 9 = (O3 ++ [32, 59, 120, 61, 34, 121, 34, 13, 10]).length from (@List.length_append _ O3 [32, 59, 120, 61, 34, 121, 34, 13, 10]).symm)
                have hl4 : (O3 ++ [32, 59, 120, 61, 34, 121, 34, 13, 10]).length ≤ 15930 := by rw [← HE4.out]; omega
                have HE5 := Lib.hid (show (O3 ++ [32, 59, 120, 61, 34, 121, 34, 13, 10]).length + pn = ((O3 ++ [32, 59, 120, 61, 34, 121, 34, 13, 10]) ++ p).length by rw [← HPN.out]; exact (@List.length_append _ (O3 ++ [32, 59, 120, 61, 34, 121, 34, 13, 10]) p).symm)
                have hl5 : ((O3 ++ [32, 59, 120, 61, 34, 121, 34, 13, 10]) ++ p).length ≤ 16500 := by rw [← HE5.out]; omega
                have HE6 := Lib.hid (show ((O3 ++ [32, 59, 120, 61, 34, 121, 34, 13, 10]) ++ p).length + 2 = (((O3 ++ [32, 59, 120, 61, 34, 121, 34, 13, 10]) ++ p) ++ [13, 10]).length from (@List.length_append _ ((O3 ++ [32, 59, 120, 61, 34, 121, 34, 13, 10]) ++ p) [13, 10]).symm)
                have X6 := Lib.hid (hsW wr B6.out)
                have L6 := Lib.hid l6
                clear hx hTk hO3 S6 HPS l6
                have tokA : True := trivial
                go_wp2_with (first
                  | (at_builtin; have _t := tokA; refine wpList_app_strW rfl _ _ rfl W0 _ _ O3 rfl T6.out.o2 _ rfl (by show O3.length + 9 ≤ 140737488355328; omega) L6.out ?_; intro v7 w7 hown7 hgr7 hmv7; have T7 := Lib.hid (T6.out.second (b' := O3 ++ [32, 59, 120, 61, 34, 121, 34, 13, 10]) hown7 HE4.out hgr7 hmv7); have B7 := Lib.hid (B6.out.grown hgr7 B6.out.size (fun g hg => by have := (T6.out.o2.lt g hg).1; omega)); have L7 := Lib.hid (Nat.le_trans L6.out hgr7.size); have X7 := Lib.hid (hsW w7 B7.out); have k7 := hcellW w7 B7.out; clear hown7 hgr7 hmv7 tokA _t; have tokB : True := trivial)
                  | (at_builtin; have _t := tokB; refine wpList_appW u8_ty rfl _ _ rfl W0 _ _ _ rfl T7.out.o2 w.heap.size _ _ _ _ rfl X7.out (bytesV_one p) (by omega) (by simp only [maxLen]; omega) L7.out ?_; intro v8 w8 hown8 hgr8 hmv8; rw [← bytesV_append] at hown8; have T8 := Lib.hid (T7.out.second hown8 HE5.out hgr8 hmv8); have B8 := Lib.hid (B7.out.grown hgr8 B7.out.size (fun g hg => by have := (T7.out.o2.lt g hg).1; omega)); have L8 := Lib.hid (Nat.le_trans L7.out hgr8.size); clear hown8 hgr8 hmv8 tokB _t; have tokC : True := trivial)
                  | (at_builtin; have _t := tokC; refine wpList_app_strW rfl _ _ rfl W0 _ _ ((O3 ++ [32, 59, 120, 61, 34, 121, 34, 13, 10]) ++ p) rfl T8.out.o2 _ rfl (by show ((O3 ++ [32, 59, 120, 61, 34, 121, 34, 13, 10]) ++ p).length + 2 ≤ 140737488355328; omega) L8.out ?_; intro v9 w9 hown9 hgr9 hmv9; have T9 := Lib.hid (T8.out.second (b' := ((O3 ++ [32, 59, 120, 61, 34, 121, 34, 13, 10]) ++ p) ++ [13, 10]) hown9 HE6.out hgr9 hmv9); have B9 := Lib.hid (B8.out.grown hgr9 B8.out.size (fun g hg => by have := (T8.out.o2.lt g hg).1; omega)); have L9 := Lib.hid (Nat.le_trans L8.out hgr9.size); clear hown9 hgr9 hmv9 tokC _t))
                go_roundw
                case rel =>
                  have hT := T9.out
                  rw [← HO.out, ← HF.out] at hT
                  exact ⟨k + 1, by go_num, by omega, HP2.out, hT, L9.out, B9.out⟩
                case measure => simp [intOf]; omega
      · obtain rfl : k = n := by omega
        rw [List.take_of_length_le (by rw [HL.out]; exact Nat.le_refl _)] at HTW HPS
        obtain ⟨g1, g2⟩ := flat_le 500 L HPS.out
        have g3 := odd_le Z hZl L HPS.out
        rw [HL.out] at g1 g2 g3
        have hp9 : ∀ p ∈ L, p.length ≤ 10000000 := fun p hp => by have := HPS.out p hp; omega
        have hEl := encL_len L hp9
        rw [HL.out] at hEl
        have hE0 : 0 < (encL L).length := by unfold encL; rw [List.length_append]; simp only [List.length_cons, List.length_nil]; omega
        have dec1 : decodeL (encL L ++ T) = (L.flatten, (encL L).length, 0) := by
          unfold decodeL
          rw [enc_back L T (by omega)]
          simp [end4]
        have hQ : oddL Z L = L.flatMap (oddP Z) ++ oddEnd := rfl
        have dec2 : decodeL (oddL Z L ++ T) = (L.flatten, (oddL Z L).length, 0) := by
          unfold decodeL
          rw [← HZ.out, odd_back z hz4 L T (by omega) (fun p hp => by have := HPS.out p hp; omega)]
          simp [end4]
        rw [hQ] at dec2
        have EN := fun (W : World) (hb : Below w.heap.size w W) => enc_any A k c L V W ((Hin.out.below hb).more hb.size) ((HR.out.below hb).more hb.size) (by omega) (by omega)
        have RE := fun (W : World) (hb : Below w.heap.size w W) => renc_any A k c L V W ((Hin.out.below hb).more hb.size) ((HR.out.below hb).more hb.size) (by omega) (by omega)
        obtain ⟨E, hE⟩ : ∃ E, encL L = E := ⟨_, rfl⟩
        obtain ⟨F, hF⟩ : ∃ F, L.flatten = F := ⟨_, rfl⟩
        obtain ⟨O2, hO2⟩ : ∃ O, L.flatMap (oddP Z) = O := ⟨_, rfl⟩
        rw [hE] at EN RE dec1 hEl hE0
        rw [hF] at dec1 dec2 HTW g1
        rw [hO2] at dec2 HTW g3
        obtain ⟨Q, hQQ⟩ : ∃ Q, O2 ++ oddEnd = Q := ⟨_, rfl⟩
        rw [hQQ] at dec2
        have hQl : O2.length + 15 = Q.length := by rw [← hQQ]; exact (@List.length_append _ O2 oddEnd).symm
        have HQL := Lib.hid hQl
        have HQ := Lib.hid hQQ
        have hQb : Q.length ≤ 16000 := by omega
        have hEb : E.length ≤ 16000 := by omega
        have hmb : m ≤ 300 := by omega
        have DE1 := fun (g cap : Nat) (W : World) (hB : Below w.heap.size w W) (hg : g < W.heap.size) (hi : SliceIn W W.heap.size 1 (some ⟨g, 0, none⟩) (E.length + m) cap (bytesV (E ++ T))) => decode_any g 0 (E.length + m) cap (E ++ T) W (shaped_below Hsh.out hB) hi hg (by omega)
        have DE2 := fun (g cap : Nat) (W : World) (hB : Below w.heap.size w W) (hg : g < W.heap.size) (hi : SliceIn W W.heap.size 1 (some ⟨g, 0, none⟩) (Q.length + m) cap (bytesV (Q ++ T))) => decode_any g 0 (Q.length + m) cap (Q ++ T) W (shaped_below Hsh.out hB) hi hg (by omega)
        rw [dec1] at DE1
        rw [dec2] at DE2
        simp only at DE1 DE2
        replace EN := Lib.hid EN
        replace RE := Lib.hid RE
        replace DE1 := Lib.hid DE1
        replace DE2 := Lib.hid DE2
        have HE0 := Lib.hid hE0
        have hl2 : O2.length ≤ 15900 := by omega
        clear g1 g2 g3 hp9 hEl hE0 dec1 dec2 hQ hE hF hO2 hQQ hQl hlt HPS HZ
        have tok1 : True := trivial
        go_upto_region 22 with (first
          | (go_at_call 27; (with_reducible refine (EN.out w0 Hbel.out).mono ?_); rintro e' w3 ⟨v3, rfl, ho3, hb3⟩; have T3 := Lib.hid (HTW.out.below hb3); have B3 := Lib.hid (below_step Hbel.out hb3); have l3 := Lib.hid (Nat.le_trans hlo hb3.size); obtain ⟨g3, c3, rfl, _, _⟩ := own_some ho3 HE0.out; have S3 : Hid (Two w3 W0 (.slice (some ⟨g3, 0, none⟩) E.length c3) u8 E O2) := Lib.hid ⟨own_low ho3 hlo, T3.out.o2, fun q hq hv => by have h1 := (HTW.out.o2.lt q hv).2; have h2 := (ho3.lt q hq).1; omega⟩; have X3 := Lib.hid ((SliceIn.of_own ho3).alloc (Nat.le_refl _) (.cells #[] 5)); have Hlit := Lib.hid (World.ownsRow_lit (base := w3.heap.size) (e := 5) (size := 1) w3 #[] 0 (Nat.le_refl _) (by simp [maxLen]) rfl); clear ho3 hb3)
          | (at_builtin; have _t := tok1; refine wpList_appN u8_ty rfl _ _ rfl w3.heap.size _ 0 [] rfl Hlit.out (by intro h; cases h) w3.heap.size _ _ _ _ rfl X3.out (bytesV_one E) (by omega) (by simp only [maxLen]; omega) (by simp) ?_; intro g5 cap5 w5 hown5 hgr5; rw [Nat.zero_add, List.nil_append] at hown5; simp only [Nat.zero_add]; have E5 := Lib.hid ((below_al w3 (.cells #[] 5)).grown hgr5 (by simp) (fun q hq => (Hlit.out.lt q hq).1)); have O5 := Lib.hid hown5; have Y5 := Lib.hid ((Hin2.out.below (B3.out.trans (E5.out.mono B3.out.size)))); clear hown5 hgr5 tok1 _t; have tok2 : True := trivial)
          | (at_builtin; have _t := tok2; refine wpList_appN u8_ty rfl _ _ rfl w3.heap.size _ E.length (bytesV E) rfl O5.out (by intro h; cases h) w.heap.size A2 m c2 (bytesV T) rfl Y5.out (bytesV_one T) (by omega) (by simp only [maxLen]; omega) E5.out.size ?_; intro g6 cap6 w6 hown6 hgr6; rw [← bytesV_append] at hown6; have E6 := Lib.hid (E5.out.grown hgr6 E5.out.size (fun q hq => (O5.out.lt q hq).1)); have B6 := Lib.hid (below_step B3.out E6.out); have D6 := Lib.hid (DE1.out g6 cap6 w6 B6.out (hown6.lt g6 rfl).2 (SliceIn.of_own hown6)); have T6 := Lib.hid (T3.out.below E6.out); have S6 := Lib.hid (S3.out.below E6.out); have l6 := Lib.hid (Nat.le_trans l3.out E6.out.size); clear hown6 hgr6 tok2 _t O5 Y5 E5)
          | (go_at_call 25; (with_reducible refine D6.out.mono ?_); rintro e' w7 ⟨v7, rfl, ho7, hb7⟩; have T7 := Lib.hid (T6.out.below hb7); have S7 := Lib.hid (S6.out.below hb7); have B7 := Lib.hid (below_step B6.out hb7); have l7 := Lib.hid (Nat.le_trans l6.out hb7.size); have R7 : Hid (Two w7 W0 v7 u8 F O2) := Lib.hid ⟨own_low ho7 l6.out, T7.out.o2, fun q hq hv => by have h1 := (T6.out.o2.lt q hv).2; have h2 := (ho7.lt q hq).1; omega⟩; clear ho7 hb7))
        clear T3 S3 B3 l3 X3 Hlit E6 B6 D6 T6 S6 l6 EN DE1 HTW hlo
        go_upto_region 23 with (at_builtin; refine wpList_app_strW rfl _ _ rfl W0 _ _ O2 rfl T7.out.o2 _ rfl (by show O2.length + 15 ≤ 140737488355328; omega) l7.out ?_; intro v8 w8 hown8 hgr8 hmv8; have T8 := Lib.hid (T7.out.second (b' := O2 ++ oddEnd) hown8 (by rw [HQ.out]; exact HQL.out) hgr8 hmv8); have S8 := Lib.hid (S7.out.second (b' := O2 ++ oddEnd) hown8 (by rw [HQ.out]; exact HQL.out) hgr8 hmv8); have R8 := Lib.hid (R7.out.second (b' := O2 ++ oddEnd) hown8 (by rw [HQ.out]; exact HQL.out) hgr8 hmv8); rw [HQ.out] at T8 S8 R8; have B8 := Lib.hid (B7.out.grown hgr8 B7.out.size (fun g hg => by have := (T7.out.o2.lt g hg).1; omega)); have l8 := Lib.hid (Nat.le_trans l7.out hgr8.size); clear hown8 hgr8 hmv8)
        obtain ⟨A7, c7, rfl, _⟩ := own_slice R8.out.o1
        obtain ⟨A8, c8, rfl, _⟩ := own_slice T8.out.o2
        obtain ⟨A1, c1, rfl, _⟩ := own_slice T8.out.o1
        have X8 := Lib.hid ((SliceIn.of_own T8.out.o2).alloc (Nat.le_refl _) (.cells #[] 5))
        have Hlit := Lib.hid (World.ownsRow_lit (base := w8.heap.size) (e := 5) (size := 1) w8 #[] 0 (Nat.le_refl _) (by simp [maxLen]) rfl)
        clear T7 S7 R7 B7 l7
        have tok3 : True := trivial
        go_upto_region 24 with (first
          | (at_builtin; have _t := tok3; refine wpList_appN u8_ty rfl _ _ rfl w8.heap.size _ 0 [] rfl Hlit.out (by intro h; cases h) w8.heap.size _ _ _ _ rfl X8.out (bytesV_one Q) (by omega) (by simp only [maxLen]; omega) (by simp) ?_; intro g5 cap5 w9 hown5 hgr5; rw [Nat.zero_add, List.nil_append] at hown5; simp only [Nat.zero_add]; have E5 := Lib.hid ((below_al w8 (.cells #[] 5)).grown hgr5 (by simp) (fun q hq => (Hlit.out.lt q hq).1)); have O5 := Lib.hid hown5; have Y5 := Lib.hid ((Hin2.out.below (B8.out.trans (E5.out.mono B8.out.size)))); clear hown5 hgr5 tok3 _t; have tok4 : True := trivial)
          | (at_builtin; have _t := tok4; refine wpList_appN u8_ty rfl _ _ rfl w8.heap.size _ Q.length (bytesV Q) rfl O5.out (by intro h; cases h) w.heap.size A2 m c2 (bytesV T) rfl Y5.out (bytesV_one T) (by omega) (by simp only [maxLen]; omega) E5.out.size ?_; intro g6 cap6 w10 hown6 hgr6; rw [← bytesV_append] at hown6; have E6 := Lib.hid (E5.out.grown hgr6 E5.out.size (fun q hq => (O5.out.lt q hq).1)); have B10 := Lib.hid (below_step B8.out E6.out); have D6 := Lib.hid (DE2.out g6 cap6 w10 B10.out (hown6.lt g6 rfl).2 (SliceIn.of_own hown6)); have T10 := Lib.hid (T8.out.below E6.out); have S10 := Lib.hid (S8.out.below E6.out); have R10 := Lib.hid (R8.out.below E6.out); clear hown6 hgr6 tok4 _t O5 Y5 E5)
          | (go_at_call 25; (with_reducible refine D6.out.mono ?_); rintro e' w11 ⟨v11, rfl, ho11, hb11⟩; have T11 := Lib.hid (SliceIn.of_own (T10.out.below hb11).o1); have S11 := Lib.hid (SliceIn.of_own (S10.out.below hb11).o1); have R11 := Lib.hid (SliceIn.of_own (R10.out.below hb11).o1); have B11 := Lib.hid (below_step B10.out hb11); obtain ⟨A11, c11, rfl, hs11⟩ := own_slice ho11; have Y11 := Lib.hid hs11; clear ho11 hb11 hs11))
        clear T8 S8 R8 B8 l8 X8 Hlit E6 B10 D6 T10 S10 R10 DE2
        refine wp_region_plan (fun W => Below w11.heap.size w11 W) [(0, true), (1, true), (2, true), (3, false), (4, false), (5, true), (6, true), (7, true), (8, true), (9, true), (10, true), (11, true), (12, true), (13, true), (14, true), (15, true), (16, true), (17, true), (18, true), (19, true), (20, true), (21, true), (22, true), (23, true), (24, true), (25, true), (26, true), (27, true), (28, true), (29, true), (30, true), (31, true), (32, true), (33, true), (34, true), (35, true), (36, true), (37, true), (38, true), (39, true), (40, true)] (by kernel_rfl) (by kernel_rfl) rfl (by kernel_rfl) (below_drewN (Below.refl _ _) 1) ?_
        intro w1 hH
        iterate 3
          refine plan_take (v := ?_) rfl (by rfl) ?_ ?_
          rotate_left
          · intro w2 hSw
            have q1 := run_string_of (P := Tryd.prog) (S11.out.below hSw) 22 9 5 Tryd.underlying22 Tryd.underlying5 Tryd.underlying9
            have q2 := run_string_of (P := Tryd.prog) (R11.out.below hSw) 22 9 5 Tryd.underlying22 Tryd.underlying5 Tryd.underlying9
            have q3 := run_string_of (P := Tryd.prog) (T11.out.below hSw) 22 9 5 Tryd.underlying22 Tryd.underlying5 Tryd.underlying9
            have q4 := run_string_of (P := Tryd.prog) (Y11.out.below hSw) 22 9 5 Tryd.underlying22 Tryd.underlying5 Tryd.underlying9
            clear hSw
            go_simp
            try with_reducible rfl
          try simp only [Act.put, List.setIfInBounds_toArray, List.set_cons_zero, List.set_cons_succ]
        refine plan_move rfl (by rfl) (fun K hK => ?_)
        go_simp
        (with_reducible refine (RE.out _ (B11.out.trans (hH.out.mono B11.out.size))).mono ?_)
        rintro e' w12 ⟨v12, rfl, ho12, hb12⟩
        obtain ⟨A12, c12, rfl, hs12⟩ := own_slice ho12
        refine hK.out _ _ (below_step hH.out hb12) ?_
        have q5 := run_string_of (P := Tryd.prog) hs12 22 9 5 Tryd.underlying22 Tryd.underlying5 Tryd.underlying9
        clear hH hK hb12 ho12 hs12
        intro hH
        try simp only [Act.put, List.setIfInBounds_toArray, List.set_cons_zero, List.set_cons_succ]
        refine plan_move rfl (by rfl) (fun K hK => ?_)
        go_simp
        skip
        refine hK.out _ _ (hH.out) ?_
        clear q5 hH hK
        intro hH
        try simp only [Act.put, List.setIfInBounds_toArray, List.set_cons_zero, List.set_cons_succ]
        iterate 36
          refine plan_take (v := ?_) rfl (by rfl) ?_ ?_
          rotate_left
          · intro w2 hSw
            have q1 := run_string_of (P := Tryd.prog) (S11.out.below hSw) 22 9 5 Tryd.underlying22 Tryd.underlying5 Tryd.underlying9
            have q2 := run_string_of (P := Tryd.prog) (R11.out.below hSw) 22 9 5 Tryd.underlying22 Tryd.underlying5 Tryd.underlying9
            have q3 := run_string_of (P := Tryd.prog) (T11.out.below hSw) 22 9 5 Tryd.underlying22 Tryd.underlying5 Tryd.underlying9
            have q4 := run_string_of (P := Tryd.prog) (Y11.out.below hSw) 22 9 5 Tryd.underlying22 Tryd.underlying5 Tryd.underlying9
            clear hSw
            go_simp
            try with_reducible rfl
          try simp only [Act.put, List.setIfInBounds_toArray, List.set_cons_zero, List.set_cons_succ]
        refine plan_done ?_
        have hH2 := Lib.hid (B11.out.trans (hH.out.mono B11.out.size))
        clear hH
        go_wp2
        go_ret
        exact ⟨ret_bool (by simp), hH2.out⟩
end Go.Proofs.YtefoaldpllnijaaDoor
