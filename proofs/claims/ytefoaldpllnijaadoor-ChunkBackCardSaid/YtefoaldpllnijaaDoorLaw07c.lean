/- Layer 7's laws: ChunkSingles, walked. Condition: the world's shape. -/
import Derived.Test.YtefoaldpllnijaaDoorLaw07a
import Derived.Test.YtefoaldpllnijaaDoorCk
namespace Go.Proofs.YtefoaldpllnijaaDoor
open Go.RowKit IH
set_option maxRecDepth 100000
theorem pieces_snoc {w : World} {B : Nat} {L : List (List UInt8)} {V : List Value} {A : Option Addr} {n c : Nat} {p : List UInt8} (h : PiecesR w B L V) (hs : SliceIn w B 1 A n c (bytesV p)) : PiecesR w B (L ++ [p]) (V ++ [.slice A n c]) := by
  refine ⟨by simp [h.1], fun i l hl => ?_⟩
  rcases Nat.lt_or_ge i L.length with hi | hi
  · rw [List.getElem?_append_left hi] at hl
    obtain ⟨A', n', c', h1, h2⟩ := h.2 i l hl
    exact ⟨A', n', c', by rw [List.getElem?_append_left (by rw [h.1]; exact hi)]; exact h1, h2⟩
  · rw [List.getElem?_append_right hi] at hl
    have : i - L.length = 0 := by
      rcases Nat.eq_zero_or_pos (i - L.length) with h0 | h0
      · exact h0
      · rw [List.getElem?_eq_none (by simp; omega)] at hl; cases hl
    rw [this] at hl
    simp only [List.getElem?_cons_zero, Option.some.injEq] at hl
    subst hl
    exact ⟨A, n, c, by rw [List.getElem?_append_right (by rw [h.1]; exact hi), h.1, this]; rfl, hs⟩
theorem pieces_one {w : World} {B : Nat} {A : Option Addr} {n c : Nat} {p : List UInt8} (hs : SliceIn w B 1 A n c (bytesV p)) : PiecesR w B [p] [.slice A n c] := by
  have := pieces_snoc (w := w) (B := B) (L := []) (V := []) ⟨rfl, fun i l h => by simp at h⟩ hs
  simpa using this
theorem encL_len (ps : List (List UInt8)) (h : ∀ p ∈ ps, p.length ≤ 10000000) : (encL ps).length ≤ IH.total ps + 11 * ps.length + 5 := by
  unfold encL
  have := enc_len ps h
  rw [List.length_append]
  simp only [List.length_cons, List.length_nil]
  omega
theorem sl_ty : SliceTy Tryd.prog 54 22 (.slice none 0 0) 1 24 := ⟨Tryd.underlying54, by kernel_rfl, rfl, by decide⟩
set_option maxHeartbeats 8000000 in
theorem csingles_walk (w : World) (hsh : w.ShapedOpen Tryd.prog) (A : Option Addr) (n c : Nat) (L : List UInt8) (hin : SliceIn w w.heap.size 1 A n c (bytesV L)) :
    Calls Tryd.prog 10 #[.slice A n c] w fun e w' => e = .returned (.bool true) ∧ Below w.heap.size w w' := by
  have AW := Lib.hid (fun w => awake07_any w)
  have hll : L.length = n := by have := hin.1; rw [bytesV_length, Nat.mul_one] at this; exact this
  have hnc := hin.2.1
  have Hsh := Lib.hid hsh
  have Hin := Lib.hid hin
  have Hll := Lib.hid hll
  clear hsh hin hll
  by_cases h5 : 800 < n
  · have h5I : (800 : Int) < (n : Int) := by omega
    go_enter Tryd.func10, Tryd.ntmps10
    go_wp2_with fail
    refine (AW.out _).mono ?_
    rintro e w2 ⟨rfl, hb2⟩
    have B2 := Lib.hid hb2; clear hb2
    go_wp2_with fail
    refine (AW.out _).mono ?_
    rintro e w3 ⟨rfl, hb3⟩
    have B3 := Lib.hid (below_step B2.out hb3); clear hb3
    go_wp2
    go_ret
    exact ⟨rfl, B3.out⟩
  · have h5I : (n : Int) ≤ (800 : Int) := by omega
    have h5N : n ≤ 800 := by omega
    clear h5
    go_enter Tryd.func10, Tryd.ntmps10
    go_wp2_with fail
    refine (AW.out _).mono ?_
    rintro e w2 ⟨rfl, hb2⟩
    have B2 := Lib.hid hb2; clear hb2
    have hs2 := B2.out.size
    go_wp2_with fail
    go_loopw [3, 4] (fun v i wr => ∃ (k : Nat) (V : List Value), i = .int .i64 k ∧ k ≤ n ∧ V.length = k ∧ (∀ u ∈ V, u.oneCell' = true) ∧ w2.heap.size ≤ wr.heap.size ∧ wr.ownsRow w2.heap.size 22 1 v k V ∧ PiecesR wr w.heap.size ((L.take k).map fun c => [c]) V ∧ Below w.heap.size w wr) (fun _ i _ => n - (intOf i).toNat)
    case atStart => exact ⟨0, [], rfl, by omega, rfl, by simp, Nat.le_refl _, World.ownsRow_nil _ _ _ _, ⟨rfl, fun i l h => by simp at h⟩, B2.out⟩
    case round =>
      obtain ⟨k, V, rfl, hk, hVl, hV1, hlo, hown, hpr, hbel⟩ := hrel
      have Hown := Lib.hid hown
      have Hpr := Lib.hid hpr
      have Hbel := Lib.hid hbel
      have hB := hbel.size
      clear hown hpr hbel
      by_cases hlt : k < n
      · obtain ⟨x, hx⟩ : ∃ x, L[k]? = some x := ⟨_, List.getElem?_eq_getElem (by rw [Hll.out]; exact hlt)⟩
        obtain ⟨b0, off, rfl, hb0, _⟩ := Hin.out.2.2.2 (by omega)
        have hca : ¬ c = k := by omega
        have hsub := (Hin.out.below Hbel.out).sub (a := k) (b := k + 1) (by omega) (by omega) (some ⟨b0, off + k, none⟩) (fun _ => by simp [add_plain])
        have e1 : k + 1 - k = 1 := by omega
        simp only [Nat.mul_one, e1] at hsub
        have hone : ((bytesV L).drop k).take 1 = bytesV [x] := by
          unfold bytesV
          rw [← List.map_drop, ← List.map_take]
          obtain ⟨g1, g2⟩ := List.getElem?_eq_some_iff.1 hx
          rw [List.drop_eq_getElem_cons g1, g2]; rfl
        rw [hone] at hsub
        have hmp : (L.take (k + 1)).map (fun c => [c]) = (L.take k).map (fun c => [c]) ++ [[x]] := by rw [List.take_add_one, hx]; simp
        have HP := Lib.hid (pieces_snoc Hpr.out hsub)
        rw [← hmp] at HP
        have i1 : (k : Int) + 1 ≤ (n : Int) := by omega
        have it : ((k : Int) + 1).toNat = k + 1 := by omega
        have j1 : k + 1 ≤ c := by omega
        clear hsub hone hmp hx hb0
        go_wp2_with (at_builtin; refine wpList_app sl_ty rfl _ _ rfl w2.heap.size _ _ _ rfl Hown.out 1 1 _ rfl (by rfl) (one1 _ rfl) (by omega) (by simp only [maxLen]; omega) hlo ?_; intro v3 w3 hown3 hgr3)
        go_roundw
        case rel =>
          have b3 := Hbel.out.grown hgr3 hB (fun g hg => by have := (Hown.out.lt g hg).1; omega)
          refine ⟨k + 1, _, by go_num, by omega, ?_, ?_, Nat.le_trans hlo hgr3.size, hown3, ?_, b3⟩
          · simp [hVl]
          · intro u hu
            rcases List.mem_append.1 hu with hu | hu
            · exact hV1 u hu
            · simp at hu; subst hu; rfl
          · exact HP.out.keep (fun p hp => World.cell?_of_block (hgr3.block p.block (by omega) (fun he => by have := (Hown.out.lt _ he.symm).1; omega)))
        case measure => simp [intOf]; omega
      · obtain rfl : k = n := by omega
        rw [List.take_of_length_le (by rw [Hll.out]; exact Nat.le_refl _)] at Hpr
        obtain ⟨A3, C3, rfl, hsl3⟩ := own_slice Hown.out
        have Hsl3 := Lib.hid hsl3
        obtain ⟨s1, s2, s3⟩ := singles L
        rw [Hll.out] at s2 s3
        obtain ⟨PS, hPS⟩ : ∃ PS, L.map (fun c => [c]) = PS := ⟨_, rfl⟩
        rw [hPS] at Hpr s1 s2 s3
        have hPSl : PS.length = k := by rw [← hPS, List.length_map, Hll.out]
        have h1 : ∀ p ∈ PS, p.length ≤ 10000000 := by
          intro p hp
          rw [← hPS] at hp
          obtain ⟨c, _, rfl⟩ := List.mem_map.1 hp
          simp
        have D2 := decode_enc PS (by rw [s2]; omega)
        have D1 := decode_enc [L] (by simp [IH.total, Hll.out]; omega)
        have e1 : ([L] : List (List UInt8)).flatten = L := by simp
        rw [s1] at D2
        rw [e1] at D1
        have hl1 := encL_len [L] (by intro p hp; simp at hp; subst hp; rw [Hll.out]; omega)
        have t1 : IH.total [L] = k := by simp [IH.total, Hll.out]
        rw [t1] at hl1
        obtain ⟨E1, hE1⟩ : ∃ E, encL [L] = E := ⟨_, rfl⟩
        obtain ⟨E2, hE2⟩ : ∃ E, encL PS = E := ⟨_, rfl⟩
        have EN2 := fun (W : World) (hb : Below w.heap.size w W) (hs : SliceIn W W.heap.size 1 A3 k C3 V) (hp : PiecesR W W.heap.size PS V) => enc_any A3 k C3 PS V W hs hp (by omega) (by rw [s2]; omega)
        have EN1 := fun (g : Nat) (W : World) (hs : SliceIn W W.heap.size 1 (some ⟨g, 0, none⟩) 1 1 [.slice A k c]) (hp : PiecesR W W.heap.size [L] [.slice A k c]) => enc_any (some ⟨g, 0, none⟩) 1 1 [L] _ W hs hp (by omega) (by rw [t1]; omega)
        rw [hE1] at EN1 D1 hl1
        rw [hE2] at EN2 D2 s3
        simp only [List.length_cons, List.length_nil] at hl1
        have DE1 := fun (g c' : Nat) (W : World) (hs : W.ShapedOpen Tryd.prog) (hi : SliceIn W W.heap.size 1 (some ⟨g, 0, none⟩) E1.length c' (bytesV E1)) (hg : g < W.heap.size) => decode_any g 0 E1.length c' E1 W hs hi hg (by omega)
        have DE2 := fun (g c' : Nat) (W : World) (hs : W.ShapedOpen Tryd.prog) (hi : SliceIn W W.heap.size 1 (some ⟨g, 0, none⟩) E2.length c' (bytesV E2)) (hg : g < W.heap.size) => decode_any g 0 E2.length c' E2 W hs hi hg (by omega)
        rw [D1] at DE1
        rw [D2] at DE2
        simp only at DE1 DE2
        have p1 : 0 < E1.length := by rw [← hE1]; unfold encL; simp
        have p2 : 0 < E2.length := by omega
        have hl2b : (E2.length : Int) = 6 * (k : Int) + 5 := by omega
        obtain ⟨l1, hl1e⟩ : ∃ l1, E1.length = l1 := ⟨_, rfl⟩
        obtain ⟨l2, hl2e⟩ : ∃ l2, E2.length = l2 := ⟨_, rfl⟩
        rw [hl1e] at DE1 EN1 p1
        rw [hl2e] at DE2 EN2 hl2b p2
        rw [Hll.out] at DE1 DE2
        replace EN1 := Lib.hid EN1
        replace EN2 := Lib.hid EN2
        replace DE1 := Lib.hid DE1
        replace DE2 := Lib.hid DE2
        have P1 := Lib.hid p1
        have P2 := Lib.hid p2
        clear s1 s2 s3 D1 D2 h1 hl1 hl1e hl2e hE1 hE2 hPS hPSl e1 t1 hsl3 p1 p2 hlt hV1 hVl
        have hw0 := RowAt.new wr 22 [.slice A k c]
        have Hnew := Lib.hid (hw0.slice (size := 1) (n := 1) (c := 1) rfl (Nat.le_refl _) (by simp [maxLen]))
        have Hone := Lib.hid (pieces_one (((Hin.out.below Hbel.out).alloc hB (.cells #[.slice A k c] 22)).more (show w.heap.size ≤ (wr.alloc (.cells #[.slice A k c] 22)).heap.size by simp; omega)))
        clear hw0
        have tok1 : True := trivial
        have tok3 : True := trivial
        go_upto_region 11 with (first
          | (go_at_call 27; have _t := tok1; (with_reducible refine (EN1.out _ _ Hnew.out Hone.out).mono ?_); rintro e' w4 ⟨v4, rfl, ho4, hb4⟩; have B4 := Lib.hid (below_al_step hb4); have L4 := Lib.hid (Hbel.out.trans (B4.out.mono hB)); obtain ⟨g4, c4, rfl, _, hs4⟩ := own_some ho4 P1.out; have S4 := Lib.hid hs4; have G4 := Lib.hid (ho4.lt g4 rfl).2; have l4 := B4.out.size; clear ho4 hb4 hs4 tok1 _t; have tok2 : True := trivial)
          | (go_at_call 27; have _t := tok2; (with_reducible refine (EN2.out w4 L4.out ((Hsl3.out.below B4.out).more l4) (((Hpr.out.keep (fun p hp => B4.out.cell (by omega))).more L4.out.size))).mono ?_); rintro e' w5 ⟨v5, rfl, ho5, hb5⟩; have L5 := Lib.hid (below_step L4.out hb5); obtain ⟨g5, c5, rfl, _, hs5⟩ := own_some ho5 P2.out; have S5 := Lib.hid hs5; have G5 := Lib.hid (ho5.lt g5 rfl).2; have X4 := Lib.hid ((S4.out.below hb5).more hb5.size); have H4 := Lib.hid (Nat.lt_of_lt_of_le G4.out hb5.size); clear ho5 hb5 hs5 tok2 _t)
          | (go_at_call 25; have _t := tok3; (with_reducible refine (DE1.out g4 c4 w5 (shaped_below Hsh.out L5.out) X4.out H4.out).mono ?_); rintro e' w6 ⟨v6, rfl, ho6, hb6⟩; have L6 := Lib.hid (below_step L5.out hb6); obtain ⟨A6, c6, rfl, hs6⟩ := own_slice ho6; have S6 := Lib.hid hs6; have X5 := Lib.hid ((S5.out.below hb6).more hb6.size); have H5 := Lib.hid (Nat.lt_of_lt_of_le G5.out hb6.size); clear ho6 hb6 hs6 tok3 _t; have tok4 : True := trivial)
          | (go_at_call 25; have _t := tok4; (with_reducible refine (DE2.out g5 c5 w6 (shaped_below Hsh.out L6.out) X5.out H5.out).mono ?_); rintro e' w7 ⟨v7, rfl, ho7, hb7⟩; have L7 := Lib.hid (below_step L6.out hb7); obtain ⟨A7, c7, rfl, hs7⟩ := own_slice ho7; have q1 := run_string_of (P := Tryd.prog) (S6.out.below hb7) 22 9 5 Tryd.underlying22 Tryd.underlying5 Tryd.underlying9; have q2 := run_string_of (P := Tryd.prog) hs7 22 9 5 Tryd.underlying22 Tryd.underlying5 Tryd.underlying9; have q3 := run_string_of (P := Tryd.prog) (Hin.out.below L7.out) 22 9 5 Tryd.underlying22 Tryd.underlying5 Tryd.underlying9; clear ho7 hb7 hs7 tok4 _t))
        go_wp2
        go_ret
        exact ⟨ret_bool (by simp), L7.out⟩
end Go.Proofs.YtefoaldpllnijaaDoor
