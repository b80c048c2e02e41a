/- Layer 8: what octets so far say of a message, by the document. Condition: at most 65535 octets. Printed by mktel1.py. -/
import Derived.Test.YtniiadhhefgmcaaGreatDoorRc
import Derived.Test.YtniiadhhefgmcaaGreatDoorLz
import Derived.Test.YtniiadhhefgmcaaGreatDoorMes3
import Derived.Test.YtniiadhhefgmcaaGreatDoorChu8
import Derived.Test.YtniiadhhefgmcaaGreatDoorMs
import Derived.Test.YtniiadhhefgmcaaGreatDoorFq
namespace Go.Proofs.YtniiadhhefgmcaaGreatDoor
open Go.RowKit IH
set_option maxRecDepth 100000
theorem results_cell_tmps5 {P : Program} {fn : Func} {t u v x y : Tmp} {ty : TypeId} (h : fn.results = #[.cell t ty, .tmp u, .tmp v, .tmp x, .tmp y]) (tmps : Array Value) (w : World) (a : Addr) (ht : tmps.getD t undef = .pointer (some a)) (m p q r s : Value) (hu : tmps.getD u undef = p) (hv : tmps.getD v undef = q) (hx : tmps.getD x undef = r) (hy : tmps.getD y undef = s)
    (hl : (loadVar ty a).run P w = .ok m w) : (results fn tmps).run P w = .ok (.tuple #[m, p, q, r, s]) w := by
  simp only [Array.getD_eq_getD_getElem?] at ht hu hv hx hy
  simp [results, h, ht, hu, hv, hx, hy, asAddr, hl]
theorem sub_at {w : World} {b0 off n c : Nat} {l : List UInt8} (hin : SliceIn w w.heap.size 1 (some ⟨b0, off, none⟩) n c (bytesV l)) (a : Nat) (ha : a ≤ n) (off' : Nat) (ho : a < n → off' = off + a) :
    SliceIn w w.heap.size 1 (some ⟨b0, off', none⟩) (n - a) (c - a) (bytesV (l.drop a)) := by
  have hll : l.length = n := by have := hin.1; rw [bytesV_length] at this; omega
  have h := hin.sub (a := a) (b := n) ha (Nat.le_refl _) (some ⟨b0, off', none⟩) (fun hlt => by rw [ho hlt]; simp [add_plain])
  rw [Nat.mul_one, Nat.mul_one] at h
  rw [show bytesV (l.drop a) = ((bytesV l).drop a).take (n - a) by rw [List.take_of_length_le (by rw [List.length_drop, bytesV_length]; omega)]; simp [bytesV, List.map_drop]]
  exact h
theorem sub_mid {w : World} {b0 off n c : Nat} {l : List UInt8} (hin : SliceIn w w.heap.size 1 (some ⟨b0, off, none⟩) n c (bytesV l)) (a b : Nat) (hab : a ≤ b) (hb : b ≤ n) (off' : Nat) (ho : a < b → off' = off + a) :
    SliceIn w w.heap.size 1 (some ⟨b0, off', none⟩) (b - a) (c - a) (bytesV ((l.drop a).take (b - a))) := by
  have h := hin.sub (a := a) (b := b) hab hb (some ⟨b0, off', none⟩) (fun hlt => by rw [ho hlt]; simp [add_plain])
  rw [Nat.mul_one, Nat.mul_one] at h
  rw [show bytesV ((l.drop a).take (b - a)) = ((bytesV l).drop a).take (b - a) by simp [bytesV, List.map_drop, List.map_take]]
  exact h
theorem msg_cells (s : Sta) : ∃ Sm St Sr : ByteArray, staC s = [.string Sm, .string St, .int .i64 s.status, .string Sr, .int .i64 s.minor] ∧ ∀ F B, msgC s F B = [.string Sm, .string St, .int .i64 s.status, .string Sr, .int .i64 s.minor, F, B] := ⟨_, _, _, rfl, fun _ _ => rfl⟩
theorem zero_cells : ∀ n e, msgC (Told8.none n e).start (.slice none 0 0) (.slice none 0 0) = zeroM := fun _ _ => rfl
set_option maxHeartbeats 32000000 in
theorem rtold8_any (asks : Bool) (M : ByteArray) (A : Option Addr) (n c : Nat) (l : List UInt8) (w : World) (hin : SliceIn w w.heap.size 1 A n c (bytesV l)) (hn : n ≤ 65535) :
    Calls Tryz.prog 31 #[.slice A n c, .bool asks, .string M] w fun e w' => ∃ vF vB,
      e = .returned (.tuple #[.agg (msgC (toldM asks M.data.toList l).start vF vB).toArray, .bool (toldM asks M.data.toList l).framed, .int .i64 (toldM asks M.data.toList l).n, .bool (toldM asks M.data.toList l).over, .int .i64 (toldM asks M.data.toList l).e]) ∧
      w'.ownsRow w.heap.size 74 2 vF (toldM asks M.data.toList l).fields.length (fldsV (toldM asks M.data.toList l).fields) ∧ w'.ownsRow w.heap.size 5 1 vB (toldM asks M.data.toList l).body.length (bytesV (toldM asks M.data.toList l).body) ∧ Below w.heap.size w w' := by
  have HMi : Hid ((Tryz.prog.info? 27).map (·.size) = some 7) := Lib.hid (by kernel_rfl)
  have HSi : Hid ((Tryz.prog.info? 23).map (·.size) = some 5) := Lib.hid (by kernel_rfl)
  have hll : l.length = n := by have := hin.1; rw [bytesV_length] at this; omega
  have hnc := hin.2.1
  obtain ⟨w1, hw1⟩ : ∃ W : World, w.alloc (.cells #[.string ⟨#[]⟩, .string ⟨#[]⟩, .int .i64 0, .string ⟨#[]⟩, .int .i64 0, .slice none 0 0, .slice none 0 0] 27) = W := ⟨_, rfl⟩
  have B1 : Hid (Below w.heap.size w w1) := Lib.hid (by rw [← hw1]; exact (Below.refl _ _).alloc (Nat.le_refl _) _)
  have Z1 : Hid (RowAt w1 w.heap.size 27 zeroM) := Lib.hid (by rw [← hw1]; exact RowAt.new w 27 zeroM)
  have RP := Lib.hid (fun (W : World) (hW : Below w.heap.size w W) => (rresp6_any A n c l W ((hin.below hW).more hW.size) (by omega)).mono (fun e w' h => (show (∃ C, Hid (staC (responseL l).1 = C) ∧ e = .returned (.tuple #[.agg C.toArray, .int .i64 (responseL l).2.1, .int .i64 (responseL l).2.2])) ∧ Below W.heap.size W w' from ⟨⟨_, Lib.hid rfl, h.1⟩, h.2⟩)))
  have RQ := Lib.hid (fun (W : World) (hW : Below w.heap.size w W) => (rreq6_any A n c l W ((hin.below hW).more hW.size) (by omega)).mono (fun e w' h => (show (∃ C, Hid (staC (requestL l).1 = C) ∧ e = .returned (.tuple #[.agg C.toArray, .int .i64 (requestL l).2.1, .int .i64 (requestL l).2.2])) ∧ Below W.heap.size W w' from ⟨⟨_, Lib.hid rfl, h.1⟩, h.2⟩)))
  obtain ⟨T, hT⟩ : ∃ T, toldM asks M.data.toList l = T := ⟨_, rfl⟩
  rw [hT]
  have HT := Lib.hid hT
  have Hin := Lib.hid hin
  have Hll := Lib.hid hll
  clear hT hin hll
  go_enter Tryz.func31, Tryz.ntmps31
  cases asks
  · skip
    go_upto_region 5 with (first
      | (have _t := Z1; refine wpList_store_row rfl 27 _ _ rfl w1.heap.size _ zeroM zeroM rfl rfl (RowAt.new w1 27 _) rfl HMi.out (by simp [zeroM, Value.oneCell']) ?_; intro w2 hr2 ho2; have hb2 := ho2.below ((Below.refl w1.heap.size w1).alloc (Nat.le_refl _) _) (Nat.le_refl _); have N2 := Lib.hid hr2; have B2 := Lib.hid (below_step B1.out hb2); have Z2 := Lib.hid (Z1.out.below hb2 Z1.out.lt); have Z1l := Lib.hid Z1.out.lt; clear hr2 ho2 hb2 Z1)
      | (go_at_call 68; (with_reducible refine (RP.out _ B2.out).mono ?_); rintro x3 w3 ⟨⟨C3, HC3, rfl⟩, hb3⟩; have N3 := Lib.hid (N2.out.below hb3 N2.out.lt); have Z3 := Lib.hid (Z2.out.below hb3 Z2.out.lt); have B3 := Lib.hid (below_step B2.out hb3); have tok3 : Hid True := Lib.hid trivial; clear hb3 N2 Z2)
      | (have _t := tok3; refine wpList_store_row rfl 23 _ _ rfl w3.heap.size _ C3 zeroS rfl rfl (RowAt.new w3 23 _) (by rw [← HC3.out]; rfl) (by rw [← HC3.out]; exact HSi.out) (by rw [← HC3.out]; exact staC_one _) ?_; intro w4 hr4 ho4; have hb4 := ho4.below ((Below.refl w3.heap.size w3).alloc (Nat.le_refl _) _) (Nat.le_refl _); rw [← HC3.out] at hr4; have L4 := Lib.hid hr4; have N4 := Lib.hid (N3.out.below hb4 N3.out.lt); have Z4 := Lib.hid (Z3.out.below hb4 Z3.out.lt); have B4 := Lib.hid (below_step B3.out hb4); have N3l := Lib.hid N3.out.lt; have Z3l := Lib.hid Z3.out.lt; have B3s := Lib.hid B3.out.size; clear hr4 ho4 hb4 N3 Z3 tok3))
    have W5 : ∃ W : World, W = w4 := ⟨_, rfl⟩
    obtain ⟨w5, hw5⟩ := W5
    subst hw5
    have hr5 := L4.out
    have hn5 := N4.out
    have hz5 := Z4.out
    have hb5 := B4.out
    rw [show responseL l = lineM false l from rfl] at hr5 ⊢
    clear RP RQ L4 N4 Z4 B4
    have hlz := lineM_nn false l
    have hll := lineM_le false l
    have hlp := lineM_pos (asks := false) (b := l)
    obtain ⟨R, hR⟩ : ∃ R, lineM false l = R := ⟨_, rfl⟩
    rw [hR] at hr5 hlz hll hlp ⊢
    obtain ⟨s, n1, e1⟩ := R
    simp only at hr5 hlz hll hlp ⊢
    rw [Hll.out] at hll
    obtain ⟨n0, rfl⟩ : ∃ n0 : Nat, n1 = n0 := ⟨n1.toNat, by omega⟩
    rw [Int.toNat_natCast] at hll hlp
    obtain ⟨Sm, St, Sr, hs5, hsm⟩ := msg_cells s
    rw [hs5] at hr5
    obtain ⟨ss, hss⟩ : ∃ x, s.status = x := ⟨_, rfl⟩
    obtain ⟨mi, hmi⟩ : ∃ x, s.minor = x := ⟨_, rfl⟩
    rw [hss, hmi] at hr5 hsm
    have HSM := Lib.hid hsm
    have L5 := Lib.hid hr5
    have N5 := Lib.hid hn5
    have Z5 := Lib.hid hz5
    have B5 := Lib.hid hb5
    have HR := Lib.hid hR
    clear hr5 hn5 hz5 hb5 hs5 hsm hss hmi hlz hR
    by_cases h11 : e1 = 11
    · subst h11
      have HV : Hid (T = Told8.none 0 0) := Lib.hid (by rw [← HT.out]; unfold toldM; rw [HR.out]; rfl)
      have HZ := Lib.hid (Z5.out)
      have HB := Lib.hid (B5.out)
      have HN := Lib.hid (N5.out)
      clear hlp
      go_wp2_with (first
        | (refine wpList_load_g (wanted_un rfl) 27 _ rfl w1.heap.size 0 rfl zeroM _ (rangeOf HN.out) Tryz.underlying27 rfl HMi.out ?_)
        | (refine wpList_store_row rfl 27 _ _ rfl w.heap.size _ zeroM zeroM rfl rfl HZ.out rfl HMi.out (by simp [zeroM, Value.oneCell']) ?_; intro wz hrz hoz; have RZ := Lib.hid hrz; have OZ := Lib.hid hoz; clear hrz hoz))
      exact bodyPost_ret (v := .tuple #[.agg zeroM.toArray, .bool false, .int .i64 0, .bool false, .int .i64 0]) (results_cell_tmps5 Tryz.results31 _ wz ⟨w.heap.size, 0, none⟩ rfl (.agg zeroM.toArray) (.bool false) (.int .i64 0) (.bool false) (.int .i64 0) rfl rfl rfl rfl (run_loadVar_mid wz w.heap.size 0 27 zeroM _ (rangeOf RZ.out) Tryz.underlying27 rfl HMi.out)) rfl ⟨.slice none 0 0, .slice none 0 0, by rw [HV.out]; rfl, by rw [HV.out]; exact World.ownsRow_nil _ _ _ _, by rw [HV.out]; exact World.ownsRow_nil _ _ _ _, OZ.out.below HB.out (Nat.le_refl _)⟩
    by_cases h10 : e1 ≠ 0
    · have n11 : (e1 == 11) = false := by rw [beq_eq_false_iff_ne]; exact h11
      have n10 : (e1 != 0) = true := by rw [bne_iff_ne]; exact h10
      have HV : Hid (T = Told8.none 0 e1) := Lib.hid (by rw [← HT.out]; unfold toldM; rw [HR.out]; simp only; rw [if_neg h11, if_pos h10])
      clear h11 h10
      have HZ := Lib.hid (Z5.out)
      have HB := Lib.hid (B5.out)
      have HN := Lib.hid (N5.out)
      clear hlp
      go_wp2_with (first
        | (refine wpList_load_g (wanted_un rfl) 27 _ rfl w1.heap.size 0 rfl zeroM _ (rangeOf HN.out) Tryz.underlying27 rfl HMi.out ?_)
        | (refine wpList_store_row rfl 27 _ _ rfl w.heap.size _ zeroM zeroM rfl rfl HZ.out rfl HMi.out (by simp [zeroM, Value.oneCell']) ?_; intro wz hrz hoz; have RZ := Lib.hid hrz; have OZ := Lib.hid hoz; clear hrz hoz))
      exact bodyPost_ret (v := .tuple #[.agg zeroM.toArray, .bool false, .int .i64 0, .bool false, .int .i64 e1]) (results_cell_tmps5 Tryz.results31 _ wz ⟨w.heap.size, 0, none⟩ rfl (.agg zeroM.toArray) (.bool false) (.int .i64 0) (.bool false) (.int .i64 e1) rfl rfl rfl rfl (run_loadVar_mid wz w.heap.size 0 27 zeroM _ (rangeOf RZ.out) Tryz.underlying27 rfl HMi.out)) rfl ⟨.slice none 0 0, .slice none 0 0, by rw [HV.out]; rfl, by rw [HV.out]; exact World.ownsRow_nil _ _ _ _, by rw [HV.out]; exact World.ownsRow_nil _ _ _ _, OZ.out.below HB.out (Nat.le_refl _)⟩
    obtain rfl : e1 = 0 := by omega
    have h0n : 0 < n0 := hlp rfl
    have HQ : Hid (T = headT M.data.toList s n0 (l.drop n0)) := Lib.hid (by rw [← HT.out]; unfold toldM; rw [HR.out]; simp only; rw [if_neg (by decide), if_neg (by simp), Int.toNat_natCast])
    have HA := Hin.out.2.2.2 (by omega)
    obtain ⟨b0, off, rfl, -⟩ := HA
    have PA := Lib.hid (fun (W : World) (hW : Below w.heap.size w W) (off' : Nat) (ho : n0 < n → off' = off + n0) => refParse3_any (some ⟨b0, off', none⟩) (n - n0) (c - n0) (l.drop n0) W (sub_at ((Hin.out.below hW).more hW.size) n0 hll off' ho) (by omega))
    have hpb := parseL_bd (b := l.drop n0)
    have hFB := parse_fldB (l.drop n0) (by rw [List.length_drop, Hll.out]; omega)
    rw [List.length_drop, Hll.out] at hpb
    have hp0 : n = n0 → (parseFs (l.drop n0)).2.2 = 11 := fun h => by rw [List.drop_of_length_le (by rw [Hll.out]; omega)]; rfl
    obtain ⟨Q, hQ⟩ : ∃ Q, parseFs (l.drop n0) = Q := ⟨_, rfl⟩
    rw [hQ] at PA hpb hFB hp0
    obtain ⟨L, k2, e2⟩ := Q
    simp only at PA hpb hFB hp0
    have HQ2 := Lib.hid hQ
    have jn : (n0 : Int) ≤ (n : Int) := by omega
    have jc : (n0 : Int) ≤ (c : Int) := by omega
    clear h11 h10 hlp hQ HT HR
    by_cases h2 : e2 = 11
    · subst h2
      have HV : Hid (T = Told8.none n0 0) := Lib.hid (by rw [HQ.out]; unfold headT; rw [HQ2.out]; rfl)
      clear hpb hFB hp0 HQ HQ2
      by_cases hcn : c = n0
      · have hnn : n = n0 := by omega
        subst hcn hnn
        rw [Nat.sub_self] at PA
        have HZ := Lib.hid (Z5.out)
        have HB := Lib.hid (B5.out)
        have HN := Lib.hid (N5.out)
        clear h0n
        go_wp2_with (first
          | (go_at_call 70; (with_reducible refine (PA.out _ B5.out off (fun h => absurd h (Nat.lt_irrefl _))).mono ?_); rintro x6 w6 ⟨v6, rfl, -, hb6⟩; replace HN := Lib.hid (HN.out.below hb6 HN.out.lt); replace HZ := Lib.hid (HZ.out.below hb6 HZ.out.lt); replace HB := Lib.hid (below_step HB.out hb6); clear hb6)
          | (refine wpList_load_g (wanted_un rfl) 27 _ rfl w1.heap.size 0 rfl zeroM _ (rangeOf HN.out) Tryz.underlying27 rfl HMi.out ?_)
          | (refine wpList_store_row rfl 27 _ _ rfl w.heap.size _ zeroM zeroM rfl rfl HZ.out rfl HMi.out (by simp [zeroM, Value.oneCell']) ?_; intro wz hrz hoz; have RZ := Lib.hid hrz; have OZ := Lib.hid hoz; clear hrz hoz))
        exact bodyPost_ret (v := .tuple #[.agg zeroM.toArray, .bool false, .int .i64 n, .bool false, .int .i64 0]) (results_cell_tmps5 Tryz.results31 _ wz ⟨w.heap.size, 0, none⟩ rfl (.agg zeroM.toArray) (.bool false) (.int .i64 n) (.bool false) (.int .i64 0) rfl rfl rfl rfl (run_loadVar_mid wz w.heap.size 0 27 zeroM _ (rangeOf RZ.out) Tryz.underlying27 rfl HMi.out)) rfl ⟨.slice none 0 0, .slice none 0 0, by rw [HV.out]; rfl, by rw [HV.out]; exact World.ownsRow_nil _ _ _ _, by rw [HV.out]; exact World.ownsRow_nil _ _ _ _, OZ.out.below HB.out (Nat.le_refl _)⟩
      · skip
        have HZ := Lib.hid (Z5.out)
        have HB := Lib.hid (B5.out)
        have HN := Lib.hid (N5.out)
        clear h0n
        go_wp2_with (first
          | (go_at_call 70; (with_reducible refine (PA.out _ B5.out (off + n0) (fun _ => rfl)).mono ?_); rintro x6 w6 ⟨v6, rfl, -, hb6⟩; replace HN := Lib.hid (HN.out.below hb6 HN.out.lt); replace HZ := Lib.hid (HZ.out.below hb6 HZ.out.lt); replace HB := Lib.hid (below_step HB.out hb6); clear hb6)
          | (refine wpList_load_g (wanted_un rfl) 27 _ rfl w1.heap.size 0 rfl zeroM _ (rangeOf HN.out) Tryz.underlying27 rfl HMi.out ?_)
          | (refine wpList_store_row rfl 27 _ _ rfl w.heap.size _ zeroM zeroM rfl rfl HZ.out rfl HMi.out (by simp [zeroM, Value.oneCell']) ?_; intro wz hrz hoz; have RZ := Lib.hid hrz; have OZ := Lib.hid hoz; clear hrz hoz))
        exact bodyPost_ret (v := .tuple #[.agg zeroM.toArray, .bool false, .int .i64 n0, .bool false, .int .i64 0]) (results_cell_tmps5 Tryz.results31 _ wz ⟨w.heap.size, 0, none⟩ rfl (.agg zeroM.toArray) (.bool false) (.int .i64 n0) (.bool false) (.int .i64 0) rfl rfl rfl rfl (run_loadVar_mid wz w.heap.size 0 27 zeroM _ (rangeOf RZ.out) Tryz.underlying27 rfl HMi.out)) rfl ⟨.slice none 0 0, .slice none 0 0, by rw [HV.out]; rfl, by rw [HV.out]; exact World.ownsRow_nil _ _ _ _, by rw [HV.out]; exact World.ownsRow_nil _ _ _ _, OZ.out.below HB.out (Nat.le_refl _)⟩
    have hcn : ¬ c = n0 := fun h => h2 (hp0 (by omega))
    have hnn : ¬ n = n0 := fun h => h2 (hp0 h)
    by_cases h20 : e2 ≠ 0
    · have n11 : (e2 == 11) = false := by rw [beq_eq_false_iff_ne]; exact h2
      have n10 : (e2 != 0) = true := by rw [bne_iff_ne]; exact h20
      have HV : Hid (T = Told8.none 0 e2) := Lib.hid (by rw [HQ.out]; unfold headT; rw [HQ2.out]; simp only; rw [if_neg h2, if_pos h20])
      clear hpb hFB hp0 HQ HQ2 h2 h20
      have HZ := Lib.hid (Z5.out)
      have HB := Lib.hid (B5.out)
      have HN := Lib.hid (N5.out)
      clear h0n
      go_wp2_with (first
        | (go_at_call 70; (with_reducible refine (PA.out _ B5.out (off + n0) (fun _ => rfl)).mono ?_); rintro x6 w6 ⟨v6, rfl, -, hb6⟩; replace HN := Lib.hid (HN.out.below hb6 HN.out.lt); replace HZ := Lib.hid (HZ.out.below hb6 HZ.out.lt); replace HB := Lib.hid (below_step HB.out hb6); clear hb6)
        | (refine wpList_load_g (wanted_un rfl) 27 _ rfl w1.heap.size 0 rfl zeroM _ (rangeOf HN.out) Tryz.underlying27 rfl HMi.out ?_)
        | (refine wpList_store_row rfl 27 _ _ rfl w.heap.size _ zeroM zeroM rfl rfl HZ.out rfl HMi.out (by simp [zeroM, Value.oneCell']) ?_; intro wz hrz hoz; have RZ := Lib.hid hrz; have OZ := Lib.hid hoz; clear hrz hoz))
      exact bodyPost_ret (v := .tuple #[.agg zeroM.toArray, .bool false, .int .i64 0, .bool false, .int .i64 e2]) (results_cell_tmps5 Tryz.results31 _ wz ⟨w.heap.size, 0, none⟩ rfl (.agg zeroM.toArray) (.bool false) (.int .i64 0) (.bool false) (.int .i64 e2) rfl rfl rfl rfl (run_loadVar_mid wz w.heap.size 0 27 zeroM _ (rangeOf RZ.out) Tryz.underlying27 rfl HMi.out)) rfl ⟨.slice none 0 0, .slice none 0 0, by rw [HV.out]; rfl, by rw [HV.out]; exact World.ownsRow_nil _ _ _ _, by rw [HV.out]; exact World.ownsRow_nil _ _ _ _, OZ.out.below HB.out (Nat.le_refl _)⟩
    obtain rfl : e2 = 0 := by omega
    obtain ⟨hk0, hkn⟩ := hpb rfl
    obtain ⟨k, rfl⟩ : ∃ k : Nat, k2 = k := ⟨k2.toNat, by omega⟩
    rw [Int.toNat_natCast] at hk0 hkn
    obtain ⟨at_, hat⟩ : ∃ x, n0 + k = x := ⟨_, rfl⟩
    have hatn : at_ ≤ n := by omega
    have hatw : IntKind.i64.wrap ((n0 : Int) + (k : Int)) = (at_ : Int) := by rw [← hat]; exact IntWalk.i64_in _ ⟨by omega, by omega⟩
    have FR := Lib.hid (fun (W : World) (A2 : Option Addr) (c2 : Nat) (h : SliceIn W W.heap.size 2 A2 L.length c2 (fldsV L)) => (rframing_any s A2 L.length c2 L (.slice none 0 0) M W h hFB))
    have hfl := framing_left s L M.data.toList
    have hfm := framing_most s L M.data.toList
    have HQ3 : Hid (T = if (framingL s L M.data.toList).2.2 ≠ 0 then Told8.none 0 (framingL s L M.data.toList).2.2 else bodyT s L (framingL s L M.data.toList) at_ (l.drop at_)) := Lib.hid (by rw [HQ.out]; unfold headT; rw [HQ2.out]; simp only; rw [if_neg (by decide), if_neg (by simp), Int.toNat_natCast, hat, List.drop_drop, hat])
    obtain ⟨F, hF⟩ : ∃ F, framingL s L M.data.toList = F := ⟨_, rfl⟩
    rw [hF] at FR hfl hfm HQ3
    obtain ⟨ki, si, e3⟩ := F
    simp only at FR hfl hfm HQ3
    obtain ⟨z, rfl⟩ : ∃ z : Nat, si = z := ⟨si.toNat, by omega⟩
    simp only [HSM.out] at FR
    obtain ⟨nL, hnL⟩ : ∃ x, L.length = x := ⟨_, rfl⟩
    rw [hnL] at FR PA
    have HnL := Lib.hid hnL
    have hzm : z ≤ 1048576 := by omega
    clear hpb hp0 HQ HQ2 h2 h20 hFB hfl hfm hF hnL hk0 hkn
    go_upto_region 16 with (first
      | (go_at_call 70; (with_reducible refine (PA.out _ B5.out (off + n0) (fun _ => rfl)).mono ?_); rintro x6 w6 ⟨v6, rfl, ho6, hb6⟩; obtain ⟨A6, c6, rfl, -⟩ := own_slice ho6; have O6 := Lib.hid ho6; have B5s := Lib.hid B5.out.size; have Z5l := Lib.hid Z5.out.lt; have N6 := Lib.hid (N5.out.below hb6 N5.out.lt); have Z6 := Lib.hid (Z5.out.below hb6 Z5.out.lt); have L6 := Lib.hid (L5.out.below hb6 L5.out.lt); have B6 := Lib.hid (below_step B5.out hb6); have tok6 : Hid True := Lib.hid trivial; clear hb6 ho6)
      | (have _t := tok6; refine wpList_load_g (wanted_un rfl) 23 _ rfl w3.heap.size 0 rfl _ _ (rangeOf L6.out) Tryz.underlying23 rfl HSi.out ?_)
      | (have _t := tok6; refine wpList_store_row rfl 27 _ _ rfl w6.heap.size _ [.string Sm, .string St, .int .i64 ss, .string Sr, .int .i64 mi, .slice A6 nL c6, .slice none 0 0] zeroM rfl rfl (RowAt.new w6 27 _) rfl HMi.out (by simp [Value.oneCell']) ?_; intro w7 hr7 ho7; have hb7 := ho7.below ((Below.refl w6.heap.size w6).alloc (Nat.le_refl _) _) (Nat.le_refl _); have M7 := Lib.hid hr7; have E7 := Lib.hid hb7; have O7 := Lib.hid (own_below O6.out hb7); have N7 := Lib.hid (N6.out.below hb7 N6.out.lt); have Z7 := Lib.hid (Z6.out.below hb7 Z6.out.lt); have B7 := Lib.hid (below_step B6.out hb7); have B67 := Lib.hid B6.out.size; have Z6l := Lib.hid Z6.out.lt; have tok7 : Hid True := Lib.hid trivial; clear hr7 ho7 hb7 tok6)
      | (have _t := tok7; refine wpList_load_g (wanted_un rfl) 27 _ rfl w6.heap.size 0 rfl _ _ (rangeOf M7.out) Tryz.underlying27 rfl HMi.out ?_)
      | (go_at_call 34; (with_reducible refine (FR.out _ A6 c6 (SliceIn.of_own O7.out)).mono ?_); rintro x8 w8 ⟨rfl, hb8⟩; have M8 := Lib.hid (M7.out.below hb8 M7.out.lt); have E8 := Lib.hid (below_step E7.out hb8); have N8 := Lib.hid (N7.out.below hb8 N7.out.lt); have Z8 := Lib.hid (Z7.out.below hb8 Z7.out.lt); have B8 := Lib.hid (below_step B7.out hb8); clear hb8 tok7))
    clear PA FR N5 Z5 B5 L5 N6 Z6 L6 B6 M7 O7 N7 Z7 E7
    by_cases h30 : e3 ≠ 0
    · have n30 : (e3 != 0) = true := by rw [bne_iff_ne]; exact h30
      have HV : Hid (T = Told8.none 0 e3) := Lib.hid (by rw [HQ3.out, if_pos h30])
      clear h30
      have HZ := Lib.hid (Z8.out)
      have HB := Lib.hid (B8.out)
      have HN := Lib.hid (N8.out)
      clear h0n
      go_wp2_with (first
        | (refine wpList_load_g (wanted_un rfl) 27 _ rfl w1.heap.size 0 rfl zeroM _ (rangeOf HN.out) Tryz.underlying27 rfl HMi.out ?_)
        | (refine wpList_store_row rfl 27 _ _ rfl w.heap.size _ zeroM zeroM rfl rfl HZ.out rfl HMi.out (by simp [zeroM, Value.oneCell']) ?_; intro wz hrz hoz; have RZ := Lib.hid hrz; have OZ := Lib.hid hoz; clear hrz hoz))
      exact bodyPost_ret (v := .tuple #[.agg zeroM.toArray, .bool false, .int .i64 0, .bool false, .int .i64 e3]) (results_cell_tmps5 Tryz.results31 _ wz ⟨w.heap.size, 0, none⟩ rfl (.agg zeroM.toArray) (.bool false) (.int .i64 0) (.bool false) (.int .i64 e3) rfl rfl rfl rfl (run_loadVar_mid wz w.heap.size 0 27 zeroM _ (rangeOf RZ.out) Tryz.underlying27 rfl HMi.out)) rfl ⟨.slice none 0 0, .slice none 0 0, by rw [HV.out]; rfl, by rw [HV.out]; exact World.ownsRow_nil _ _ _ _, by rw [HV.out]; exact World.ownsRow_nil _ _ _ _, OZ.out.below HB.out (Nat.le_refl _)⟩
    obtain rfl : e3 = 0 := by omega
    rw [if_neg (by simp)] at HQ3
    clear h30
    clear HSi
    have j2 : (at_ : Int) ≤ (n : Int) := by omega
    have j3 : (at_ : Int) ≤ (c : Int) := by omega
    clear hat jn jc hcn hnn
    by_cases h2k : ki = 2
    · subst h2k
      have hrl := run_le (l.drop at_).length Dec.new (l.drop at_) (Nat.le_refl _)
      rw [List.length_drop, Hll.out] at hrl
      have TL := Lib.hid (fun (W : World) (hW : Below w.heap.size w W) (off' : Nat) (ho : at_ < n → off' = off + at_) => told_any (some ⟨b0, off', none⟩) (n - at_) (c - at_) (l.drop at_) W (sub_at ((Hin.out.below hW).more hW.size) at_ hatn off' ho) (by omega))
      have HT2 : Hid (T = if (run Dec.new (l.drop at_)).2.2.1 ≠ 0 then Told8.none 0 (run Dec.new (l.drop at_)).2.2.1 else ⟨s, L, (run Dec.new (l.drop at_)).1, true, at_ + (run Dec.new (l.drop at_)).2.1, decide ((run Dec.new (l.drop at_)).2.2.2.w = 4), 0⟩) := Lib.hid (by rw [HQ3.out]; unfold bodyT; rw [if_pos rfl])
      obtain ⟨X, tk, er, d, hX⟩ : ∃ X tk er d, run Dec.new (l.drop at_) = (X, tk, er, d) := ⟨_, _, _, _, rfl⟩
      rw [hX] at TL HT2 hrl
      simp only at TL HT2 hrl
      have htw : IntKind.i64.wrap ((at_ : Int) + (tk : Int)) = ((at_ + tk : Nat) : Int) := by rw [IntWalk.i64_in _ ⟨by omega, by omega⟩]; omega
      obtain ⟨tt, htt⟩ : ∃ x, at_ + tk = x := ⟨_, rfl⟩
      rw [htt] at htw HT2
      clear hX hrl HQ3 htt
      by_cases her : er ≠ 0
      · have n10 : (er != 0) = true := by rw [bne_iff_ne]; exact her
        have HV : Hid (T = Told8.none 0 er) := Lib.hid (by rw [HT2.out, if_pos her])
        clear her HT2
        by_cases hca : c = at_
        · have hna : n = at_ := by omega
          subst hca hna
          rw [Nat.sub_self] at TL
          have HZ := Lib.hid (Z8.out)
          have HB := Lib.hid (B8.out)
          have HN := Lib.hid (N8.out)
          clear h0n
          go_wp2_with (first
            | (go_at_call 71; (with_reducible refine (TL.out _ B8.out off (fun h => absurd h (Nat.lt_irrefl _))).mono ?_); rintro x9 w9 ⟨v9, rfl, -, hb9⟩; replace HN := Lib.hid (HN.out.below hb9 HN.out.lt); replace HZ := Lib.hid (HZ.out.below hb9 HZ.out.lt); replace HB := Lib.hid (below_step HB.out hb9); clear hb9)
            | (refine wpList_load_g (wanted_un rfl) 27 _ rfl w1.heap.size 0 rfl zeroM _ (rangeOf HN.out) Tryz.underlying27 rfl HMi.out ?_)
            | (refine wpList_store_row rfl 27 _ _ rfl w.heap.size _ zeroM zeroM rfl rfl HZ.out rfl HMi.out (by simp [zeroM, Value.oneCell']) ?_; intro wz hrz hoz; have RZ := Lib.hid hrz; have OZ := Lib.hid hoz; clear hrz hoz))
          exact bodyPost_ret (v := .tuple #[.agg zeroM.toArray, .bool false, .int .i64 0, .bool false, .int .i64 er]) (results_cell_tmps5 Tryz.results31 _ wz ⟨w.heap.size, 0, none⟩ rfl (.agg zeroM.toArray) (.bool false) (.int .i64 0) (.bool false) (.int .i64 er) rfl rfl rfl rfl (run_loadVar_mid wz w.heap.size 0 27 zeroM _ (rangeOf RZ.out) Tryz.underlying27 rfl HMi.out)) rfl ⟨.slice none 0 0, .slice none 0 0, by rw [HV.out]; rfl, by rw [HV.out]; exact World.ownsRow_nil _ _ _ _, by rw [HV.out]; exact World.ownsRow_nil _ _ _ _, OZ.out.below HB.out (Nat.le_refl _)⟩
        · skip
          have HZ := Lib.hid (Z8.out)
          have HB := Lib.hid (B8.out)
          have HN := Lib.hid (N8.out)
          clear h0n
          go_wp2_with (first
            | (go_at_call 71; (with_reducible refine (TL.out _ B8.out (off + at_) (fun _ => rfl)).mono ?_); rintro x9 w9 ⟨v9, rfl, -, hb9⟩; replace HN := Lib.hid (HN.out.below hb9 HN.out.lt); replace HZ := Lib.hid (HZ.out.below hb9 HZ.out.lt); replace HB := Lib.hid (below_step HB.out hb9); clear hb9)
            | (refine wpList_load_g (wanted_un rfl) 27 _ rfl w1.heap.size 0 rfl zeroM _ (rangeOf HN.out) Tryz.underlying27 rfl HMi.out ?_)
            | (refine wpList_store_row rfl 27 _ _ rfl w.heap.size _ zeroM zeroM rfl rfl HZ.out rfl HMi.out (by simp [zeroM, Value.oneCell']) ?_; intro wz hrz hoz; have RZ := Lib.hid hrz; have OZ := Lib.hid hoz; clear hrz hoz))
          exact bodyPost_ret (v := .tuple #[.agg zeroM.toArray, .bool false, .int .i64 0, .bool false, .int .i64 er]) (results_cell_tmps5 Tryz.results31 _ wz ⟨w.heap.size, 0, none⟩ rfl (.agg zeroM.toArray) (.bool false) (.int .i64 0) (.bool false) (.int .i64 er) rfl rfl rfl rfl (run_loadVar_mid wz w.heap.size 0 27 zeroM _ (rangeOf RZ.out) Tryz.underlying27 rfl HMi.out)) rfl ⟨.slice none 0 0, .slice none 0 0, by rw [HV.out]; rfl, by rw [HV.out]; exact World.ownsRow_nil _ _ _ _, by rw [HV.out]; exact World.ownsRow_nil _ _ _ _, OZ.out.below HB.out (Nat.le_refl _)⟩
      obtain rfl : er = 0 := by omega
      rw [if_neg (by simp)] at HT2
      have HV := HT2
      clear her HT2
      by_cases hca : c = at_
      · have hna : n = at_ := by omega
        subst hca hna
        rw [Nat.sub_self] at TL
        go_wp2_with (first
          | (go_at_call 71; (with_reducible refine (TL.out _ B8.out off (fun h => absurd h (Nat.lt_irrefl _))).mono ?_); rintro x9 w9 ⟨v9, rfl, ho9, hb9⟩; obtain ⟨A9, c9, rfl, -⟩ := own_slice ho9; have ZM := Lib.hid Z8.out.lt; have d6 := (M8.out.below hb9 M8.out.lt).cell (j := 6) rfl; have f6 := (M8.out.below hb9 M8.out.lt).frozen (j := 6) (by show 6 < 7; omega); obtain ⟨w10, hw10⟩ : ∃ W, w9.setCell ⟨w6.heap.size, 6, none⟩ (.slice A9 X.length c9) = W := ⟨_, rfl⟩; have M10 : Hid (RowAt w10 w6.heap.size 27 [.string Sm, .string St, .int .i64 ss, .string Sr, .int .i64 mi, .slice A6 nL c6, .slice A9 X.length c9]) := Lib.hid (by rw [← hw10]; exact (M8.out.below hb9 M8.out.lt).set_ (j := 6) (by show 6 < 7; omega) (.slice A9 X.length c9)); have E10 : Hid (Below w6.heap.size w6 w10) := Lib.hid (by rw [← hw10]; exact (below_step E8.out hb9).setCell (Nat.le_refl _) _); have P10 : Hid (w10.ownsRow w8.heap.size 5 1 (.slice A9 X.length c9) X.length (bytesV X)) := Lib.hid (by rw [← hw10]; exact own_far' ho9 (p := ⟨w6.heap.size, 6, none⟩) _ M8.out.lt); have Z10 : Hid (RowAt w10 w.heap.size 27 zeroM) := Lib.hid (by rw [← hw10]; exact (Z8.out.below hb9 Z8.out.lt).far (by have := Z6l.out; show w.heap.size ≠ w6.heap.size; omega) _); have B10 : Hid (Below w.heap.size w w10) := Lib.hid (by rw [← hw10]; exact (below_step B8.out hb9).setCell B67.out _); have tok10 : Hid True := Lib.hid trivial; clear ho9 hb9)
          | (have _t := tok10; refine wpList_load_g (wanted_un rfl) 27 _ rfl w6.heap.size 0 rfl _ _ (rangeOf M10.out) Tryz.underlying27 rfl HMi.out ?_)
          | (have _t := tok10; refine wpList_store_row rfl 27 _ _ rfl w.heap.size _ [.string Sm, .string St, .int .i64 ss, .string Sr, .int .i64 mi, .slice A6 nL c6, .slice A9 X.length c9] zeroM rfl rfl Z10.out rfl HMi.out (by simp [Value.oneCell']) ?_; intro wz hrz hoz; have RZ := Lib.hid hrz; have OZ := Lib.hid hoz; clear hrz hoz))
        exact bodyPost_ret (v := .tuple #[.agg ([.string Sm, .string St, .int .i64 ss, .string Sr, .int .i64 mi, .slice A6 nL c6, .slice A9 X.length c9] : List Value).toArray, .bool true, .int .i64 tt, .bool (decide (d.w = 4)), .int .i64 0]) (results_cell_tmps5 Tryz.results31 _ wz ⟨w.heap.size, 0, none⟩ rfl (.agg ([.string Sm, .string St, .int .i64 ss, .string Sr, .int .i64 mi, .slice A6 nL c6, .slice A9 X.length c9] : List Value).toArray) (.bool true) (.int .i64 tt) (.bool (decide (d.w = 4))) (.int .i64 0) rfl rfl rfl rfl (run_loadVar_mid wz w.heap.size 0 27 [.string Sm, .string St, .int .i64 ss, .string Sr, .int .i64 mi, .slice A6 nL c6, .slice A9 X.length c9] _ (rangeOf RZ.out) Tryz.underlying27 rfl HMi.out)) rfl ⟨.slice A6 nL c6, .slice A9 X.length c9, by rw [HV.out]; simp only [HSM.out], by rw [HV.out, HnL.out]; exact own_mono (own_only8 (own_below O6.out E10.out) OZ.out Z5l.out) B5s.out, by rw [HV.out]; exact own_mono (own_only8 P10.out OZ.out ZM.out) B8.out.size, OZ.out.below B10.out (Nat.le_refl _)⟩
      · skip
        go_wp2_with (first
          | (go_at_call 71; (with_reducible refine (TL.out _ B8.out (off + at_) (fun _ => rfl)).mono ?_); rintro x9 w9 ⟨v9, rfl, ho9, hb9⟩; obtain ⟨A9, c9, rfl, -⟩ := own_slice ho9; have ZM := Lib.hid Z8.out.lt; have d6 := (M8.out.below hb9 M8.out.lt).cell (j := 6) rfl; have f6 := (M8.out.below hb9 M8.out.lt).frozen (j := 6) (by show 6 < 7; omega); obtain ⟨w10, hw10⟩ : ∃ W, w9.setCell ⟨w6.heap.size, 6, none⟩ (.slice A9 X.length c9) = W := ⟨_, rfl⟩; have M10 : Hid (RowAt w10 w6.heap.size 27 [.string Sm, .string St, .int .i64 ss, .string Sr, .int .i64 mi, .slice A6 nL c6, .slice A9 X.length c9]) := Lib.hid (by rw [← hw10]; exact (M8.out.below hb9 M8.out.lt).set_ (j := 6) (by show 6 < 7; omega) (.slice A9 X.length c9)); have E10 : Hid (Below w6.heap.size w6 w10) := Lib.hid (by rw [← hw10]; exact (below_step E8.out hb9).setCell (Nat.le_refl _) _); have P10 : Hid (w10.ownsRow w8.heap.size 5 1 (.slice A9 X.length c9) X.length (bytesV X)) := Lib.hid (by rw [← hw10]; exact own_far' ho9 (p := ⟨w6.heap.size, 6, none⟩) _ M8.out.lt); have Z10 : Hid (RowAt w10 w.heap.size 27 zeroM) := Lib.hid (by rw [← hw10]; exact (Z8.out.below hb9 Z8.out.lt).far (by have := Z6l.out; show w.heap.size ≠ w6.heap.size; omega) _); have B10 : Hid (Below w.heap.size w w10) := Lib.hid (by rw [← hw10]; exact (below_step B8.out hb9).setCell B67.out _); have tok10 : Hid True := Lib.hid trivial; clear ho9 hb9)
          | (have _t := tok10; refine wpList_load_g (wanted_un rfl) 27 _ rfl w6.heap.size 0 rfl _ _ (rangeOf M10.out) Tryz.underlying27 rfl HMi.out ?_)
          | (have _t := tok10; refine wpList_store_row rfl 27 _ _ rfl w.heap.size _ [.string Sm, .string St, .int .i64 ss, .string Sr, .int .i64 mi, .slice A6 nL c6, .slice A9 X.length c9] zeroM rfl rfl Z10.out rfl HMi.out (by simp [Value.oneCell']) ?_; intro wz hrz hoz; have RZ := Lib.hid hrz; have OZ := Lib.hid hoz; clear hrz hoz))
        exact bodyPost_ret (v := .tuple #[.agg ([.string Sm, .string St, .int .i64 ss, .string Sr, .int .i64 mi, .slice A6 nL c6, .slice A9 X.length c9] : List Value).toArray, .bool true, .int .i64 tt, .bool (decide (d.w = 4)), .int .i64 0]) (results_cell_tmps5 Tryz.results31 _ wz ⟨w.heap.size, 0, none⟩ rfl (.agg ([.string Sm, .string St, .int .i64 ss, .string Sr, .int .i64 mi, .slice A6 nL c6, .slice A9 X.length c9] : List Value).toArray) (.bool true) (.int .i64 tt) (.bool (decide (d.w = 4))) (.int .i64 0) rfl rfl rfl rfl (run_loadVar_mid wz w.heap.size 0 27 [.string Sm, .string St, .int .i64 ss, .string Sr, .int .i64 mi, .slice A6 nL c6, .slice A9 X.length c9] _ (rangeOf RZ.out) Tryz.underlying27 rfl HMi.out)) rfl ⟨.slice A6 nL c6, .slice A9 X.length c9, by rw [HV.out]; simp only [HSM.out], by rw [HV.out, HnL.out]; exact own_mono (own_only8 (own_below O6.out E10.out) OZ.out Z5l.out) B5s.out, by rw [HV.out]; exact own_mono (own_only8 P10.out OZ.out ZM.out) B8.out.size, OZ.out.below B10.out (Nat.le_refl _)⟩
    have n2k : (ki == 2) = false := by rw [beq_eq_false_iff_ne]; exact h2k
    obtain ⟨sz, hsz⟩ : ∃ x, at_ + z = x := ⟨_, rfl⟩
    have hws : IntKind.i64.wrap ((at_ : Int) + (z : Int)) = (sz : Int) := by rw [IntWalk.i64_in _ ⟨by omega, by omega⟩]; omega
    have hsz1 : at_ ≤ sz := by omega
    have HVV : Hid (∀ i : Nat, at_ ≤ i → i ≤ n → i ≤ sz → (i = n ∨ i = sz) → T = ⟨s, L, (l.drop at_).take (i - at_), true, i, (i : Int) == (sz : Int), 0⟩) := Lib.hid (fun i h1 h2 h3 h4 => by
      rw [HQ3.out]
      unfold bodyT
      rw [if_neg h2k]
      simp only
      rw [Int.toNat_natCast, List.length_drop, Hll.out]
      have e1 : (l.drop at_).take z = (l.drop at_).take (i - at_) := by
        rcases h4 with h4 | h4
        · rw [List.take_of_length_le (by rw [List.length_drop, Hll.out]; omega), List.take_of_length_le (by rw [List.length_drop, Hll.out]; omega)]
        · rw [show i - at_ = z by omega]
      have e2 : at_ + min z (n - at_) = i := by omega
      have e3 : decide (z ≤ n - at_) = ((i : Int) == (sz : Int)) := by
        rw [Bool.eq_iff_iff, decide_eq_true_eq, beq_iff_eq]; omega
      rw [e1, e2, e3])
    clear h2k hsz HQ3
    go_wp2_with fail
    go_loopw [25] (fun v wr => ∃ i : Nat, v = .int .i64 i ∧ at_ ≤ i ∧ i ≤ n ∧ i ≤ sz ∧ w8 = wr) (fun v _ => n - (intOf v).toNat)
    case atStart => exact ⟨at_, rfl, Nat.le_refl _, hatn, hsz1, rfl⟩
    case round =>
      obtain ⟨i, rfl, hi1, hi2, hi3, hw8⟩ := hrel
      subst hw8
      have k1 : (at_ : Int) ≤ (i : Int) := by omega
      have k2 : (i : Int) ≤ (c : Int) := by omega
      by_cases hlt : i < n ∧ i < sz
      · obtain ⟨h1, h2⟩ := hlt
        have j5 : (i : Int) < (n : Int) := by omega
        have j6 : (i : Int) < (sz : Int) := by omega
        clear HVV
        go_wp2_with fail
        go_roundw
        case rel => exact ⟨i + 1, by go_num, by omega, by omega, by omega, by first | rfl | trivial⟩
        case measure => simp only [intOf]; omega
      have HVi := HVV.out i hi1 hi2 hi3 (by omega)
      clear HVV
      by_cases hln : i < n
      · obtain rfl : i = sz := by omega
        have hca : ¬ c = at_ := by omega
        rw [beq_self_eq_true] at HVi
        have j5 : (i : Int) < (n : Int) := by omega
        have j6 : ¬ (i : Int) < (i : Int) := by omega
        clear hlt hln hi3
        have E8s := Lib.hid E8.out.size
        have D6 : (w8.drew).cell? ⟨w6.heap.size, 6, none⟩ = some (.slice none 0 0) := (M8.out.drewN 1).cell (j := 6) rfl
        have ZM := Lib.hid Z8.out.lt
        have SL := sub_mid ((Hin.out.below B8.out).more B8.out.size) at_ i hi1 hi2 (off + at_) (fun _ => rfl)
        obtain ⟨X, hX⟩ : ∃ X, (l.drop at_).take (i - at_) = X := ⟨_, rfl⟩
        have HXl : Hid (i - at_ = X.length) := Lib.hid (by rw [← hX, List.length_take, List.length_drop, Hll.out]; omega)
        rw [hX] at SL HVi
        have HV := Lib.hid HVi
        replace SL := Lib.hid SL
        clear hX
        clear HVi
        go_wp2_with fail
        refine wp_region_tree0 (fun _ => True) (.take 0 (.take 2 (.take 3 (.take 4 (.take 5 (.node (.fork 1 (.node (.fork 6 (.take 7 (.node (.fork 8 (.done) (.stop)))) (.stop))) (.stop)))))))) (by kernel_rfl) (by kernel_rfl) (of_decide_eq_true (by kernel_rfl)) rfl (by kernel_rfl) (trivial) ?_
        intro hH
        iterate 5
          refine tree_take (v := ?_) rfl (by rfl) ?_ ?_
          rotate_left
          · intro w2 hSw
            clear hSw
            go_simp
            try with_reducible rfl
          try simp only [Act.put, List.setIfInBounds_toArray, List.set_cons_zero, List.set_cons_succ]
        refine tree_node ?_
        refine tree_move rfl (by rfl) (fun K hK => ?_) ?_
        · go_simp
          refine hK.out _ _ (trivial) ?_
          clear hH hK K
          intro hH
          try simp only [Act.put, List.setIfInBounds_toArray, List.set_cons_zero, List.set_cons_succ]
          refine tree_node ?_
          refine tree_move rfl (by rfl) (fun K hK => ?_) ?_
          · refine wp_appS u8_ty _ _ rfl w8.heap.size (.slice none 0 0) 0 [] rfl (World.ownsRow_nil _ _ _ _) w8.heap.size _ _ _ (bytesV X) rfl (SL.out.drewN 1) (by intro u hu; obtain ⟨x, -, rfl⟩ := List.mem_map.1 hu; rfl) (by omega) (by simp only [maxLen]; omega) (Nat.le_refl _) ?_
            intro v9 w9 hown9 hgr9
            have hown9 := own_count (m := X.length) (show w9.ownsRow w8.heap.size 5 1 v9 _ (bytesV X) from hown9) (by have := HXl.out; omega)
            obtain ⟨A9, c9, rfl, -⟩ := own_slice hown9
            refine hK.out _ _ (trivial) ?_
            have hb9 : Below w8.heap.size w8 w9 := (below_drewN (Below.refl _ _) 1).grown hgr9 (Nat.le_refl _) (fun q hq => by cases hq)
            have d6 := (M8.out.below hb9 M8.out.lt).cell (j := 6) rfl
            have f6 := (M8.out.below hb9 M8.out.lt).frozen (j := 6) (by show 6 < 7; omega)
            obtain ⟨w10, hw10⟩ : ∃ W, w9.setCell ⟨w6.heap.size, 6, none⟩ (.slice A9 X.length c9) = W := ⟨_, rfl⟩
            have M10 : Hid (RowAt w10 w6.heap.size 27 [.string Sm, .string St, .int .i64 ss, .string Sr, .int .i64 mi, .slice A6 nL c6, .slice A9 X.length c9]) := Lib.hid (by rw [← hw10]; exact (M8.out.below hb9 M8.out.lt).set_ (j := 6) (by show 6 < 7; omega) (.slice A9 X.length c9))
            have E10 : Hid (Below w6.heap.size w6 w10) := Lib.hid (by rw [← hw10]; exact ((E8.out.trans (hb9.mono E8s.out))).setCell (Nat.le_refl _) _)
            have P10 : Hid (w10.ownsRow w8.heap.size 5 1 (.slice A9 X.length c9) X.length (bytesV X)) := Lib.hid (by rw [← hw10]; exact own_far' hown9 (p := ⟨w6.heap.size, 6, none⟩) _ M8.out.lt)
            have Z10 : Hid (RowAt w10 w.heap.size 27 zeroM) := Lib.hid (by rw [← hw10]; exact (Z8.out.below hb9 Z8.out.lt).far (by have := Z6l.out; show w.heap.size ≠ w6.heap.size; omega) _)
            have B10 : Hid (Below w.heap.size w w10) := Lib.hid (by rw [← hw10]; exact (below_step B8.out hb9).setCell B67.out _)
            clear hown9 hgr9 hb9 hH hK K D6
            intro hH
            try simp only [Act.put, List.setIfInBounds_toArray, List.set_cons_zero, List.set_cons_succ]
            iterate 1
              refine tree_take (v := ?_) rfl (by rfl) ?_ ?_
              rotate_left
              · intro w2 hSw
                clear hSw
                go_simp
                try with_reducible rfl
              try simp only [Act.put, List.setIfInBounds_toArray, List.set_cons_zero, List.set_cons_succ]
            refine tree_node ?_
            refine tree_move rfl (by rfl) (fun K hK => ?_) ?_
            · go_simp
              refine hK.out _ _ (trivial) ?_
              clear hH hK K d6 f6
              intro hH
              try simp only [Act.put]
              refine tree_done ?_
              go_wp2_with (first | (refine wpList_load_g (wanted_un rfl) 27 _ rfl w6.heap.size 0 rfl _ _ (rangeOf M10.out) Tryz.underlying27 rfl HMi.out ?_) | (refine wpList_store_row rfl 27 _ _ rfl w.heap.size _ [.string Sm, .string St, .int .i64 ss, .string Sr, .int .i64 mi, .slice A6 nL c6, .slice A9 X.length c9] zeroM rfl rfl Z10.out rfl HMi.out (by simp [Value.oneCell']) ?_; intro wz hrz hoz; have RZ := Lib.hid hrz; have OZ := Lib.hid hoz; clear hrz hoz))
              exact bodyPost_ret (v := .tuple #[.agg ([.string Sm, .string St, .int .i64 ss, .string Sr, .int .i64 mi, .slice A6 nL c6, .slice A9 X.length c9] : List Value).toArray, .bool true, .int .i64 i, .bool true, .int .i64 0]) (results_cell_tmps5 Tryz.results31 _ wz ⟨w.heap.size, 0, none⟩ rfl (.agg ([.string Sm, .string St, .int .i64 ss, .string Sr, .int .i64 mi, .slice A6 nL c6, .slice A9 X.length c9] : List Value).toArray) (.bool true) (.int .i64 i) (.bool true) (.int .i64 0) rfl rfl rfl rfl (run_loadVar_mid wz w.heap.size 0 27 [.string Sm, .string St, .int .i64 ss, .string Sr, .int .i64 mi, .slice A6 nL c6, .slice A9 X.length c9] _ (rangeOf RZ.out) Tryz.underlying27 rfl HMi.out)) rfl ⟨.slice A6 nL c6, .slice A9 X.length c9, by rw [HV.out]; simp only [HSM.out], by rw [HV.out, HnL.out]; exact own_mono (own_only8 (own_below O6.out E10.out) OZ.out Z5l.out) B5s.out, by rw [HV.out]; exact own_mono (own_only8 P10.out OZ.out ZM.out) B8.out.size, OZ.out.below B10.out (Nat.le_refl _)⟩
            exact tree_stop
          exact tree_stop
        exact tree_stop
      obtain rfl : i = n := by omega
      have j5 : ¬ (i : Int) < (i : Int) := by omega
      have E8s := Lib.hid E8.out.size
      clear hlt hln hi2
      by_cases hca : c = at_
      · have hia : i = c := by omega
        subst hca hia
        have D6 : (w8.drew).cell? ⟨w6.heap.size, 6, none⟩ = some (.slice none 0 0) := (M8.out.drewN 1).cell (j := 6) rfl
        have ZM := Lib.hid Z8.out.lt
        have HV : Hid (T = ⟨s, L, [], true, i, ((i : Int) == (sz : Int)), 0⟩) := Lib.hid (by rw [HVi, Nat.sub_self, List.take_zero])
        clear HVi
        go_wp2_with fail
        refine wp_region_tree0 (fun _ => True) (.take 0 (.take 2 (.take 3 (.take 4 (.take 5 (.node (.fork 1 (.node (.fork 6 (.take 7 (.node (.fork 8 (.done) (.stop)))) (.stop))) (.stop)))))))) (by kernel_rfl) (by kernel_rfl) (of_decide_eq_true (by kernel_rfl)) rfl (by kernel_rfl) (trivial) ?_
        intro hH
        iterate 5
          refine tree_take (v := ?_) rfl (by rfl) ?_ ?_
          rotate_left
          · intro w2 hSw
            clear hSw
            go_simp
            try with_reducible rfl
          try simp only [Act.put, List.setIfInBounds_toArray, List.set_cons_zero, List.set_cons_succ]
        refine tree_node ?_
        refine tree_move rfl (by rfl) (fun K hK => ?_) ?_
        · go_simp
          refine hK.out _ _ (trivial) ?_
          clear hH hK K
          intro hH
          try simp only [Act.put, List.setIfInBounds_toArray, List.set_cons_zero, List.set_cons_succ]
          refine tree_node ?_
          refine tree_move rfl (by rfl) (fun K hK => ?_) ?_
          · refine wp_appS u8_ty _ _ rfl w8.heap.size (.slice none 0 0) 0 [] rfl (World.ownsRow_nil _ _ _ _) w8.heap.size _ _ _ (bytesV ([] : List UInt8)) rfl (SliceIn.none_ (by decide)) (by intro u hu; obtain ⟨x, -, rfl⟩ := List.mem_map.1 hu; rfl) (by omega) (by simp only [maxLen]; omega) (Nat.le_refl _) ?_
            intro v9 w9 hown9 hgr9
            have hown9 := own_count (m := 0) (show w9.ownsRow w8.heap.size 5 1 v9 _ (bytesV ([] : List UInt8)) from hown9) (rfl)
            obtain ⟨A9, c9, rfl, -⟩ := own_slice hown9
            refine hK.out _ _ (trivial) ?_
            have hb9 : Below w8.heap.size w8 w9 := (below_drewN (Below.refl _ _) 1).grown hgr9 (Nat.le_refl _) (fun q hq => by cases hq)
            have d6 := (M8.out.below hb9 M8.out.lt).cell (j := 6) rfl
            have f6 := (M8.out.below hb9 M8.out.lt).frozen (j := 6) (by show 6 < 7; omega)
            obtain ⟨w10, hw10⟩ : ∃ W, w9.setCell ⟨w6.heap.size, 6, none⟩ (.slice A9 0 c9) = W := ⟨_, rfl⟩
            have M10 : Hid (RowAt w10 w6.heap.size 27 [.string Sm, .string St, .int .i64 ss, .string Sr, .int .i64 mi, .slice A6 nL c6, .slice A9 0 c9]) := Lib.hid (by rw [← hw10]; exact (M8.out.below hb9 M8.out.lt).set_ (j := 6) (by show 6 < 7; omega) (.slice A9 0 c9))
            have E10 : Hid (Below w6.heap.size w6 w10) := Lib.hid (by rw [← hw10]; exact ((E8.out.trans (hb9.mono E8s.out))).setCell (Nat.le_refl _) _)
            have P10 : Hid (w10.ownsRow w8.heap.size 5 1 (.slice A9 0 c9) 0 (bytesV ([] : List UInt8))) := Lib.hid (by rw [← hw10]; exact own_far' hown9 (p := ⟨w6.heap.size, 6, none⟩) _ M8.out.lt)
            have Z10 : Hid (RowAt w10 w.heap.size 27 zeroM) := Lib.hid (by rw [← hw10]; exact (Z8.out.below hb9 Z8.out.lt).far (by have := Z6l.out; show w.heap.size ≠ w6.heap.size; omega) _)
            have B10 : Hid (Below w.heap.size w w10) := Lib.hid (by rw [← hw10]; exact (below_step B8.out hb9).setCell B67.out _)
            clear hown9 hgr9 hb9 hH hK K D6
            intro hH
            try simp only [Act.put, List.setIfInBounds_toArray, List.set_cons_zero, List.set_cons_succ]
            iterate 1
              refine tree_take (v := ?_) rfl (by rfl) ?_ ?_
              rotate_left
              · intro w2 hSw
                clear hSw
                go_simp
                try with_reducible rfl
              try simp only [Act.put, List.setIfInBounds_toArray, List.set_cons_zero, List.set_cons_succ]
            refine tree_node ?_
            refine tree_move rfl (by rfl) (fun K hK => ?_) ?_
            · go_simp
              refine hK.out _ _ (trivial) ?_
              clear hH hK K d6 f6
              intro hH
              try simp only [Act.put]
              refine tree_done ?_
              go_wp2_with (first | (refine wpList_load_g (wanted_un rfl) 27 _ rfl w6.heap.size 0 rfl _ _ (rangeOf M10.out) Tryz.underlying27 rfl HMi.out ?_) | (refine wpList_store_row rfl 27 _ _ rfl w.heap.size _ [.string Sm, .string St, .int .i64 ss, .string Sr, .int .i64 mi, .slice A6 nL c6, .slice A9 0 c9] zeroM rfl rfl Z10.out rfl HMi.out (by simp [Value.oneCell']) ?_; intro wz hrz hoz; have RZ := Lib.hid hrz; have OZ := Lib.hid hoz; clear hrz hoz))
              exact bodyPost_ret (v := .tuple #[.agg ([.string Sm, .string St, .int .i64 ss, .string Sr, .int .i64 mi, .slice A6 nL c6, .slice A9 0 c9] : List Value).toArray, .bool true, .int .i64 i, .bool ((i : Int) == (sz : Int)), .int .i64 0]) (results_cell_tmps5 Tryz.results31 _ wz ⟨w.heap.size, 0, none⟩ rfl (.agg ([.string Sm, .string St, .int .i64 ss, .string Sr, .int .i64 mi, .slice A6 nL c6, .slice A9 0 c9] : List Value).toArray) (.bool true) (.int .i64 i) (.bool ((i : Int) == (sz : Int))) (.int .i64 0) rfl rfl rfl rfl (run_loadVar_mid wz w.heap.size 0 27 [.string Sm, .string St, .int .i64 ss, .string Sr, .int .i64 mi, .slice A6 nL c6, .slice A9 0 c9] _ (rangeOf RZ.out) Tryz.underlying27 rfl HMi.out)) rfl ⟨.slice A6 nL c6, .slice A9 0 c9, by rw [HV.out]; simp only [HSM.out], by rw [HV.out, HnL.out]; exact own_mono (own_only8 (own_below O6.out E10.out) OZ.out Z5l.out) B5s.out, by rw [HV.out]; exact own_mono (own_only8 P10.out OZ.out ZM.out) B8.out.size, OZ.out.below B10.out (Nat.le_refl _)⟩
            exact tree_stop
          exact tree_stop
        exact tree_stop
      have hi2 : i ≤ i := Nat.le_refl _
      have D6 : (w8.drew).cell? ⟨w6.heap.size, 6, none⟩ = some (.slice none 0 0) := (M8.out.drewN 1).cell (j := 6) rfl
      have ZM := Lib.hid Z8.out.lt
      have SL := sub_mid ((Hin.out.below B8.out).more B8.out.size) at_ i hi1 hi2 (off + at_) (fun _ => rfl)
      obtain ⟨X, hX⟩ : ∃ X, (l.drop at_).take (i - at_) = X := ⟨_, rfl⟩
      have HXl : Hid (i - at_ = X.length) := Lib.hid (by rw [← hX, List.length_take, List.length_drop, Hll.out]; omega)
      rw [hX] at SL HVi
      have HV := Lib.hid HVi
      replace SL := Lib.hid SL
      clear hX
      clear HVi
      go_wp2_with fail
      refine wp_region_tree0 (fun _ => True) (.take 0 (.take 2 (.take 3 (.take 4 (.take 5 (.node (.fork 1 (.node (.fork 6 (.take 7 (.node (.fork 8 (.done) (.stop)))) (.stop))) (.stop)))))))) (by kernel_rfl) (by kernel_rfl) (of_decide_eq_true (by kernel_rfl)) rfl (by kernel_rfl) (trivial) ?_
      intro hH
      iterate 5
        refine tree_take (v := ?_) rfl (by rfl) ?_ ?_
        rotate_left
        · intro w2 hSw
          clear hSw
          go_simp
          try with_reducible rfl
        try simp only [Act.put, List.setIfInBounds_toArray, List.set_cons_zero, List.set_cons_succ]
      refine tree_node ?_
      refine tree_move rfl (by rfl) (fun K hK => ?_) ?_
      · go_simp
        refine hK.out _ _ (trivial) ?_
        clear hH hK K
        intro hH
        try simp only [Act.put, List.setIfInBounds_toArray, List.set_cons_zero, List.set_cons_succ]
        refine tree_node ?_
        refine tree_move rfl (by rfl) (fun K hK => ?_) ?_
        · refine wp_appS u8_ty _ _ rfl w8.heap.size (.slice none 0 0) 0 [] rfl (World.ownsRow_nil _ _ _ _) w8.heap.size _ _ _ (bytesV X) rfl (SL.out.drewN 1) (by intro u hu; obtain ⟨x, -, rfl⟩ := List.mem_map.1 hu; rfl) (by omega) (by simp only [maxLen]; omega) (Nat.le_refl _) ?_
          intro v9 w9 hown9 hgr9
          have hown9 := own_count (m := X.length) (show w9.ownsRow w8.heap.size 5 1 v9 _ (bytesV X) from hown9) (by have := HXl.out; omega)
          obtain ⟨A9, c9, rfl, -⟩ := own_slice hown9
          refine hK.out _ _ (trivial) ?_
          have hb9 : Below w8.heap.size w8 w9 := (below_drewN (Below.refl _ _) 1).grown hgr9 (Nat.le_refl _) (fun q hq => by cases hq)
          have d6 := (M8.out.below hb9 M8.out.lt).cell (j := 6) rfl
          have f6 := (M8.out.below hb9 M8.out.lt).frozen (j := 6) (by show 6 < 7; omega)
          obtain ⟨w10, hw10⟩ : ∃ W, w9.setCell ⟨w6.heap.size, 6, none⟩ (.slice A9 X.length c9) = W := ⟨_, rfl⟩
          have M10 : Hid (RowAt w10 w6.heap.size 27 [.string Sm, .string St, .int .i64 ss, .string Sr, .int .i64 mi, .slice A6 nL c6, .slice A9 X.length c9]) := Lib.hid (by rw [← hw10]; exact (M8.out.below hb9 M8.out.lt).set_ (j := 6) (by show 6 < 7; omega) (.slice A9 X.length c9))
          have E10 : Hid (Below w6.heap.size w6 w10) := Lib.hid (by rw [← hw10]; exact ((E8.out.trans (hb9.mono E8s.out))).setCell (Nat.le_refl _) _)
          have P10 : Hid (w10.ownsRow w8.heap.size 5 1 (.slice A9 X.length c9) X.length (bytesV X)) := Lib.hid (by rw [← hw10]; exact own_far' hown9 (p := ⟨w6.heap.size, 6, none⟩) _ M8.out.lt)
          have Z10 : Hid (RowAt w10 w.heap.size 27 zeroM) := Lib.hid (by rw [← hw10]; exact (Z8.out.below hb9 Z8.out.lt).far (by have := Z6l.out; show w.heap.size ≠ w6.heap.size; omega) _)
          have B10 : Hid (Below w.heap.size w w10) := Lib.hid (by rw [← hw10]; exact (below_step B8.out hb9).setCell B67.out _)
          clear hown9 hgr9 hb9 hH hK K D6
          intro hH
          try simp only [Act.put, List.setIfInBounds_toArray, List.set_cons_zero, List.set_cons_succ]
          iterate 1
            refine tree_take (v := ?_) rfl (by rfl) ?_ ?_
            rotate_left
            · intro w2 hSw
              clear hSw
              go_simp
              try with_reducible rfl
            try simp only [Act.put, List.setIfInBounds_toArray, List.set_cons_zero, List.set_cons_succ]
          refine tree_node ?_
          refine tree_move rfl (by rfl) (fun K hK => ?_) ?_
          · go_simp
            refine hK.out _ _ (trivial) ?_
            clear hH hK K d6 f6
            intro hH
            try simp only [Act.put]
            refine tree_done ?_
            go_wp2_with (first | (refine wpList_load_g (wanted_un rfl) 27 _ rfl w6.heap.size 0 rfl _ _ (rangeOf M10.out) Tryz.underlying27 rfl HMi.out ?_) | (refine wpList_store_row rfl 27 _ _ rfl w.heap.size _ [.string Sm, .string St, .int .i64 ss, .string Sr, .int .i64 mi, .slice A6 nL c6, .slice A9 X.length c9] zeroM rfl rfl Z10.out rfl HMi.out (by simp [Value.oneCell']) ?_; intro wz hrz hoz; have RZ := Lib.hid hrz; have OZ := Lib.hid hoz; clear hrz hoz))
            exact bodyPost_ret (v := .tuple #[.agg ([.string Sm, .string St, .int .i64 ss, .string Sr, .int .i64 mi, .slice A6 nL c6, .slice A9 X.length c9] : List Value).toArray, .bool true, .int .i64 i, .bool ((i : Int) == (sz : Int)), .int .i64 0]) (results_cell_tmps5 Tryz.results31 _ wz ⟨w.heap.size, 0, none⟩ rfl (.agg ([.string Sm, .string St, .int .i64 ss, .string Sr, .int .i64 mi, .slice A6 nL c6, .slice A9 X.length c9] : List Value).toArray) (.bool true) (.int .i64 i) (.bool ((i : Int) == (sz : Int))) (.int .i64 0) rfl rfl rfl rfl (run_loadVar_mid wz w.heap.size 0 27 [.string Sm, .string St, .int .i64 ss, .string Sr, .int .i64 mi, .slice A6 nL c6, .slice A9 X.length c9] _ (rangeOf RZ.out) Tryz.underlying27 rfl HMi.out)) rfl ⟨.slice A6 nL c6, .slice A9 X.length c9, by rw [HV.out]; simp only [HSM.out], by rw [HV.out, HnL.out]; exact own_mono (own_only8 (own_below O6.out E10.out) OZ.out Z5l.out) B5s.out, by rw [HV.out]; exact own_mono (own_only8 P10.out OZ.out ZM.out) B8.out.size, OZ.out.below B10.out (Nat.le_refl _)⟩
          exact tree_stop
        exact tree_stop
      exact tree_stop
  · skip
    go_upto_region 5 with (first
      | (have _t := Z1; refine wpList_store_row rfl 27 _ _ rfl w1.heap.size _ zeroM zeroM rfl rfl (RowAt.new w1 27 _) rfl HMi.out (by simp [zeroM, Value.oneCell']) ?_; intro w2 hr2 ho2; have hb2 := ho2.below ((Below.refl w1.heap.size w1).alloc (Nat.le_refl _) _) (Nat.le_refl _); have N2 := Lib.hid hr2; have B2 := Lib.hid (below_step B1.out hb2); have Z2 := Lib.hid (Z1.out.below hb2 Z1.out.lt); have Z1l := Lib.hid Z1.out.lt; clear hr2 ho2 hb2 Z1)
      | (go_at_call 68; (with_reducible refine (RP.out _ B2.out).mono ?_); rintro x3 w3 ⟨⟨C3, HC3, rfl⟩, hb3⟩; have N3 := Lib.hid (N2.out.below hb3 N2.out.lt); have Z3 := Lib.hid (Z2.out.below hb3 Z2.out.lt); have B3 := Lib.hid (below_step B2.out hb3); have tok3 : Hid True := Lib.hid trivial; clear hb3 N2 Z2)
      | (have _t := tok3; refine wpList_store_row rfl 23 _ _ rfl w3.heap.size _ C3 zeroS rfl rfl (RowAt.new w3 23 _) (by rw [← HC3.out]; rfl) (by rw [← HC3.out]; exact HSi.out) (by rw [← HC3.out]; exact staC_one _) ?_; intro w4 hr4 ho4; have hb4 := ho4.below ((Below.refl w3.heap.size w3).alloc (Nat.le_refl _) _) (Nat.le_refl _); rw [← HC3.out] at hr4; have L4 := Lib.hid hr4; have N4 := Lib.hid (N3.out.below hb4 N3.out.lt); have Z4 := Lib.hid (Z3.out.below hb4 Z3.out.lt); have B4 := Lib.hid (below_step B3.out hb4); have N3l := Lib.hid N3.out.lt; have Z3l := Lib.hid Z3.out.lt; have B3s := Lib.hid B3.out.size; clear hr4 ho4 hb4 N3 Z3 tok3)
      | (go_at_call 69; (with_reducible refine (RQ.out _ B4.out).mono ?_); rintro x5 w5 ⟨⟨C5, HC5, rfl⟩, hb5⟩; have N5 := Lib.hid (N4.out.below hb5 N4.out.lt); have Z5 := Lib.hid (Z4.out.below hb5 Z4.out.lt); have L5 := Lib.hid (L4.out.below hb5 L4.out.lt); have B5 := Lib.hid (below_step B4.out hb5); clear hb5)
      | (have _t := L5; refine wpList_store_row rfl 23 _ _ rfl w3.heap.size _ C5 _ rfl rfl L5.out (by rw [← HC5.out]; rfl) (by rw [← HC5.out]; exact HSi.out) (by rw [← HC5.out]; exact staC_one _) ?_; intro w6 hr6 ho6; rw [← HC5.out] at hr6; have L6 := Lib.hid hr6; have N6 := Lib.hid (N5.out.only ho6 (by have := N3l.out; omega)); have Z6 := Lib.hid (Z5.out.only ho6 (by have := Z3l.out; omega)); have B6 := Lib.hid (ho6.below B5.out B3s.out); clear hr6 ho6))
    have hr5 := L6.out
    have hn5 := N6.out
    have hz5 := Z6.out
    have hb5 := B6.out
    clear L5 N5 Z5 B5 L6 N6 Z6 B6
    obtain ⟨w5, hw5⟩ : ∃ W : World, W = w6 := ⟨_, rfl⟩
    subst hw5
    rw [show requestL l = lineM true l from rfl] at hr5 ⊢
    clear RP RQ L4 N4 Z4 B4
    have hlz := lineM_nn true l
    have hll := lineM_le true l
    have hlp := lineM_pos (asks := true) (b := l)
    obtain ⟨R, hR⟩ : ∃ R, lineM true l = R := ⟨_, rfl⟩
    rw [hR] at hr5 hlz hll hlp ⊢
    obtain ⟨s, n1, e1⟩ := R
    simp only at hr5 hlz hll hlp ⊢
    rw [Hll.out] at hll
    obtain ⟨n0, rfl⟩ : ∃ n0 : Nat, n1 = n0 := ⟨n1.toNat, by omega⟩
    rw [Int.toNat_natCast] at hll hlp
    obtain ⟨Sm, St, Sr, hs5, hsm⟩ := msg_cells s
    rw [hs5] at hr5
    obtain ⟨ss, hss⟩ : ∃ x, s.status = x := ⟨_, rfl⟩
    obtain ⟨mi, hmi⟩ : ∃ x, s.minor = x := ⟨_, rfl⟩
    rw [hss, hmi] at hr5 hsm
    have HSM := Lib.hid hsm
    have L5 := Lib.hid hr5
    have N5 := Lib.hid hn5
    have Z5 := Lib.hid hz5
    have B5 := Lib.hid hb5
    have HR := Lib.hid hR
    clear hr5 hn5 hz5 hb5 hs5 hsm hss hmi hlz hR
    by_cases h11 : e1 = 11
    · subst h11
      have HV : Hid (T = Told8.none 0 0) := Lib.hid (by rw [← HT.out]; unfold toldM; rw [HR.out]; rfl)
      have HZ := Lib.hid (Z5.out)
      have HB := Lib.hid (B5.out)
      have HN := Lib.hid (N5.out)
      clear hlp
      go_wp2_with (first
        | (refine wpList_load_g (wanted_un rfl) 27 _ rfl w1.heap.size 0 rfl zeroM _ (rangeOf HN.out) Tryz.underlying27 rfl HMi.out ?_)
        | (refine wpList_store_row rfl 27 _ _ rfl w.heap.size _ zeroM zeroM rfl rfl HZ.out rfl HMi.out (by simp [zeroM, Value.oneCell']) ?_; intro wz hrz hoz; have RZ := Lib.hid hrz; have OZ := Lib.hid hoz; clear hrz hoz))
      exact bodyPost_ret (v := .tuple #[.agg zeroM.toArray, .bool false, .int .i64 0, .bool false, .int .i64 0]) (results_cell_tmps5 Tryz.results31 _ wz ⟨w.heap.size, 0, none⟩ rfl (.agg zeroM.toArray) (.bool false) (.int .i64 0) (.bool false) (.int .i64 0) rfl rfl rfl rfl (run_loadVar_mid wz w.heap.size 0 27 zeroM _ (rangeOf RZ.out) Tryz.underlying27 rfl HMi.out)) rfl ⟨.slice none 0 0, .slice none 0 0, by rw [HV.out]; rfl, by rw [HV.out]; exact World.ownsRow_nil _ _ _ _, by rw [HV.out]; exact World.ownsRow_nil _ _ _ _, OZ.out.below HB.out (Nat.le_refl _)⟩
    by_cases h10 : e1 ≠ 0
    · have n11 : (e1 == 11) = false := by rw [beq_eq_false_iff_ne]; exact h11
      have n10 : (e1 != 0) = true := by rw [bne_iff_ne]; exact h10
      have HV : Hid (T = Told8.none 0 e1) := Lib.hid (by rw [← HT.out]; unfold toldM; rw [HR.out]; simp only; rw [if_neg h11, if_pos h10])
      clear h11 h10
      have HZ := Lib.hid (Z5.out)
      have HB := Lib.hid (B5.out)
      have HN := Lib.hid (N5.out)
      clear hlp
      go_wp2_with (first
        | (refine wpList_load_g (wanted_un rfl) 27 _ rfl w1.heap.size 0 rfl zeroM _ (rangeOf HN.out) Tryz.underlying27 rfl HMi.out ?_)
        | (refine wpList_store_row rfl 27 _ _ rfl w.heap.size _ zeroM zeroM rfl rfl HZ.out rfl HMi.out (by simp [zeroM, Value.oneCell']) ?_; intro wz hrz hoz; have RZ := Lib.hid hrz; have OZ := Lib.hid hoz; clear hrz hoz))
      exact bodyPost_ret (v := .tuple #[.agg zeroM.toArray, .bool false, .int .i64 0, .bool false, .int .i64 e1]) (results_cell_tmps5 Tryz.results31 _ wz ⟨w.heap.size, 0, none⟩ rfl (.agg zeroM.toArray) (.bool false) (.int .i64 0) (.bool false) (.int .i64 e1) rfl rfl rfl rfl (run_loadVar_mid wz w.heap.size 0 27 zeroM _ (rangeOf RZ.out) Tryz.underlying27 rfl HMi.out)) rfl ⟨.slice none 0 0, .slice none 0 0, by rw [HV.out]; rfl, by rw [HV.out]; exact World.ownsRow_nil _ _ _ _, by rw [HV.out]; exact World.ownsRow_nil _ _ _ _, OZ.out.below HB.out (Nat.le_refl _)⟩
    obtain rfl : e1 = 0 := by omega
    have h0n : 0 < n0 := hlp rfl
    have HQ : Hid (T = headT M.data.toList s n0 (l.drop n0)) := Lib.hid (by rw [← HT.out]; unfold toldM; rw [HR.out]; simp only; rw [if_neg (by decide), if_neg (by simp), Int.toNat_natCast])
    have HA := Hin.out.2.2.2 (by omega)
    obtain ⟨b0, off, rfl, -⟩ := HA
    have PA := Lib.hid (fun (W : World) (hW : Below w.heap.size w W) (off' : Nat) (ho : n0 < n → off' = off + n0) => refParse3_any (some ⟨b0, off', none⟩) (n - n0) (c - n0) (l.drop n0) W (sub_at ((Hin.out.below hW).more hW.size) n0 hll off' ho) (by omega))
    have hpb := parseL_bd (b := l.drop n0)
    have hFB := parse_fldB (l.drop n0) (by rw [List.length_drop, Hll.out]; omega)
    rw [List.length_drop, Hll.out] at hpb
    have hp0 : n = n0 → (parseFs (l.drop n0)).2.2 = 11 := fun h => by rw [List.drop_of_length_le (by rw [Hll.out]; omega)]; rfl
    obtain ⟨Q, hQ⟩ : ∃ Q, parseFs (l.drop n0) = Q := ⟨_, rfl⟩
    rw [hQ] at PA hpb hFB hp0
    obtain ⟨L, k2, e2⟩ := Q
    simp only at PA hpb hFB hp0
    have HQ2 := Lib.hid hQ
    have jn : (n0 : Int) ≤ (n : Int) := by omega
    have jc : (n0 : Int) ≤ (c : Int) := by omega
    clear h11 h10 hlp hQ HT HR
    by_cases h2 : e2 = 11
    · subst h2
      have HV : Hid (T = Told8.none n0 0) := Lib.hid (by rw [HQ.out]; unfold headT; rw [HQ2.out]; rfl)
      clear hpb hFB hp0 HQ HQ2
      by_cases hcn : c = n0
      · have hnn : n = n0 := by omega
        subst hcn hnn
        rw [Nat.sub_self] at PA
        have HZ := Lib.hid (Z5.out)
        have HB := Lib.hid (B5.out)
        have HN := Lib.hid (N5.out)
        clear h0n
        go_wp2_with (first
          | (go_at_call 70; (with_reducible refine (PA.out _ B5.out off (fun h => absurd h (Nat.lt_irrefl _))).mono ?_); rintro x6 w6 ⟨v6, rfl, -, hb6⟩; replace HN := Lib.hid (HN.out.below hb6 HN.out.lt); replace HZ := Lib.hid (HZ.out.below hb6 HZ.out.lt); replace HB := Lib.hid (below_step HB.out hb6); clear hb6)
          | (refine wpList_load_g (wanted_un rfl) 27 _ rfl w1.heap.size 0 rfl zeroM _ (rangeOf HN.out) Tryz.underlying27 rfl HMi.out ?_)
          | (refine wpList_store_row rfl 27 _ _ rfl w.heap.size _ zeroM zeroM rfl rfl HZ.out rfl HMi.out (by simp [zeroM, Value.oneCell']) ?_; intro wz hrz hoz; have RZ := Lib.hid hrz; have OZ := Lib.hid hoz; clear hrz hoz))
        exact bodyPost_ret (v := .tuple #[.agg zeroM.toArray, .bool false, .int .i64 n, .bool false, .int .i64 0]) (results_cell_tmps5 Tryz.results31 _ wz ⟨w.heap.size, 0, none⟩ rfl (.agg zeroM.toArray) (.bool false) (.int .i64 n) (.bool false) (.int .i64 0) rfl rfl rfl rfl (run_loadVar_mid wz w.heap.size 0 27 zeroM _ (rangeOf RZ.out) Tryz.underlying27 rfl HMi.out)) rfl ⟨.slice none 0 0, .slice none 0 0, by rw [HV.out]; rfl, by rw [HV.out]; exact World.ownsRow_nil _ _ _ _, by rw [HV.out]; exact World.ownsRow_nil _ _ _ _, OZ.out.below HB.out (Nat.le_refl _)⟩
      · skip
        have HZ := Lib.hid (Z5.out)
        have HB := Lib.hid (B5.out)
        have HN := Lib.hid (N5.out)
        clear h0n
        go_wp2_with (first
          | (go_at_call 70; (with_reducible refine (PA.out _ B5.out (off + n0) (fun _ => rfl)).mono ?_); rintro x6 w6 ⟨v6, rfl, -, hb6⟩; replace HN := Lib.hid (HN.out.below hb6 HN.out.lt); replace HZ := Lib.hid (HZ.out.below hb6 HZ.out.lt); replace HB := Lib.hid (below_step HB.out hb6); clear hb6)
          | (refine wpList_load_g (wanted_un rfl) 27 _ rfl w1.heap.size 0 rfl zeroM _ (rangeOf HN.out) Tryz.underlying27 rfl HMi.out ?_)
          | (refine wpList_store_row rfl 27 _ _ rfl w.heap.size _ zeroM zeroM rfl rfl HZ.out rfl HMi.out (by simp [zeroM, Value.oneCell']) ?_; intro wz hrz hoz; have RZ := Lib.hid hrz; have OZ := Lib.hid hoz; clear hrz hoz))
        exact bodyPost_ret (v := .tuple #[.agg zeroM.toArray, .bool false, .int .i64 n0, .bool false, .int .i64 0]) (results_cell_tmps5 Tryz.results31 _ wz ⟨w.heap.size, 0, none⟩ rfl (.agg zeroM.toArray) (.bool false) (.int .i64 n0) (.bool false) (.int .i64 0) rfl rfl rfl rfl (run_loadVar_mid wz w.heap.size 0 27 zeroM _ (rangeOf RZ.out) Tryz.underlying27 rfl HMi.out)) rfl ⟨.slice none 0 0, .slice none 0 0, by rw [HV.out]; rfl, by rw [HV.out]; exact World.ownsRow_nil _ _ _ _, by rw [HV.out]; exact World.ownsRow_nil _ _ _ _, OZ.out.below HB.out (Nat.le_refl _)⟩
    have hcn : ¬ c = n0 := fun h => h2 (hp0 (by omega))
    have hnn : ¬ n = n0 := fun h => h2 (hp0 h)
    by_cases h20 : e2 ≠ 0
    · have n11 : (e2 == 11) = false := by rw [beq_eq_false_iff_ne]; exact h2
      have n10 : (e2 != 0) = true := by rw [bne_iff_ne]; exact h20
      have HV : Hid (T = Told8.none 0 e2) := Lib.hid (by rw [HQ.out]; unfold headT; rw [HQ2.out]; simp only; rw [if_neg h2, if_pos h20])
      clear hpb hFB hp0 HQ HQ2 h2 h20
      have HZ := Lib.hid (Z5.out)
      have HB := Lib.hid (B5.out)
      have HN := Lib.hid (N5.out)
      clear h0n
      go_wp2_with (first
        | (go_at_call 70; (with_reducible refine (PA.out _ B5.out (off + n0) (fun _ => rfl)).mono ?_); rintro x6 w6 ⟨v6, rfl, -, hb6⟩; replace HN := Lib.hid (HN.out.below hb6 HN.out.lt); replace HZ := Lib.hid (HZ.out.below hb6 HZ.out.lt); replace HB := Lib.hid (below_step HB.out hb6); clear hb6)
        | (refine wpList_load_g (wanted_un rfl) 27 _ rfl w1.heap.size 0 rfl zeroM _ (rangeOf HN.out) Tryz.underlying27 rfl HMi.out ?_)
        | (refine wpList_store_row rfl 27 _ _ rfl w.heap.size _ zeroM zeroM rfl rfl HZ.out rfl HMi.out (by simp [zeroM, Value.oneCell']) ?_; intro wz hrz hoz; have RZ := Lib.hid hrz; have OZ := Lib.hid hoz; clear hrz hoz))
      exact bodyPost_ret (v := .tuple #[.agg zeroM.toArray, .bool false, .int .i64 0, .bool false, .int .i64 e2]) (results_cell_tmps5 Tryz.results31 _ wz ⟨w.heap.size, 0, none⟩ rfl (.agg zeroM.toArray) (.bool false) (.int .i64 0) (.bool false) (.int .i64 e2) rfl rfl rfl rfl (run_loadVar_mid wz w.heap.size 0 27 zeroM _ (rangeOf RZ.out) Tryz.underlying27 rfl HMi.out)) rfl ⟨.slice none 0 0, .slice none 0 0, by rw [HV.out]; rfl, by rw [HV.out]; exact World.ownsRow_nil _ _ _ _, by rw [HV.out]; exact World.ownsRow_nil _ _ _ _, OZ.out.below HB.out (Nat.le_refl _)⟩
    obtain rfl : e2 = 0 := by omega
    obtain ⟨hk0, hkn⟩ := hpb rfl
    obtain ⟨k, rfl⟩ : ∃ k : Nat, k2 = k := ⟨k2.toNat, by omega⟩
    rw [Int.toNat_natCast] at hk0 hkn
    obtain ⟨at_, hat⟩ : ∃ x, n0 + k = x := ⟨_, rfl⟩
    have hatn : at_ ≤ n := by omega
    have hatw : IntKind.i64.wrap ((n0 : Int) + (k : Int)) = (at_ : Int) := by rw [← hat]; exact IntWalk.i64_in _ ⟨by omega, by omega⟩
    have FR := Lib.hid (fun (W : World) (A2 : Option Addr) (c2 : Nat) (h : SliceIn W W.heap.size 2 A2 L.length c2 (fldsV L)) => (rframing_any s A2 L.length c2 L (.slice none 0 0) M W h hFB))
    have hfl := framing_left s L M.data.toList
    have hfm := framing_most s L M.data.toList
    have HQ3 : Hid (T = if (framingL s L M.data.toList).2.2 ≠ 0 then Told8.none 0 (framingL s L M.data.toList).2.2 else bodyT s L (framingL s L M.data.toList) at_ (l.drop at_)) := Lib.hid (by rw [HQ.out]; unfold headT; rw [HQ2.out]; simp only; rw [if_neg (by decide), if_neg (by simp), Int.toNat_natCast, hat, List.drop_drop, hat])
    obtain ⟨F, hF⟩ : ∃ F, framingL s L M.data.toList = F := ⟨_, rfl⟩
    rw [hF] at FR hfl hfm HQ3
    obtain ⟨ki, si, e3⟩ := F
    simp only at FR hfl hfm HQ3
    obtain ⟨z, rfl⟩ : ∃ z : Nat, si = z := ⟨si.toNat, by omega⟩
    simp only [HSM.out] at FR
    obtain ⟨nL, hnL⟩ : ∃ x, L.length = x := ⟨_, rfl⟩
    rw [hnL] at FR PA
    have HnL := Lib.hid hnL
    have hzm : z ≤ 1048576 := by omega
    clear hpb hp0 HQ HQ2 h2 h20 hFB hfl hfm hF hnL hk0 hkn
    go_upto_region 16 with (first
      | (go_at_call 70; (with_reducible refine (PA.out _ B5.out (off + n0) (fun _ => rfl)).mono ?_); rintro x6 w6 ⟨v6, rfl, ho6, hb6⟩; obtain ⟨A6, c6, rfl, -⟩ := own_slice ho6; have O6 := Lib.hid ho6; have B5s := Lib.hid B5.out.size; have Z5l := Lib.hid Z5.out.lt; have N6 := Lib.hid (N5.out.below hb6 N5.out.lt); have Z6 := Lib.hid (Z5.out.below hb6 Z5.out.lt); have L6 := Lib.hid (L5.out.below hb6 L5.out.lt); have B6 := Lib.hid (below_step B5.out hb6); have tok6 : Hid True := Lib.hid trivial; clear hb6 ho6)
      | (have _t := tok6; refine wpList_load_g (wanted_un rfl) 23 _ rfl w3.heap.size 0 rfl _ _ (rangeOf L6.out) Tryz.underlying23 rfl HSi.out ?_)
      | (have _t := tok6; refine wpList_store_row rfl 27 _ _ rfl w6.heap.size _ [.string Sm, .string St, .int .i64 ss, .string Sr, .int .i64 mi, .slice A6 nL c6, .slice none 0 0] zeroM rfl rfl (RowAt.new w6 27 _) rfl HMi.out (by simp [Value.oneCell']) ?_; intro w7 hr7 ho7; have hb7 := ho7.below ((Below.refl w6.heap.size w6).alloc (Nat.le_refl _) _) (Nat.le_refl _); have M7 := Lib.hid hr7; have E7 := Lib.hid hb7; have O7 := Lib.hid (own_below O6.out hb7); have N7 := Lib.hid (N6.out.below hb7 N6.out.lt); have Z7 := Lib.hid (Z6.out.below hb7 Z6.out.lt); have B7 := Lib.hid (below_step B6.out hb7); have B67 := Lib.hid B6.out.size; have Z6l := Lib.hid Z6.out.lt; have tok7 : Hid True := Lib.hid trivial; clear hr7 ho7 hb7 tok6)
      | (have _t := tok7; refine wpList_load_g (wanted_un rfl) 27 _ rfl w6.heap.size 0 rfl _ _ (rangeOf M7.out) Tryz.underlying27 rfl HMi.out ?_)
      | (go_at_call 34; (with_reducible refine (FR.out _ A6 c6 (SliceIn.of_own O7.out)).mono ?_); rintro x8 w8 ⟨rfl, hb8⟩; have M8 := Lib.hid (M7.out.below hb8 M7.out.lt); have E8 := Lib.hid (below_step E7.out hb8); have N8 := Lib.hid (N7.out.below hb8 N7.out.lt); have Z8 := Lib.hid (Z7.out.below hb8 Z7.out.lt); have B8 := Lib.hid (below_step B7.out hb8); clear hb8 tok7))
    clear PA FR N5 Z5 B5 L5 N6 Z6 L6 B6 M7 O7 N7 Z7 E7
    by_cases h30 : e3 ≠ 0
    · have n30 : (e3 != 0) = true := by rw [bne_iff_ne]; exact h30
      have HV : Hid (T = Told8.none 0 e3) := Lib.hid (by rw [HQ3.out, if_pos h30])
      clear h30
      have HZ := Lib.hid (Z8.out)
      have HB := Lib.hid (B8.out)
      have HN := Lib.hid (N8.out)
      clear h0n
      go_wp2_with (first
        | (refine wpList_load_g (wanted_un rfl) 27 _ rfl w1.heap.size 0 rfl zeroM _ (rangeOf HN.out) Tryz.underlying27 rfl HMi.out ?_)
        | (refine wpList_store_row rfl 27 _ _ rfl w.heap.size _ zeroM zeroM rfl rfl HZ.out rfl HMi.out (by simp [zeroM, Value.oneCell']) ?_; intro wz hrz hoz; have RZ := Lib.hid hrz; have OZ := Lib.hid hoz; clear hrz hoz))
      exact bodyPost_ret (v := .tuple #[.agg zeroM.toArray, .bool false, .int .i64 0, .bool false, .int .i64 e3]) (results_cell_tmps5 Tryz.results31 _ wz ⟨w.heap.size, 0, none⟩ rfl (.agg zeroM.toArray) (.bool false) (.int .i64 0) (.bool false) (.int .i64 e3) rfl rfl rfl rfl (run_loadVar_mid wz w.heap.size 0 27 zeroM _ (rangeOf RZ.out) Tryz.underlying27 rfl HMi.out)) rfl ⟨.slice none 0 0, .slice none 0 0, by rw [HV.out]; rfl, by rw [HV.out]; exact World.ownsRow_nil _ _ _ _, by rw [HV.out]; exact World.ownsRow_nil _ _ _ _, OZ.out.below HB.out (Nat.le_refl _)⟩
    obtain rfl : e3 = 0 := by omega
    rw [if_neg (by simp)] at HQ3
    clear h30
    clear HSi
    have j2 : (at_ : Int) ≤ (n : Int) := by omega
    have j3 : (at_ : Int) ≤ (c : Int) := by omega
    clear hat jn jc hcn hnn
    by_cases h2k : ki = 2
    · subst h2k
      have hrl := run_le (l.drop at_).length Dec.new (l.drop at_) (Nat.le_refl _)
      rw [List.length_drop, Hll.out] at hrl
      have TL := Lib.hid (fun (W : World) (hW : Below w.heap.size w W) (off' : Nat) (ho : at_ < n → off' = off + at_) => told_any (some ⟨b0, off', none⟩) (n - at_) (c - at_) (l.drop at_) W (sub_at ((Hin.out.below hW).more hW.size) at_ hatn off' ho) (by omega))
      have HT2 : Hid (T = if (run Dec.new (l.drop at_)).2.2.1 ≠ 0 then Told8.none 0 (run Dec.new (l.drop at_)).2.2.1 else ⟨s, L, (run Dec.new (l.drop at_)).1, true, at_ + (run Dec.new (l.drop at_)).2.1, decide ((run Dec.new (l.drop at_)).2.2.2.w = 4), 0⟩) := Lib.hid (by rw [HQ3.out]; unfold bodyT; rw [if_pos rfl])
      obtain ⟨X, tk, er, d, hX⟩ : ∃ X tk er d, run Dec.new (l.drop at_) = (X, tk, er, d) := ⟨_, _, _, _, rfl⟩
      rw [hX] at TL HT2 hrl
      simp only at TL HT2 hrl
      have htw : IntKind.i64.wrap ((at_ : Int) + (tk : Int)) = ((at_ + tk : Nat) : Int) := by rw [IntWalk.i64_in _ ⟨by omega, by omega⟩]; omega
      obtain ⟨tt, htt⟩ : ∃ x, at_ + tk = x := ⟨_, rfl⟩
      rw [htt] at htw HT2
      clear hX hrl HQ3 htt
      by_cases her : er ≠ 0
      · have n10 : (er != 0) = true := by rw [bne_iff_ne]; exact her
        have HV : Hid (T = Told8.none 0 er) := Lib.hid (by rw [HT2.out, if_pos her])
        clear her HT2
        by_cases hca : c = at_
        · have hna : n = at_ := by omega
          subst hca hna
          rw [Nat.sub_self] at TL
          have HZ := Lib.hid (Z8.out)
          have HB := Lib.hid (B8.out)
          have HN := Lib.hid (N8.out)
          clear h0n
          go_wp2_with (first
            | (go_at_call 71; (with_reducible refine (TL.out _ B8.out off (fun h => absurd h (Nat.lt_irrefl _))).mono ?_); rintro x9 w9 ⟨v9, rfl, -, hb9⟩; replace HN := Lib.hid (HN.out.below hb9 HN.out.lt); replace HZ := Lib.hid (HZ.out.below hb9 HZ.out.lt); replace HB := Lib.hid (below_step HB.out hb9); clear hb9)
            | (refine wpList_load_g (wanted_un rfl) 27 _ rfl w1.heap.size 0 rfl zeroM _ (rangeOf HN.out) Tryz.underlying27 rfl HMi.out ?_)
            | (refine wpList_store_row rfl 27 _ _ rfl w.heap.size _ zeroM zeroM rfl rfl HZ.out rfl HMi.out (by simp [zeroM, Value.oneCell']) ?_; intro wz hrz hoz; have RZ := Lib.hid hrz; have OZ := Lib.hid hoz; clear hrz hoz))
          exact bodyPost_ret (v := .tuple #[.agg zeroM.toArray, .bool false, .int .i64 0, .bool false, .int .i64 er]) (results_cell_tmps5 Tryz.results31 _ wz ⟨w.heap.size, 0, none⟩ rfl (.agg zeroM.toArray) (.bool false) (.int .i64 0) (.bool false) (.int .i64 er) rfl rfl rfl rfl (run_loadVar_mid wz w.heap.size 0 27 zeroM _ (rangeOf RZ.out) Tryz.underlying27 rfl HMi.out)) rfl ⟨.slice none 0 0, .slice none 0 0, by rw [HV.out]; rfl, by rw [HV.out]; exact World.ownsRow_nil _ _ _ _, by rw [HV.out]; exact World.ownsRow_nil _ _ _ _, OZ.out.below HB.out (Nat.le_refl _)⟩
        · skip
          have HZ := Lib.hid (Z8.out)
          have HB := Lib.hid (B8.out)
          have HN := Lib.hid (N8.out)
          clear h0n
          go_wp2_with (first
            | (go_at_call 71; (with_reducible refine (TL.out _ B8.out (off + at_) (fun _ => rfl)).mono ?_); rintro x9 w9 ⟨v9, rfl, -, hb9⟩; replace HN := Lib.hid (HN.out.below hb9 HN.out.lt); replace HZ := Lib.hid (HZ.out.below hb9 HZ.out.lt); replace HB := Lib.hid (below_step HB.out hb9); clear hb9)
            | (refine wpList_load_g (wanted_un rfl) 27 _ rfl w1.heap.size 0 rfl zeroM _ (rangeOf HN.out) Tryz.underlying27 rfl HMi.out ?_)
            | (refine wpList_store_row rfl 27 _ _ rfl w.heap.size _ zeroM zeroM rfl rfl HZ.out rfl HMi.out (by simp [zeroM, Value.oneCell']) ?_; intro wz hrz hoz; have RZ := Lib.hid hrz; have OZ := Lib.hid hoz; clear hrz hoz))
          exact bodyPost_ret (v := .tuple #[.agg zeroM.toArray, .bool false, .int .i64 0, .bool false, .int .i64 er]) (results_cell_tmps5 Tryz.results31 _ wz ⟨w.heap.size, 0, none⟩ rfl (.agg zeroM.toArray) (.bool false) (.int .i64 0) (.bool false) (.int .i64 er) rfl rfl rfl rfl (run_loadVar_mid wz w.heap.size 0 27 zeroM _ (rangeOf RZ.out) Tryz.underlying27 rfl HMi.out)) rfl ⟨.slice none 0 0, .slice none 0 0, by rw [HV.out]; rfl, by rw [HV.out]; exact World.ownsRow_nil _ _ _ _, by rw [HV.out]; exact World.ownsRow_nil _ _ _ _, OZ.out.below HB.out (Nat.le_refl _)⟩
      obtain rfl : er = 0 := by omega
      rw [if_neg (by simp)] at HT2
      have HV := HT2
      clear her HT2
      by_cases hca : c = at_
      · have hna : n = at_ := by omega
        subst hca hna
        rw [Nat.sub_self] at TL
        go_wp2_with (first
          | (go_at_call 71; (with_reducible refine (TL.out _ B8.out off (fun h => absurd h (Nat.lt_irrefl _))).mono ?_); rintro x9 w9 ⟨v9, rfl, ho9, hb9⟩; obtain ⟨A9, c9, rfl, -⟩ := own_slice ho9; have ZM := Lib.hid Z8.out.lt; have d6 := (M8.out.below hb9 M8.out.lt).cell (j := 6) rfl; have f6 := (M8.out.below hb9 M8.out.lt).frozen (j := 6) (by show 6 < 7; omega); obtain ⟨w10, hw10⟩ : ∃ W, w9.setCell ⟨w6.heap.size, 6, none⟩ (.slice A9 X.length c9) = W := ⟨_, rfl⟩; have M10 : Hid (RowAt w10 w6.heap.size 27 [.string Sm, .string St, .int .i64 ss, .string Sr, .int .i64 mi, .slice A6 nL c6, .slice A9 X.length c9]) := Lib.hid (by rw [← hw10]; exact (M8.out.below hb9 M8.out.lt).set_ (j := 6) (by show 6 < 7; omega) (.slice A9 X.length c9)); have E10 : Hid (Below w6.heap.size w6 w10) := Lib.hid (by rw [← hw10]; exact (below_step E8.out hb9).setCell (Nat.le_refl _) _); have P10 : Hid (w10.ownsRow w8.heap.size 5 1 (.slice A9 X.length c9) X.length (bytesV X)) := Lib.hid (by rw [← hw10]; exact own_far' ho9 (p := ⟨w6.heap.size, 6, none⟩) _ M8.out.lt); have Z10 : Hid (RowAt w10 w.heap.size 27 zeroM) := Lib.hid (by rw [← hw10]; exact (Z8.out.below hb9 Z8.out.lt).far (by have := Z6l.out; show w.heap.size ≠ w6.heap.size; omega) _); have B10 : Hid (Below w.heap.size w w10) := Lib.hid (by rw [← hw10]; exact (below_step B8.out hb9).setCell B67.out _); have tok10 : Hid True := Lib.hid trivial; clear ho9 hb9)
          | (have _t := tok10; refine wpList_load_g (wanted_un rfl) 27 _ rfl w6.heap.size 0 rfl _ _ (rangeOf M10.out) Tryz.underlying27 rfl HMi.out ?_)
          | (have _t := tok10; refine wpList_store_row rfl 27 _ _ rfl w.heap.size _ [.string Sm, .string St, .int .i64 ss, .string Sr, .int .i64 mi, .slice A6 nL c6, .slice A9 X.length c9] zeroM rfl rfl Z10.out rfl HMi.out (by simp [Value.oneCell']) ?_; intro wz hrz hoz; have RZ := Lib.hid hrz; have OZ := Lib.hid hoz; clear hrz hoz))
        exact bodyPost_ret (v := .tuple #[.agg ([.string Sm, .string St, .int .i64 ss, .string Sr, .int .i64 mi, .slice A6 nL c6, .slice A9 X.length c9] : List Value).toArray, .bool true, .int .i64 tt, .bool (decide (d.w = 4)), .int .i64 0]) (results_cell_tmps5 Tryz.results31 _ wz ⟨w.heap.size, 0, none⟩ rfl (.agg ([.string Sm, .string St, .int .i64 ss, .string Sr, .int .i64 mi, .slice A6 nL c6, .slice A9 X.length c9] : List Value).toArray) (.bool true) (.int .i64 tt) (.bool (decide (d.w = 4))) (.int .i64 0) rfl rfl rfl rfl (run_loadVar_mid wz w.heap.size 0 27 [.string Sm, .string St, .int .i64 ss, .string Sr, .int .i64 mi, .slice A6 nL c6, .slice A9 X.length c9] _ (rangeOf RZ.out) Tryz.underlying27 rfl HMi.out)) rfl ⟨.slice A6 nL c6, .slice A9 X.length c9, by rw [HV.out]; simp only [HSM.out], by rw [HV.out, HnL.out]; exact own_mono (own_only8 (own_below O6.out E10.out) OZ.out Z5l.out) B5s.out, by rw [HV.out]; exact own_mono (own_only8 P10.out OZ.out ZM.out) B8.out.size, OZ.out.below B10.out (Nat.le_refl _)⟩
      · skip
        go_wp2_with (first
          | (go_at_call 71; (with_reducible refine (TL.out _ B8.out (off + at_) (fun _ => rfl)).mono ?_); rintro x9 w9 ⟨v9, rfl, ho9, hb9⟩; obtain ⟨A9, c9, rfl, -⟩ := own_slice ho9; have ZM := Lib.hid Z8.out.lt; have d6 := (M8.out.below hb9 M8.out.lt).cell (j := 6) rfl; have f6 := (M8.out.below hb9 M8.out.lt).frozen (j := 6) (by show 6 < 7; omega); obtain ⟨w10, hw10⟩ : ∃ W, w9.setCell ⟨w6.heap.size, 6, none⟩ (.slice A9 X.length c9) = W := ⟨_, rfl⟩; have M10 : Hid (RowAt w10 w6.heap.size 27 [.string Sm, .string St, .int .i64 ss, .string Sr, .int .i64 mi, .slice A6 nL c6, .slice A9 X.length c9]) := Lib.hid (by rw [← hw10]; exact (M8.out.below hb9 M8.out.lt).set_ (j := 6) (by show 6 < 7; omega) (.slice A9 X.length c9)); have E10 : Hid (Below w6.heap.size w6 w10) := Lib.hid (by rw [← hw10]; exact (below_step E8.out hb9).setCell (Nat.le_refl _) _); have P10 : Hid (w10.ownsRow w8.heap.size 5 1 (.slice A9 X.length c9) X.length (bytesV X)) := Lib.hid (by rw [← hw10]; exact own_far' ho9 (p := ⟨w6.heap.size, 6, none⟩) _ M8.out.lt); have Z10 : Hid (RowAt w10 w.heap.size 27 zeroM) := Lib.hid (by rw [← hw10]; exact (Z8.out.below hb9 Z8.out.lt).far (by have := Z6l.out; show w.heap.size ≠ w6.heap.size; omega) _); have B10 : Hid (Below w.heap.size w w10) := Lib.hid (by rw [← hw10]; exact (below_step B8.out hb9).setCell B67.out _); have tok10 : Hid True := Lib.hid trivial; clear ho9 hb9)
          | (have _t := tok10; refine wpList_load_g (wanted_un rfl) 27 _ rfl w6.heap.size 0 rfl _ _ (rangeOf M10.out) Tryz.underlying27 rfl HMi.out ?_)
          | (have _t := tok10; refine wpList_store_row rfl 27 _ _ rfl w.heap.size _ [.string Sm, .string St, .int .i64 ss, .string Sr, .int .i64 mi, .slice A6 nL c6, .slice A9 X.length c9] zeroM rfl rfl Z10.out rfl HMi.out (by simp [Value.oneCell']) ?_; intro wz hrz hoz; have RZ := Lib.hid hrz; have OZ := Lib.hid hoz; clear hrz hoz))
        exact bodyPost_ret (v := .tuple #[.agg ([.string Sm, .string St, .int .i64 ss, .string Sr, .int .i64 mi, .slice A6 nL c6, .slice A9 X.length c9] : List Value).toArray, .bool true, .int .i64 tt, .bool (decide (d.w = 4)), .int .i64 0]) (results_cell_tmps5 Tryz.results31 _ wz ⟨w.heap.size, 0, none⟩ rfl (.agg ([.string Sm, .string St, .int .i64 ss, .string Sr, .int .i64 mi, .slice A6 nL c6, .slice A9 X.length c9] : List Value).toArray) (.bool true) (.int .i64 tt) (.bool (decide (d.w = 4))) (.int .i64 0) rfl rfl rfl rfl (run_loadVar_mid wz w.heap.size 0 27 [.string Sm, .string St, .int .i64 ss, .string Sr, .int .i64 mi, .slice A6 nL c6, .slice A9 X.length c9] _ (rangeOf RZ.out) Tryz.underlying27 rfl HMi.out)) rfl ⟨.slice A6 nL c6, .slice A9 X.length c9, by rw [HV.out]; simp only [HSM.out], by rw [HV.out, HnL.out]; exact own_mono (own_only8 (own_below O6.out E10.out) OZ.out Z5l.out) B5s.out, by rw [HV.out]; exact own_mono (own_only8 P10.out OZ.out ZM.out) B8.out.size, OZ.out.below B10.out (Nat.le_refl _)⟩
    have n2k : (ki == 2) = false := by rw [beq_eq_false_iff_ne]; exact h2k
    obtain ⟨sz, hsz⟩ : ∃ x, at_ + z = x := ⟨_, rfl⟩
    have hws : IntKind.i64.wrap ((at_ : Int) + (z : Int)) = (sz : Int) := by rw [IntWalk.i64_in _ ⟨by omega, by omega⟩]; omega
    have hsz1 : at_ ≤ sz := by omega
    have HVV : Hid (∀ i : Nat, at_ ≤ i → i ≤ n → i ≤ sz → (i = n ∨ i = sz) → T = ⟨s, L, (l.drop at_).take (i - at_), true, i, (i : Int) == (sz : Int), 0⟩) := Lib.hid (fun i h1 h2 h3 h4 => by
      rw [HQ3.out]
      unfold bodyT
      rw [if_neg h2k]
      simp only
      rw [Int.toNat_natCast, List.length_drop, Hll.out]
      have e1 : (l.drop at_).take z = (l.drop at_).take (i - at_) := by
        rcases h4 with h4 | h4
        · rw [List.take_of_length_le (by rw [List.length_drop, Hll.out]; omega), List.take_of_length_le (by rw [List.length_drop, Hll.out]; omega)]
        · rw [show i - at_ = z by omega]
      have e2 : at_ + min z (n - at_) = i := by omega
      have e3 : decide (z ≤ n - at_) = ((i : Int) == (sz : Int)) := by
        rw [Bool.eq_iff_iff, decide_eq_true_eq, beq_iff_eq]; omega
      rw [e1, e2, e3])
    clear h2k hsz HQ3
    go_wp2_with fail
    go_loopw [25] (fun v wr => ∃ i : Nat, v = .int .i64 i ∧ at_ ≤ i ∧ i ≤ n ∧ i ≤ sz ∧ w8 = wr) (fun v _ => n - (intOf v).toNat)
    case atStart => exact ⟨at_, rfl, Nat.le_refl _, hatn, hsz1, rfl⟩
    case round =>
      obtain ⟨i, rfl, hi1, hi2, hi3, hw8⟩ := hrel
      subst hw8
      have k1 : (at_ : Int) ≤ (i : Int) := by omega
      have k2 : (i : Int) ≤ (c : Int) := by omega
      by_cases hlt : i < n ∧ i < sz
      · obtain ⟨h1, h2⟩ := hlt
        have j5 : (i : Int) < (n : Int) := by omega
        have j6 : (i : Int) < (sz : Int) := by omega
        clear HVV
        go_wp2_with fail
        go_roundw
        case rel => exact ⟨i + 1, by go_num, by omega, by omega, by omega, by first | rfl | trivial⟩
        case measure => simp only [intOf]; omega
      have HVi := HVV.out i hi1 hi2 hi3 (by omega)
      clear HVV
      by_cases hln : i < n
      · obtain rfl : i = sz := by omega
        have hca : ¬ c = at_ := by omega
        rw [beq_self_eq_true] at HVi
        have j5 : (i : Int) < (n : Int) := by omega
        have j6 : ¬ (i : Int) < (i : Int) := by omega
        clear hlt hln hi3
        have E8s := Lib.hid E8.out.size
        have D6 : (w8.drew).cell? ⟨w6.heap.size, 6, none⟩ = some (.slice none 0 0) := (M8.out.drewN 1).cell (j := 6) rfl
        have ZM := Lib.hid Z8.out.lt
        have SL := sub_mid ((Hin.out.below B8.out).more B8.out.size) at_ i hi1 hi2 (off + at_) (fun _ => rfl)
        obtain ⟨X, hX⟩ : ∃ X, (l.drop at_).take (i - at_) = X := ⟨_, rfl⟩
        have HXl : Hid (i - at_ = X.length) := Lib.hid (by rw [← hX, List.length_take, List.length_drop, Hll.out]; omega)
        rw [hX] at SL HVi
        have HV := Lib.hid HVi
        replace SL := Lib.hid SL
        clear hX
        clear HVi
        go_wp2_with fail
        refine wp_region_tree0 (fun _ => True) (.take 0 (.take 2 (.take 3 (.take 4 (.take 5 (.node (.fork 1 (.node (.fork 6 (.take 7 (.node (.fork 8 (.done) (.stop)))) (.stop))) (.stop)))))))) (by kernel_rfl) (by kernel_rfl) (of_decide_eq_true (by kernel_rfl)) rfl (by kernel_rfl) (trivial) ?_
        intro hH
        iterate 5
          refine tree_take (v := ?_) rfl (by rfl) ?_ ?_
          rotate_left
          · intro w2 hSw
            clear hSw
            go_simp
            try with_reducible rfl
          try simp only [Act.put, List.setIfInBounds_toArray, List.set_cons_zero, List.set_cons_succ]
        refine tree_node ?_
        refine tree_move rfl (by rfl) (fun K hK => ?_) ?_
        · go_simp
          refine hK.out _ _ (trivial) ?_
          clear hH hK K
          intro hH
          try simp only [Act.put, List.setIfInBounds_toArray, List.set_cons_zero, List.set_cons_succ]
          refine tree_node ?_
          refine tree_move rfl (by rfl) (fun K hK => ?_) ?_
          · refine wp_appS u8_ty _ _ rfl w8.heap.size (.slice none 0 0) 0 [] rfl (World.ownsRow_nil _ _ _ _) w8.heap.size _ _ _ (bytesV X) rfl (SL.out.drewN 1) (by intro u hu; obtain ⟨x, -, rfl⟩ := List.mem_map.1 hu; rfl) (by omega) (by simp only [maxLen]; omega) (Nat.le_refl _) ?_
            intro v9 w9 hown9 hgr9
            have hown9 := own_count (m := X.length) (show w9.ownsRow w8.heap.size 5 1 v9 _ (bytesV X) from hown9) (by have := HXl.out; omega)
            obtain ⟨A9, c9, rfl, -⟩ := own_slice hown9
            refine hK.out _ _ (trivial) ?_
            have hb9 : Below w8.heap.size w8 w9 := (below_drewN (Below.refl _ _) 1).grown hgr9 (Nat.le_refl _) (fun q hq => by cases hq)
            have d6 := (M8.out.below hb9 M8.out.lt).cell (j := 6) rfl
            have f6 := (M8.out.below hb9 M8.out.lt).frozen (j := 6) (by show 6 < 7; omega)
            obtain ⟨w10, hw10⟩ : ∃ W, w9.setCell ⟨w6.heap.size, 6, none⟩ (.slice A9 X.length c9) = W := ⟨_, rfl⟩
            have M10 : Hid (RowAt w10 w6.heap.size 27 [.string Sm, .string St, .int .i64 ss, .string Sr, .int .i64 mi, .slice A6 nL c6, .slice A9 X.length c9]) := Lib.hid (by rw [← hw10]; exact (M8.out.below hb9 M8.out.lt).set_ (j := 6) (by show 6 < 7; omega) (.slice A9 X.length c9))
            have E10 : Hid (Below w6.heap.size w6 w10) := Lib.hid (by rw [← hw10]; exact ((E8.out.trans (hb9.mono E8s.out))).setCell (Nat.le_refl _) _)
            have P10 : Hid (w10.ownsRow w8.heap.size 5 1 (.slice A9 X.length c9) X.length (bytesV X)) := Lib.hid (by rw [← hw10]; exact own_far' hown9 (p := ⟨w6.heap.size, 6, none⟩) _ M8.out.lt)
            have Z10 : Hid (RowAt w10 w.heap.size 27 zeroM) := Lib.hid (by rw [← hw10]; exact (Z8.out.below hb9 Z8.out.lt).far (by have := Z6l.out; show w.heap.size ≠ w6.heap.size; omega) _)
            have B10 : Hid (Below w.heap.size w w10) := Lib.hid (by rw [← hw10]; exact (below_step B8.out hb9).setCell B67.out _)
            clear hown9 hgr9 hb9 hH hK K D6
            intro hH
            try simp only [Act.put, List.setIfInBounds_toArray, List.set_cons_zero, List.set_cons_succ]
            iterate 1
              refine tree_take (v := ?_) rfl (by rfl) ?_ ?_
              rotate_left
              · intro w2 hSw
                clear hSw
                go_simp
                try with_reducible rfl
              try simp only [Act.put, List.setIfInBounds_toArray, List.set_cons_zero, List.set_cons_succ]
            refine tree_node ?_
            refine tree_move rfl (by rfl) (fun K hK => ?_) ?_
            · go_simp
              refine hK.out _ _ (trivial) ?_
              clear hH hK K d6 f6
              intro hH
              try simp only [Act.put]
              refine tree_done ?_
              go_wp2_with (first | (refine wpList_load_g (wanted_un rfl) 27 _ rfl w6.heap.size 0 rfl _ _ (rangeOf M10.out) Tryz.underlying27 rfl HMi.out ?_) | (refine wpList_store_row rfl 27 _ _ rfl w.heap.size _ [.string Sm, .string St, .int .i64 ss, .string Sr, .int .i64 mi, .slice A6 nL c6, .slice A9 X.length c9] zeroM rfl rfl Z10.out rfl HMi.out (by simp [Value.oneCell']) ?_; intro wz hrz hoz; have RZ := Lib.hid hrz; have OZ := Lib.hid hoz; clear hrz hoz))
              exact bodyPost_ret (v := .tuple #[.agg ([.string Sm, .string St, .int .i64 ss, .string Sr, .int .i64 mi, .slice A6 nL c6, .slice A9 X.length c9] : List Value).toArray, .bool true, .int .i64 i, .bool true, .int .i64 0]) (results_cell_tmps5 Tryz.results31 _ wz ⟨w.heap.size, 0, none⟩ rfl (.agg ([.string Sm, .string St, .int .i64 ss, .string Sr, .int .i64 mi, .slice A6 nL c6, .slice A9 X.length c9] : List Value).toArray) (.bool true) (.int .i64 i) (.bool true) (.int .i64 0) rfl rfl rfl rfl (run_loadVar_mid wz w.heap.size 0 27 [.string Sm, .string St, .int .i64 ss, .string Sr, .int .i64 mi, .slice A6 nL c6, .slice A9 X.length c9] _ (rangeOf RZ.out) Tryz.underlying27 rfl HMi.out)) rfl ⟨.slice A6 nL c6, .slice A9 X.length c9, by rw [HV.out]; simp only [HSM.out], by rw [HV.out, HnL.out]; exact own_mono (own_only8 (own_below O6.out E10.out) OZ.out Z5l.out) B5s.out, by rw [HV.out]; exact own_mono (own_only8 P10.out OZ.out ZM.out) B8.out.size, OZ.out.below B10.out (Nat.le_refl _)⟩
            exact tree_stop
          exact tree_stop
        exact tree_stop
      obtain rfl : i = n := by omega
      have j5 : ¬ (i : Int) < (i : Int) := by omega
      have E8s := Lib.hid E8.out.size
      clear hlt hln hi2
      by_cases hca : c = at_
      · have hia : i = c := by omega
        subst hca hia
        have D6 : (w8.drew).cell? ⟨w6.heap.size, 6, none⟩ = some (.slice none 0 0) := (M8.out.drewN 1).cell (j := 6) rfl
        have ZM := Lib.hid Z8.out.lt
        have HV : Hid (T = ⟨s, L, [], true, i, ((i : Int) == (sz : Int)), 0⟩) := Lib.hid (by rw [HVi, Nat.sub_self, List.take_zero])
        clear HVi
        go_wp2_with fail
        refine wp_region_tree0 (fun _ => True) (.take 0 (.take 2 (.take 3 (.take 4 (.take 5 (.node (.fork 1 (.node (.fork 6 (.take 7 (.node (.fork 8 (.done) (.stop)))) (.stop))) (.stop)))))))) (by kernel_rfl) (by kernel_rfl) (of_decide_eq_true (by kernel_rfl)) rfl (by kernel_rfl) (trivial) ?_
        intro hH
        iterate 5
          refine tree_take (v := ?_) rfl (by rfl) ?_ ?_
          rotate_left
          · intro w2 hSw
            clear hSw
            go_simp
            try with_reducible rfl
          try simp only [Act.put, List.setIfInBounds_toArray, List.set_cons_zero, List.set_cons_succ]
        refine tree_node ?_
        refine tree_move rfl (by rfl) (fun K hK => ?_) ?_
        · go_simp
          refine hK.out _ _ (trivial) ?_
          clear hH hK K
          intro hH
          try simp only [Act.put, List.setIfInBounds_toArray, List.set_cons_zero, List.set_cons_succ]
          refine tree_node ?_
          refine tree_move rfl (by rfl) (fun K hK => ?_) ?_
          · refine wp_appS u8_ty _ _ rfl w8.heap.size (.slice none 0 0) 0 [] rfl (World.ownsRow_nil _ _ _ _) w8.heap.size _ _ _ (bytesV ([] : List UInt8)) rfl (SliceIn.none_ (by decide)) (by intro u hu; obtain ⟨x, -, rfl⟩ := List.mem_map.1 hu; rfl) (by omega) (by simp only [maxLen]; omega) (Nat.le_refl _) ?_
            intro v9 w9 hown9 hgr9
            have hown9 := own_count (m := 0) (show w9.ownsRow w8.heap.size 5 1 v9 _ (bytesV ([] : List UInt8)) from hown9) (rfl)
            obtain ⟨A9, c9, rfl, -⟩ := own_slice hown9
            refine hK.out _ _ (trivial) ?_
            have hb9 : Below w8.heap.size w8 w9 := (below_drewN (Below.refl _ _) 1).grown hgr9 (Nat.le_refl _) (fun q hq => by cases hq)
            have d6 := (M8.out.below hb9 M8.out.lt).cell (j := 6) rfl
            have f6 := (M8.out.below hb9 M8.out.lt).frozen (j := 6) (by show 6 < 7; omega)
            obtain ⟨w10, hw10⟩ : ∃ W, w9.setCell ⟨w6.heap.size, 6, none⟩ (.slice A9 0 c9) = W := ⟨_, rfl⟩
            have M10 : Hid (RowAt w10 w6.heap.size 27 [.string Sm, .string St, .int .i64 ss, .string Sr, .int .i64 mi, .slice A6 nL c6, .slice A9 0 c9]) := Lib.hid (by rw [← hw10]; exact (M8.out.below hb9 M8.out.lt).set_ (j := 6) (by show 6 < 7; omega) (.slice A9 0 c9))
            have E10 : Hid (Below w6.heap.size w6 w10) := Lib.hid (by rw [← hw10]; exact ((E8.out.trans (hb9.mono E8s.out))).setCell (Nat.le_refl _) _)
            have P10 : Hid (w10.ownsRow w8.heap.size 5 1 (.slice A9 0 c9) 0 (bytesV ([] : List UInt8))) := Lib.hid (by rw [← hw10]; exact own_far' hown9 (p := ⟨w6.heap.size, 6, none⟩) _ M8.out.lt)
            have Z10 : Hid (RowAt w10 w.heap.size 27 zeroM) := Lib.hid (by rw [← hw10]; exact (Z8.out.below hb9 Z8.out.lt).far (by have := Z6l.out; show w.heap.size ≠ w6.heap.size; omega) _)
            have B10 : Hid (Below w.heap.size w w10) := Lib.hid (by rw [← hw10]; exact (below_step B8.out hb9).setCell B67.out _)
            clear hown9 hgr9 hb9 hH hK K D6
            intro hH
            try simp only [Act.put, List.setIfInBounds_toArray, List.set_cons_zero, List.set_cons_succ]
            iterate 1
              refine tree_take (v := ?_) rfl (by rfl) ?_ ?_
              rotate_left
              · intro w2 hSw
                clear hSw
                go_simp
                try with_reducible rfl
              try simp only [Act.put, List.setIfInBounds_toArray, List.set_cons_zero, List.set_cons_succ]
            refine tree_node ?_
            refine tree_move rfl (by rfl) (fun K hK => ?_) ?_
            · go_simp
              refine hK.out _ _ (trivial) ?_
              clear hH hK K d6 f6
              intro hH
              try simp only [Act.put]
              refine tree_done ?_
              go_wp2_with (first | (refine wpList_load_g (wanted_un rfl) 27 _ rfl w6.heap.size 0 rfl _ _ (rangeOf M10.out) Tryz.underlying27 rfl HMi.out ?_) | (refine wpList_store_row rfl 27 _ _ rfl w.heap.size _ [.string Sm, .string St, .int .i64 ss, .string Sr, .int .i64 mi, .slice A6 nL c6, .slice A9 0 c9] zeroM rfl rfl Z10.out rfl HMi.out (by simp [Value.oneCell']) ?_; intro wz hrz hoz; have RZ := Lib.hid hrz; have OZ := Lib.hid hoz; clear hrz hoz))
              exact bodyPost_ret (v := .tuple #[.agg ([.string Sm, .string St, .int .i64 ss, .string Sr, .int .i64 mi, .slice A6 nL c6, .slice A9 0 c9] : List Value).toArray, .bool true, .int .i64 i, .bool ((i : Int) == (sz : Int)), .int .i64 0]) (results_cell_tmps5 Tryz.results31 _ wz ⟨w.heap.size, 0, none⟩ rfl (.agg ([.string Sm, .string St, .int .i64 ss, .string Sr, .int .i64 mi, .slice A6 nL c6, .slice A9 0 c9] : List Value).toArray) (.bool true) (.int .i64 i) (.bool ((i : Int) == (sz : Int))) (.int .i64 0) rfl rfl rfl rfl (run_loadVar_mid wz w.heap.size 0 27 [.string Sm, .string St, .int .i64 ss, .string Sr, .int .i64 mi, .slice A6 nL c6, .slice A9 0 c9] _ (rangeOf RZ.out) Tryz.underlying27 rfl HMi.out)) rfl ⟨.slice A6 nL c6, .slice A9 0 c9, by rw [HV.out]; simp only [HSM.out], by rw [HV.out, HnL.out]; exact own_mono (own_only8 (own_below O6.out E10.out) OZ.out Z5l.out) B5s.out, by rw [HV.out]; exact own_mono (own_only8 P10.out OZ.out ZM.out) B8.out.size, OZ.out.below B10.out (Nat.le_refl _)⟩
            exact tree_stop
          exact tree_stop
        exact tree_stop
      have hi2 : i ≤ i := Nat.le_refl _
      have D6 : (w8.drew).cell? ⟨w6.heap.size, 6, none⟩ = some (.slice none 0 0) := (M8.out.drewN 1).cell (j := 6) rfl
      have ZM := Lib.hid Z8.out.lt
      have SL := sub_mid ((Hin.out.below B8.out).more B8.out.size) at_ i hi1 hi2 (off + at_) (fun _ => rfl)
      obtain ⟨X, hX⟩ : ∃ X, (l.drop at_).take (i - at_) = X := ⟨_, rfl⟩
      have HXl : Hid (i - at_ = X.length) := Lib.hid (by rw [← hX, List.length_take, List.length_drop, Hll.out]; omega)
      rw [hX] at SL HVi
      have HV := Lib.hid HVi
      replace SL := Lib.hid SL
      clear hX
      clear HVi
      go_wp2_with fail
      refine wp_region_tree0 (fun _ => True) (.take 0 (.take 2 (.take 3 (.take 4 (.take 5 (.node (.fork 1 (.node (.fork 6 (.take 7 (.node (.fork 8 (.done) (.stop)))) (.stop))) (.stop)))))))) (by kernel_rfl) (by kernel_rfl) (of_decide_eq_true (by kernel_rfl)) rfl (by kernel_rfl) (trivial) ?_
      intro hH
      iterate 5
        refine tree_take (v := ?_) rfl (by rfl) ?_ ?_
        rotate_left
        · intro w2 hSw
          clear hSw
          go_simp
          try with_reducible rfl
        try simp only [Act.put, List.setIfInBounds_toArray, List.set_cons_zero, List.set_cons_succ]
      refine tree_node ?_
      refine tree_move rfl (by rfl) (fun K hK => ?_) ?_
      · go_simp
        refine hK.out _ _ (trivial) ?_
        clear hH hK K
        intro hH
        try simp only [Act.put, List.setIfInBounds_toArray, List.set_cons_zero, List.set_cons_succ]
        refine tree_node ?_
        refine tree_move rfl (by rfl) (fun K hK => ?_) ?_
        · refine wp_appS u8_ty _ _ rfl w8.heap.size (.slice none 0 0) 0 [] rfl (World.ownsRow_nil _ _ _ _) w8.heap.size _ _ _ (bytesV X) rfl (SL.out.drewN 1) (by intro u hu; obtain ⟨x, -, rfl⟩ := List.mem_map.1 hu; rfl) (by omega) (by simp only [maxLen]; omega) (Nat.le_refl _) ?_
          intro v9 w9 hown9 hgr9
          have hown9 := own_count (m := X.length) (show w9.ownsRow w8.heap.size 5 1 v9 _ (bytesV X) from hown9) (by have := HXl.out; omega)
          obtain ⟨A9, c9, rfl, -⟩ := own_slice hown9
          refine hK.out _ _ (trivial) ?_
          have hb9 : Below w8.heap.size w8 w9 := (below_drewN (Below.refl _ _) 1).grown hgr9 (Nat.le_refl _) (fun q hq => by cases hq)
          have d6 := (M8.out.below hb9 M8.out.lt).cell (j := 6) rfl
          have f6 := (M8.out.below hb9 M8.out.lt).frozen (j := 6) (by show 6 < 7; omega)
          obtain ⟨w10, hw10⟩ : ∃ W, w9.setCell ⟨w6.heap.size, 6, none⟩ (.slice A9 X.length c9) = W := ⟨_, rfl⟩
          have M10 : Hid (RowAt w10 w6.heap.size 27 [.string Sm, .string St, .int .i64 ss, .string Sr, .int .i64 mi, .slice A6 nL c6, .slice A9 X.length c9]) := Lib.hid (by rw [← hw10]; exact (M8.out.below hb9 M8.out.lt).set_ (j := 6) (by show 6 < 7; omega) (.slice A9 X.length c9))
          have E10 : Hid (Below w6.heap.size w6 w10) := Lib.hid (by rw [← hw10]; exact ((E8.out.trans (hb9.mono E8s.out))).setCell (Nat.le_refl _) _)
          have P10 : Hid (w10.ownsRow w8.heap.size 5 1 (.slice A9 X.length c9) X.length (bytesV X)) := Lib.hid (by rw [← hw10]; exact own_far' hown9 (p := ⟨w6.heap.size, 6, none⟩) _ M8.out.lt)
          have Z10 : Hid (RowAt w10 w.heap.size 27 zeroM) := Lib.hid (by rw [← hw10]; exact (Z8.out.below hb9 Z8.out.lt).far (by have := Z6l.out; show w.heap.size ≠ w6.heap.size; omega) _)
          have B10 : Hid (Below w.heap.size w w10) := Lib.hid (by rw [← hw10]; exact (below_step B8.out hb9).setCell B67.out _)
          clear hown9 hgr9 hb9 hH hK K D6
          intro hH
          try simp only [Act.put, List.setIfInBounds_toArray, List.set_cons_zero, List.set_cons_succ]
          iterate 1
            refine tree_take (v := ?_) rfl (by rfl) ?_ ?_
            rotate_left
            · intro w2 hSw
              clear hSw
              go_simp
              try with_reducible rfl
            try simp only [Act.put, List.setIfInBounds_toArray, List.set_cons_zero, List.set_cons_succ]
          refine tree_node ?_
          refine tree_move rfl (by rfl) (fun K hK => ?_) ?_
          · go_simp
            refine hK.out _ _ (trivial) ?_
            clear hH hK K d6 f6
            intro hH
            try simp only [Act.put]
            refine tree_done ?_
            go_wp2_with (first | (refine wpList_load_g (wanted_un rfl) 27 _ rfl w6.heap.size 0 rfl _ _ (rangeOf M10.out) Tryz.underlying27 rfl HMi.out ?_) | (refine wpList_store_row rfl 27 _ _ rfl w.heap.size _ [.string Sm, .string St, .int .i64 ss, .string Sr, .int .i64 mi, .slice A6 nL c6, .slice A9 X.length c9] zeroM rfl rfl Z10.out rfl HMi.out (by simp [Value.oneCell']) ?_; intro wz hrz hoz; have RZ := Lib.hid hrz; have OZ := Lib.hid hoz; clear hrz hoz))
            exact bodyPost_ret (v := .tuple #[.agg ([.string Sm, .string St, .int .i64 ss, .string Sr, .int .i64 mi, .slice A6 nL c6, .slice A9 X.length c9] : List Value).toArray, .bool true, .int .i64 i, .bool ((i : Int) == (sz : Int)), .int .i64 0]) (results_cell_tmps5 Tryz.results31 _ wz ⟨w.heap.size, 0, none⟩ rfl (.agg ([.string Sm, .string St, .int .i64 ss, .string Sr, .int .i64 mi, .slice A6 nL c6, .slice A9 X.length c9] : List Value).toArray) (.bool true) (.int .i64 i) (.bool ((i : Int) == (sz : Int))) (.int .i64 0) rfl rfl rfl rfl (run_loadVar_mid wz w.heap.size 0 27 [.string Sm, .string St, .int .i64 ss, .string Sr, .int .i64 mi, .slice A6 nL c6, .slice A9 X.length c9] _ (rangeOf RZ.out) Tryz.underlying27 rfl HMi.out)) rfl ⟨.slice A6 nL c6, .slice A9 X.length c9, by rw [HV.out]; simp only [HSM.out], by rw [HV.out, HnL.out]; exact own_mono (own_only8 (own_below O6.out E10.out) OZ.out Z5l.out) B5s.out, by rw [HV.out]; exact own_mono (own_only8 P10.out OZ.out ZM.out) B8.out.size, OZ.out.below B10.out (Nat.le_refl _)⟩
          exact tree_stop
        exact tree_stop
      exact tree_stop
end Go.Proofs.YtniiadhhefgmcaaGreatDoor
