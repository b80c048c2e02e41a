/- Walks of layer 7: octets fed to a decoder; a chunked body, decoded. Conditions: at most 10^8 octets; the decoder's numbers within bounds; the world's shape. -/
import Derived.Test.YtefoaldpllnijaaDoorChu4
import Derived.Test.YtefoaldpllnijaaDoorPie
namespace Go.Proofs.YtefoaldpllnijaaDoor
open Go.RowKit IH
set_option maxRecDepth 100000
theorem results_tmp4 {fn : Func} {t u v x : Tmp} (h : fn.results = #[.tmp t, .tmp u, .tmp v, .tmp x]) (tmps : Array Value) (P : Program) (w : World) :
    (results fn tmps).run P w = .ok (.tuple #[tmps.getD t undef, tmps.getD u undef, tmps.getD v undef, tmps.getD x undef]) w := by
  simp [results, h]
theorem ahead_err (out : List UInt8) (a : Nat) (e : Int) (d : Dec) (he : e ≠ 0) : IH.ahead out a (([] : List UInt8), 0, e, d) = ([], 0, e, d) := by unfold IH.ahead; rw [if_pos he]
theorem ahead_ok (out x : List UInt8) (a k : Nat) (d : Dec) : IH.ahead out a (x, k, 0, d) = (out ++ x, a + k, 0, d) := by unfold IH.ahead; rw [if_neg (by simp)]
/-- A decoder that has found a fault. -/
theorem cfeedF_any (g : Nat) (d : Dec) (x : Value) (w : World) (hr : RowAt w g 96 (decV d)) (hf : d.fault ≠ 0) :
    Calls Tryd.prog 23 #[.pointer (some ⟨g, 0, none⟩), x] w fun e w' => e = .returned (.tuple #[.slice none 0 0, .int .i64 0, .bool false, .int .i64 d.fault]) ∧ ∃ q, w' = w.drewN q := by
  have d4 := hr.cell (j := 4) rfl
  have nb : (d.fault != 0) = true := by rw [bne_iff_ne]; exact hf
  have nb2 : (d.fault == 0) = false := by rw [beq_eq_false_iff_ne]; exact hf
  go_enter Tryd.func23, Tryd.ntmps23
  go_wp2
  go_region
  go_wp2
  (try simp only [Exit.inBlock, Exit.then]); refine bodyPost_ret (results_tmp4 rfl _ _ _) rfl ?_
  exact ⟨rfl, by first | exact ⟨0, rfl⟩ | exact ⟨1, rfl⟩ | exact ⟨2, rfl⟩⟩
set_option maxHeartbeats 8000000 in
theorem cfeed_any (g b0 off n c B : Nat) (d : Dec) (l : List UInt8) (w : World) (hB : B ≤ w.heap.size) (hBg : B ≤ g) (hsh : ∀ W, Below B w W → W.ShapedOpen Tryd.prog) (hr : RowAt w g 96 (decV d)) (hd : DecIn d) (hf : d.fault = 0) (hin : SliceIn w w.heap.size 1 (some ⟨b0, off, none⟩) n c (bytesV l)) (hne : b0 ≠ g) (hn : n ≤ 100000000) :
    Calls Tryd.prog 23 #[.pointer (some ⟨g, 0, none⟩), .slice (some ⟨b0, off, none⟩) n c] w fun e w' => ∃ v, e = .returned (.tuple #[v, .int .i64 (run d l).2.1, .bool (decide ((run d l).2.2.1 = 0 ∧ (run d l).2.2.2.w = 4)), .int .i64 (run d l).2.2.1]) ∧ w'.ownsRow w.heap.size 5 1 v (run d l).1.length (bytesV (run d l).1) ∧ RowAt w' g 96 (decV (run d l).2.2.2) ∧ Save w.heap.size g w w' := by
  have hll : l.length = n := by have := hin.1; rw [bytesV_length, Nat.mul_one] at this; exact this
  have hnc := hin.2.1
  have hgl := hr.lt
  obtain ⟨R, hR⟩ : ∃ R, run d l = R := ⟨_, rfl⟩
  rw [hR]
  have HR0 : Hid (R = IH.ahead [] 0 (run d (l.drop 0))) := Lib.hid (by rw [← hR]; exact (ahead_nil _ fun h => ⟨(run_err d l h).1, (run_err d l h).2.1⟩).symm)
  have Hsh := Lib.hid hsh
  have Hin := Lib.hid hin
  have Hll := Lib.hid hll
  have Hr := Lib.hid hr
  have d4 := hr.cell (j := 4) rfl
  rw [hf] at d4
  clear hR hsh hin hll hr
  go_enter Tryd.func23, Tryd.ntmps23
  go_wp2
  clear d4
  go_loopw [8, 9] (fun v i wr => ∃ (a : Nat) (out : List UInt8) (dd : Dec), i = .int .i64 a ∧ a ≤ n ∧ out.length ≤ a ∧ DecIn dd ∧ dd.fault = 0 ∧ R = IH.ahead out a (run dd (l.drop a)) ∧ RowAt wr g 96 (decV dd) ∧ wr.ownsRow w.heap.size 5 1 v out.length (bytesV out) ∧ Save w.heap.size g w wr) (fun _ i _ => n - (intOf i).toNat)
  case atStart => exact ⟨0, [], d, rfl, by omega, by simp, hd, hf, HR0.out, Hr.out, World.ownsRow_nil _ _ _ _, Save.refl _ _ _⟩
  case round =>
    clear HR0 Hr hd hf d
    obtain ⟨a, out, dd, rfl, ha, hout, hdd, hdf, hRa, hrow, hown, hsv⟩ := hrel
    obtain ⟨o2, ho2⟩ : ∃ o2, (if c = a then (some ⟨b0, off, none⟩ : Option Addr) else some ⟨b0, off + a, none⟩) = some ⟨b0, o2, none⟩ := by
      by_cases h : c = a
      · exact ⟨off, by rw [if_pos h]⟩
      · exact ⟨off + a, by rw [if_neg h]⟩
    have hsub := (((Hin.out.save hsv hne).more hsv.size).sub ha (Nat.le_refl n) (some ⟨b0, o2, none⟩) (fun hlt => by rw [← ho2, if_neg (by omega)]; simp [add_plain]))
    simp only [Nat.mul_one] at hsub
    have hdr : (bytesV l).drop a = bytesV (l.drop a) := by simp [bytesV, List.map_drop]
    rw [hdr, List.take_of_length_le (by rw [bytesV_length, List.length_drop]; have := Hll.out; omega)] at hsub
    have ST := cstep_any g b0 o2 (n - a) (c - a) dd (l.drop a) wr (Hsh.out wr ((hsv.mono hB).below hBg)) hrow hdd hsub hne (by omega)
    have hso := step_out dd (l.drop a)
    have hsl := stepC_le (d := dd) (b := l.drop a)
    have hsf := step_fault dd (l.drop a)
    have hsi := step_in hdd (l.drop a)
    rw [run_step] at hRa
    obtain ⟨S, hS⟩ : ∃ S, stepC dd (l.drop a) = S := ⟨_, rfl⟩
    rw [hS] at hRa ST hso hsl hsf hsi
    obtain ⟨x, k, e, d2⟩ := S
    simp only at hRa ST hso hsl hsf hsi
    rw [List.length_drop, Hll.out] at hsl
    have i1 : (a : Int) ≤ (n : Int) := by omega
    have i2 : (0 : Int) ≤ (a : Int) := by omega
    have j1 : a ≤ c := by omega
    have Hsv := Lib.hid hsv
    have Hown := Lib.hid hown
    replace ST := Lib.hid ST
    have hwr : w.heap.size ≤ wr.heap.size := hsv.size
    have key : ∀ w2, Save wr.heap.size g wr w2 → Hid (w2.ownsRow w.heap.size 5 1 u8 out.length (bytesV out)) ∧ Hid (Save w.heap.size g w w2) := fun w2 h2 => ⟨Lib.hid (own_save Hown.out (fun i hi hn => h2.block i hi hn) hgl), Lib.hid (Hsv.out.trans (h2.mono hwr))⟩
    clear hsub hdr hS hsv hown hrow hdd
    by_cases he : e = 0
    · subst he
      rw [if_neg (by simp)] at hRa
      have hdf2 : d2.fault = 0 := by rw [hsf]; exact hdf
      by_cases hk : k = 0
      · subst hk
        rw [if_pos rfl, ahead_ok] at hRa
        obtain rfl : x = [] := List.eq_nil_of_length_eq_zero (by omega)
        rw [List.append_nil, Nat.add_zero] at hRa
        subst hRa
        clear hsf hsi hdf hsl hso
        go_wp2_with (first
          | (go_at_call 56; (with_reducible refine ST.out.mono ?_); rintro e w2 ⟨A, kk, q, rfl, hx2, hr2, hs2⟩; obtain rfl : 0 = kk := (by have := hx2.1; rw [bytesV_length, Nat.mul_one] at this; exact this); obtain ⟨O2, S2⟩ := key w2 hs2; have R2 := Lib.hid hr2; have X2 := Lib.hid hx2; have c0 := hr2.cell (j := 0) rfl; have hw2 := Nat.le_trans hwr hs2.size; clear hx2 hr2 hs2)
          | (at_builtin; refine wpList_appS u8_ty rfl _ _ rfl w.heap.size _ _ _ rfl O2.out w2.heap.size _ _ _ _ rfl X2.out (bytesV_one []) (by omega) (by simp only [maxLen]; omega) hw2 ?_; intro v3 w3 hown3 hgr3; have c3 := (row_far R2.out hgr3 O2.out hgl).cell (j := 0) rfl))
        go_region
        go_wp2
        (try simp only [Exit.inBlock, Exit.then]); refine bodyPost_ret (results_tmp4 rfl _ _ _) rfl ?_
        have hdc : (d2.w == 4) = decide (d2.w = 4) := by rw [Bool.eq_iff_iff]; simp
        refine ⟨v3, by simp only []; rw [← hdc]; rfl, ?_, ?_, ?_⟩
        · rw [show bytesV [] = [] from rfl, List.append_nil, Nat.add_zero] at hown3
          exact hown3
        · exact (row_far R2.out hgr3 O2.out hgl).drewN 1
        · exact (S2.out.grown hgr3 hw2 (fun k hk => (O2.out.lt k hk).1)).drewN 1
      · rw [if_neg hk, ahead_ahead, List.drop_drop] at hRa
        have hkb : ((k : Int) == 0) = false := by rw [beq_eq_false_iff_ne]; omega
        have hdd2 := Lib.hid (hsi rfl)
        have hko : x.length ≤ 100000000 := by omega
        obtain ⟨t, ht⟩ : ∃ t : Nat, a + k = t := ⟨_, rfl⟩
        have htI : (a : Int) + (k : Int) = (t : Int) := by omega
        have htn : t ≤ n := by omega
        have htk : a < t := by omega
        rw [ht] at hRa
        have hca : ¬ c = a := by omega
        rw [if_neg hca] at ho2
        obtain rfl : off + a = o2 := by simpa using ho2
        clear ho2
        have HSL := Lib.hid hsl
        have HSO := Lib.hid hso
        have HR := Lib.hid hRa
        clear hsf hsi hdf hRa hsl hso ht
        go_wp2_with (first
          | (go_at_call 56; (with_reducible refine ST.out.mono ?_); rintro e w2 ⟨A, kk, q, rfl, hx2, hr2, hs2⟩; obtain rfl : x.length = kk := (by have := hx2.1; rw [bytesV_length, Nat.mul_one] at this; exact this); obtain ⟨O2, S2⟩ := key w2 hs2; have R2 := Lib.hid hr2; have X2 := Lib.hid hx2; have c0 := hr2.cell (j := 0) rfl; have hw2 := Nat.le_trans hwr hs2.size; clear hx2 hr2 hs2)
          | (at_builtin; refine wpList_appS u8_ty rfl _ _ rfl w.heap.size _ _ _ rfl O2.out w2.heap.size _ _ _ _ rfl X2.out (bytesV_one _) (by omega) (by simp only [maxLen]; omega) hw2 ?_; intro v3 w3 hown3 hgr3))
        go_roundw
        case rel =>
          have hsl := HSL.out
          have hso := HSO.out
          refine ⟨t, out ++ x, d2, rfl, htn, by rw [List.length_append]; omega, hdd2.out, hdf2, HR.out, row_far R2.out hgr3 O2.out hgl, ?_, ?_⟩
          · rw [bytesV_append, List.length_append]; exact hown3
          · exact S2.out.grown hgr3 hw2 (fun k hk => (O2.out.lt k hk).1)
        case measure => simp [intOf]; omega
    · rw [if_pos he, ahead_err _ _ _ _ he] at hRa
      subst hRa
      have hneb : (e != 0) = true := by rw [bne_iff_ne]; exact he
      clear hsf hsi hdf hsl hso
      go_wp2_with (go_at_call 56; (with_reducible refine ST.out.mono ?_); rintro e w2 ⟨A, kk, q, rfl, hx2, hr2, hs2⟩; obtain ⟨O2, S2⟩ := key w2 hs2; have R2 := Lib.hid hr2; have c4 := hr2.cell (j := 4) rfl; have f4 := hr2.frozen (j := 4) (show 4 < 5 by omega); clear hx2 hr2 hs2)
      (try simp only [Exit.inBlock, Exit.then]); refine bodyPost_ret (results_tmp4 rfl _ _ _) rfl ?_
      refine ⟨_, by simp, World.ownsRow_nil _ _ _ _, R2.out.set_ (j := 4) (show 4 < 5 by omega) _, S2.out.setCell _ _⟩
set_option maxHeartbeats 4000000 in
theorem decode_any (b0 off n c : Nat) (l : List UInt8) (w : World) (hsh : w.ShapedOpen Tryd.prog) (hin : SliceIn w w.heap.size 1 (some ⟨b0, off, none⟩) n c (bytesV l)) (hb0 : b0 < w.heap.size) (hn : n ≤ 100000000) :
    Calls Tryd.prog 25 #[.slice (some ⟨b0, off, none⟩) n c] w fun e w' => ∃ v, e = .returned (.tuple #[v, .int .i64 (decodeL l).2.1, .int .i64 (decodeL l).2.2]) ∧ w'.ownsRow w.heap.size 5 1 v (decodeL l).1.length (bytesV (decodeL l).1) ∧ Below w.heap.size w w' := by
  have NW := Lib.hid (cnew_any w)
  have FE := fun (w1 : World) (hr : RowAt w1 w.heap.size 96 (decV Dec.new)) (hb : Below w.heap.size w w1) => cfeed_any w.heap.size b0 off n c w.heap.size Dec.new l w1 hb.size (Nat.le_refl _) (fun W hW => shaped_below hsh (hb.trans hW)) hr new_in rfl ((hin.below hb).more hb.size) (by omega) hn
  unfold decodeL
  obtain ⟨R, hR⟩ : ∃ R, run Dec.new l = R := ⟨_, rfl⟩
  rw [hR] at FE ⊢
  obtain ⟨o, m, e, d2⟩ := R
  simp only at FE ⊢
  clear hR hin hsh hb0
  by_cases he : e = 0
  · subst he
    rw [if_neg (by simp)]
    by_cases h4 : d2.w = 4
    · rw [if_neg (by simp [h4])]
      rw [show decide ((0 : Int) = 0 ∧ d2.w = 4) = true by simp [h4]] at FE
      replace FE := Lib.hid FE
      clear h4
      go_enter Tryd.func25, Tryd.ntmps25
      go_wp2_with (first
        | (go_at_call 22; (with_reducible refine NW.out.mono ?_); rintro e w1 ⟨rfl, hr1, hb1⟩; have R1 := Lib.hid hr1; have B1 := Lib.hid hb1; clear hr1 hb1)
        | (go_at_call 23; (with_reducible refine (FE.out _ R1.out B1.out).mono ?_); rintro e w2 ⟨v, rfl, ho2, hr2, hs2⟩; have O2 := Lib.hid (own_low ho2 B1.out.size); have B2 := Lib.hid (B1.out.trans ((hs2.mono B1.out.size).below (Nat.le_refl _))); clear ho2 hr2 hs2))
      go_ret3
      exact ⟨_, rfl, O2.out, B2.out⟩
    · rw [if_pos h4]
      rw [show decide ((0 : Int) = 0 ∧ d2.w = 4) = false by simp [h4]] at FE
      replace FE := Lib.hid FE
      clear h4
      go_enter Tryd.func25, Tryd.ntmps25
      go_wp2_with (first
        | (go_at_call 22; (with_reducible refine NW.out.mono ?_); rintro e w1 ⟨rfl, hr1, hb1⟩; have R1 := Lib.hid hr1; have B1 := Lib.hid hb1; clear hr1 hb1)
        | (go_at_call 23; (with_reducible refine (FE.out _ R1.out B1.out).mono ?_); rintro e w2 ⟨v, rfl, ho2, hr2, hs2⟩; have B2 := Lib.hid (B1.out.trans ((hs2.mono B1.out.size).below (Nat.le_refl _))); clear ho2 hr2 hs2))
      go_ret3
      exact ⟨_, rfl, World.ownsRow_nil _ _ _ _, B2.out⟩
  · rw [if_pos he]
    rw [show decide (e = 0 ∧ d2.w = 4) = false by simp [he]] at FE
    have neb : (e != 0) = true := by rw [bne_iff_ne]; exact he
    replace FE := Lib.hid FE
    clear he
    go_enter Tryd.func25, Tryd.ntmps25
    go_wp2_with (first
      | (go_at_call 22; (with_reducible refine NW.out.mono ?_); rintro e w1 ⟨rfl, hr1, hb1⟩; have R1 := Lib.hid hr1; have B1 := Lib.hid hb1; clear hr1 hb1)
      | (go_at_call 23; (with_reducible refine (FE.out _ R1.out B1.out).mono ?_); rintro e w2 ⟨v, rfl, ho2, hr2, hs2⟩; have B2 := Lib.hid (B1.out.trans ((hs2.mono B1.out.size).below (Nat.le_refl _))); clear ho2 hr2 hs2))
    go_ret3
    exact ⟨_, rfl, World.ownsRow_nil _ _ _ _, B2.out⟩
end Go.Proofs.YtefoaldpllnijaaDoor
