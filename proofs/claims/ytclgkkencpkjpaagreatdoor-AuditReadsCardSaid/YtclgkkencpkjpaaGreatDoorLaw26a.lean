/- Layer 26's laws: AuditReads, walked. Condition: the world's shape. -/
import Derived.Test.YtclgkkencpkjpaaGreatDoorMts9
import Derived.Test.YtclgkkencpkjpaaGreatDoorMu
import Derived.Test.YtclgkkencpkjpaaGreatDoorSeqU
namespace Go.Proofs.YtclgkkencpkjpaaGreatDoor
open Go.RowKit IH
set_option maxRecDepth 100000
set_option maxHeartbeats 8000000 in
theorem ar_far (A : Option Addr) (n c : Nat) (A1 : Option Addr) (n1 c1 : Nat) (w : World) (hsh : w.ShapedOpen Tryz.prog) (h : 5000 < n ∨ 20 < n1) :
    Calls Tryz.prog 5 #[.slice A n c, .slice A1 n1 c1] w fun e w' => e = .returned (.bool true) ∧ Below w.heap.size w w' := by
  have AW := Lib.hid (fun W (hW : Below w.heap.size w W) => awake26_any W (shaped_below hsh hW))
  clear hsh
  have B0 := Lib.hid (Below.refl w.heap.size w)
  have tokA : Hid True := Lib.hid trivial
  by_cases hn : 5000 < n
  · have hI : (5000 : Int) < (n : Int) := by omega
    clear h
    go_enter Tryz.func5, Tryz.ntmps5
    go_wp2_with (first
      | (have _t := tokA; go_at_call 21; (with_reducible refine (AW.out _ B0.out).mono ?_); rintro e w1 ⟨rfl, hb1⟩; have B1 := Lib.hid (below_step B0.out hb1); clear hb1 tokA _t)
      | (go_at_call 21; (with_reducible refine (AW.out _ B1.out).mono ?_); rintro e w2 ⟨rfl, hb2⟩; have B2 := Lib.hid (below_step B1.out hb2); clear hb2))
    go_ret
    exact ⟨rfl, B2.out⟩
  · have hI : (n : Int) ≤ 5000 := by omega
    have hM : 20 < n1 := by omega
    have hJ : (20 : Int) < (n1 : Int) := by omega
    clear h
    go_enter Tryz.func5, Tryz.ntmps5
    go_wp2_with (first
      | (have _t := tokA; go_at_call 21; (with_reducible refine (AW.out _ B0.out).mono ?_); rintro e w1 ⟨rfl, hb1⟩; have B1 := Lib.hid (below_step B0.out hb1); clear hb1 tokA _t)
      | (go_at_call 21; (with_reducible refine (AW.out _ B1.out).mono ?_); rintro e w2 ⟨rfl, hb2⟩; have B2 := Lib.hid (below_step B1.out hb2); clear hb2))
    go_ret
    exact ⟨rfl, B2.out⟩
set_option maxHeartbeats 32000000 in
theorem ar_near (A : Option Addr) (n c : Nat) (L : List UInt8) (A1 : Option Addr) (n1 c1 : Nat) (e1 e2 e3 : Int) (G1 G2 G3 : Value → World → Prop) (w : World) (hin : SliceIn w w.heap.size 1 A n c (bytesV L)) (h : n ≤ 5000) (h1 : n1 ≤ 20)
    (AW : ∀ W, Below w.heap.size w W → Calls Tryz.prog 21 #[] W fun e w' => e = .returned (.bool true) ∧ Below W.heap.size W w')
    (QA : ∀ W g cap, Below w.heap.size w W → SliceIn W W.heap.size 1 (some ⟨g, 0, none⟩) n cap (bytesV L) → Calls Tryz.prog 22 #[.slice (some ⟨g, 0, none⟩) n cap] W fun e w' => ∃ v, e = .returned (.tuple #[v, .int .i64 e1]) ∧ G1 v w' ∧ Below W.heap.size W w')
    (QR : ∀ W, Below w.heap.size w W → Calls Tryz.prog 23 #[.slice A n c] W fun e w' => ∃ v, e = .returned (.tuple #[v, .int .i64 e1]) ∧ G1 v w' ∧ Below W.heap.size W w')
    (RA : ∀ W, Below w.heap.size w W → Calls Tryz.prog 24 #[.slice A n c, .slice A1 n1 c1] W fun e w' => ∃ v, e = .returned (.tuple #[v, .int .i64 e2]) ∧ G2 v w' ∧ Below W.heap.size W w')
    (RR : ∀ W, Below w.heap.size w W → Calls Tryz.prog 25 #[.slice A n c, .slice A1 n1 c1, .bool false] W fun e w' => ∃ v, e = .returned (.tuple #[v, .int .i64 e2]) ∧ G2 v w' ∧ Below W.heap.size W w')
    (FA : ∀ W, Below w.heap.size w W → Calls Tryz.prog 26 #[.slice A n c, .slice A1 n1 c1] W fun e w' => ∃ v, e = .returned (.tuple #[v, .int .i64 e3]) ∧ G3 v w' ∧ Below W.heap.size W w')
    (FR : ∀ W, Below w.heap.size w W → Calls Tryz.prog 25 #[.slice A n c, .slice A1 n1 c1, .bool true] W fun e w' => ∃ v, e = .returned (.tuple #[v, .int .i64 e3]) ∧ G3 v w' ∧ Below W.heap.size W w')
    (B1s : ∀ v W W', G1 v W → Below W.heap.size W W' → G1 v W') (B2s : ∀ v W W', G2 v W → Below W.heap.size W W' → G2 v W') (B3s : ∀ v W W', G3 v W → Below W.heap.size W W' → G3 v W')
    (S1 : ∀ v u W, G1 v W → G1 u W → Calls Tryz.prog 27 #[v, u] W fun e w' => e = .returned (.bool true) ∧ Below W.heap.size W w')
    (S2 : ∀ v u W, G2 v W → G2 u W → Calls Tryz.prog 27 #[v, u] W fun e w' => e = .returned (.bool true) ∧ Below W.heap.size W w')
    (S3 : ∀ v u W, G3 v W → G3 u W → Calls Tryz.prog 27 #[v, u] W fun e w' => e = .returned (.bool true) ∧ Below W.heap.size W w') :
    Calls Tryz.prog 5 #[.slice A n c, .slice A1 n1 c1] w fun e w' => e = .returned (.bool true) ∧ Below w.heap.size w w' := by
  have hI : (n : Int) ≤ 5000 := by omega
  have hJ : (n1 : Int) ≤ 20 := by omega
  have t1 : (e1 == e1) = true := beq_self_eq_true _
  have t2 : (e2 == e2) = true := beq_self_eq_true _
  have t3 : (e3 == e3) = true := beq_self_eq_true _
  have Hin := Lib.hid hin
  replace AW := Lib.hid AW
  replace QA := Lib.hid QA
  replace QR := Lib.hid QR
  replace RA := Lib.hid RA
  replace RR := Lib.hid RR
  replace FA := Lib.hid FA
  replace FR := Lib.hid FR
  replace B1s := Lib.hid B1s
  replace B2s := Lib.hid B2s
  replace B3s := Lib.hid B3s
  replace S1 := Lib.hid S1
  replace S2 := Lib.hid S2
  replace S3 := Lib.hid S3
  have B0 := Lib.hid (Below.refl w.heap.size w)
  clear hin
  go_enter Tryz.func5, Tryz.ntmps5
  go_upto_region 9 with (first
    | (go_at_call 21; (with_reducible refine (AW.out _ B0.out).mono ?_); rintro e w1 ⟨rfl, hb1⟩; have B1 := Lib.hid (below_step B0.out hb1); have Hown := Lib.hid (World.ownsRow_lit (base := w1.heap.size) (e := 5) (size := 1) w1 #[] 0 (Nat.le_refl _) (by simp [maxLen]) rfl); have Hin2 := Lib.hid (((Hin.out.below B1.out).more B1.out.size).alloc (Nat.le_refl _) (.cells #[] 5)); clear hb1)
    | (at_builtin; refine wpList_appN u8_ty rfl _ _ rfl w1.heap.size _ 0 [] rfl Hown.out (by intro h; cases h) w1.heap.size A n c (bytesV L) rfl Hin2.out (bytesV_one L) (by omega) (by simp only [maxLen]; omega) (by simp) ?_; intro g cap w3 hown' hgr; rw [Nat.zero_add, List.nil_append] at hown'; simp only [Nat.zero_add]; have B3 := Lib.hid (below_step B1.out (((Below.refl w1.heap.size w1).alloc (Nat.le_refl _) (.cells #[] 5)).grown hgr (by simp) (fun q hq => (Hown.out.lt q hq).1))); have U3 := Lib.hid (QA.out w3 g cap B3.out (SliceIn.of_own hown')); clear hown' hgr)
    | (go_at_call 22; (with_reducible refine U3.out.mono ?_); rintro e' w4 ⟨v1, rfl, hg, hb4⟩; have B4 := Lib.hid (below_step B3.out hb4); have V1 := Lib.hid hg; clear hb4 hg)
    | (go_at_call 23; (with_reducible refine (QR.out _ B4.out).mono ?_); rintro e' w5 ⟨u1, rfl, hg, hb5⟩; have B5 := Lib.hid (below_step B4.out hb5); replace V1 := Lib.hid (B1s.out _ _ _ V1.out hb5); have U1 := Lib.hid hg; clear hb5 hg)
    | (go_at_call 24; (with_reducible refine (RA.out _ B5.out).mono ?_); rintro e' w6 ⟨v2, rfl, hg, hb6⟩; have B6 := Lib.hid (below_step B5.out hb6); replace V1 := Lib.hid (B1s.out _ _ _ V1.out hb6); replace U1 := Lib.hid (B1s.out _ _ _ U1.out hb6); have V2 := Lib.hid hg; clear hb6 hg)
    | (go_at_call 25; (with_reducible refine (RR.out _ B6.out).mono ?_); rintro e' w7 ⟨u2, rfl, hg, hb7⟩; have B7 := Lib.hid (below_step B6.out hb7); replace V1 := Lib.hid (B1s.out _ _ _ V1.out hb7); replace U1 := Lib.hid (B1s.out _ _ _ U1.out hb7); replace V2 := Lib.hid (B2s.out _ _ _ V2.out hb7); have U2 := Lib.hid hg; clear hb7 hg)
    | (go_at_call 26; (with_reducible refine (FA.out _ B7.out).mono ?_); rintro e' w8 ⟨v3, rfl, hg, hb8⟩; have B8 := Lib.hid (below_step B7.out hb8); replace V1 := Lib.hid (B1s.out _ _ _ V1.out hb8); replace U1 := Lib.hid (B1s.out _ _ _ U1.out hb8); replace V2 := Lib.hid (B2s.out _ _ _ V2.out hb8); replace U2 := Lib.hid (B2s.out _ _ _ U2.out hb8); have V3 := Lib.hid hg; clear hb8 hg)
    | (go_at_call 25; (with_reducible refine (FR.out _ B8.out).mono ?_); rintro e' w9 ⟨u3, rfl, hg, hb9⟩; have B9 := Lib.hid (below_step B8.out hb9); replace V1 := Lib.hid (B1s.out _ _ _ V1.out hb9); replace U1 := Lib.hid (B1s.out _ _ _ U1.out hb9); replace V2 := Lib.hid (B2s.out _ _ _ V2.out hb9); replace U2 := Lib.hid (B2s.out _ _ _ U2.out hb9); replace V3 := Lib.hid (B3s.out _ _ _ V3.out hb9); have U3 := Lib.hid hg; clear hb9 hg))
  refine wp_region_seq ?_
  iterate 2
    refine seq_take (v := ?_) (wanted_un rfl) ?_ ?_
    rotate_left
    · go_simp
      try with_reducible rfl
    try simp only [Act.put, List.setIfInBounds_toArray, List.set_cons_zero, List.set_cons_succ]
  refine seq_move (wanted_un rfl) (fun K hK => ?_)
  go_simp
  (with_reducible refine (S1.out _ _ _ V1.out U1.out).mono ?_)
  rintro e' w10 ⟨rfl, hb⟩
  have B10 := Lib.hid (below_step B9.out hb)
  replace V2 := Lib.hid (B2s.out _ _ _ V2.out hb)
  replace U2 := Lib.hid (B2s.out _ _ _ U2.out hb)
  replace V3 := Lib.hid (B3s.out _ _ _ V3.out hb)
  replace U3 := Lib.hid (B3s.out _ _ _ U3.out hb)
  clear hb
  refine hK.out _ _ ?_
  clear hK K
  try simp only [Act.put, List.setIfInBounds_toArray, List.set_cons_zero, List.set_cons_succ]
  iterate 1
    refine seq_take (v := ?_) (wanted_un rfl) ?_ ?_
    rotate_left
    · go_simp
      try with_reducible rfl
    try simp only [Act.put, List.setIfInBounds_toArray, List.set_cons_zero, List.set_cons_succ]
  iterate 3
    refine seq_take (v := ?_) (wanted_yes rfl rfl rfl rfl) ?_ ?_
    rotate_left
    · go_simp
      try with_reducible rfl
    try simp only [Act.put, List.setIfInBounds_toArray, List.set_cons_zero, List.set_cons_succ]
  iterate 2
    refine seq_take (v := ?_) (wanted_un rfl) ?_ ?_
    rotate_left
    · go_simp
      try with_reducible rfl
    try simp only [Act.put, List.setIfInBounds_toArray, List.set_cons_zero, List.set_cons_succ]
  iterate 2
    refine seq_take (v := ?_) (wanted_yes rfl rfl rfl rfl) ?_ ?_
    rotate_left
    · go_simp
      try with_reducible rfl
    try simp only [Act.put, List.setIfInBounds_toArray, List.set_cons_zero, List.set_cons_succ]
  refine seq_move (wanted_yes rfl rfl rfl rfl) (fun K hK => ?_)
  go_simp
  (with_reducible refine (S2.out _ _ _ V2.out U2.out).mono ?_)
  rintro e' w11 ⟨rfl, hb⟩
  have B11 := Lib.hid (below_step B10.out hb)
  replace V3 := Lib.hid (B3s.out _ _ _ V3.out hb)
  replace U3 := Lib.hid (B3s.out _ _ _ U3.out hb)
  clear hb
  refine hK.out _ _ ?_
  clear hK K
  try simp only [Act.put, List.setIfInBounds_toArray, List.set_cons_zero, List.set_cons_succ]
  iterate 2
    refine seq_take (v := ?_) (wanted_un rfl) ?_ ?_
    rotate_left
    · go_simp
      try with_reducible rfl
    try simp only [Act.put, List.setIfInBounds_toArray, List.set_cons_zero, List.set_cons_succ]
  iterate 3
    refine seq_take (v := ?_) (wanted_yes rfl rfl rfl rfl) ?_ ?_
    rotate_left
    · go_simp
      try with_reducible rfl
    try simp only [Act.put, List.setIfInBounds_toArray, List.set_cons_zero, List.set_cons_succ]
  iterate 2
    refine seq_take (v := ?_) (wanted_un rfl) ?_ ?_
    rotate_left
    · go_simp
      try with_reducible rfl
    try simp only [Act.put, List.setIfInBounds_toArray, List.set_cons_zero, List.set_cons_succ]
  iterate 2
    refine seq_take (v := ?_) (wanted_yes rfl rfl rfl rfl) ?_ ?_
    rotate_left
    · go_simp
      try with_reducible rfl
    try simp only [Act.put, List.setIfInBounds_toArray, List.set_cons_zero, List.set_cons_succ]
  refine seq_move (wanted_yes rfl rfl rfl rfl) (fun K hK => ?_)
  go_simp
  (with_reducible refine (S3.out _ _ _ V3.out U3.out).mono ?_)
  rintro e' w12 ⟨rfl, hb⟩
  have B12 := Lib.hid (below_step B11.out hb)
  clear hb
  refine hK.out _ _ ?_
  clear hK K
  try simp only [Act.put, List.setIfInBounds_toArray, List.set_cons_zero, List.set_cons_succ]
  iterate 2
    refine seq_take (v := ?_) (wanted_un rfl) ?_ ?_
    rotate_left
    · go_simp
      try with_reducible rfl
    try simp only [Act.put, List.setIfInBounds_toArray, List.set_cons_zero, List.set_cons_succ]
  iterate 3
    refine seq_take (v := ?_) (wanted_yes rfl rfl rfl rfl) ?_ ?_
    rotate_left
    · go_simp
      try with_reducible rfl
    try simp only [Act.put, List.setIfInBounds_toArray, List.set_cons_zero, List.set_cons_succ]
  iterate 2
    refine seq_take (v := ?_) (wanted_un rfl) ?_ ?_
    rotate_left
    · go_simp
      try with_reducible rfl
    try simp only [Act.put, List.setIfInBounds_toArray, List.set_cons_zero, List.set_cons_succ]
  refine seq_done ?_
  go_wp2_with fail
  go_ret
  exact ⟨rfl, B12.out⟩
theorem areads_walk (w : World) (hsh : w.ShapedOpen Tryz.prog) (A : Option Addr) (n c : Nat) (L : List UInt8) (hin : SliceIn w w.heap.size 1 A n c (bytesV L)) (A1 : Option Addr) (n1 c1 : Nat) (K : List (List UInt8)) (hms : SliceIn w w.heap.size 1 A1 n1 c1 (strsV K)) (hK : smallS 9223372036854775807 K) :
    Calls Tryz.prog 5 #[.slice A n c, .slice A1 n1 c1] w fun e w' => e = .returned (.bool true) ∧ Below w.heap.size w w' := by
  by_cases h : 5000 < n ∨ 20 < n1
  · exact ar_far A n c A1 n1 c1 w hsh h
  · have hn : n ≤ 5000 := by omega
    have hn1 : n1 ≤ 20 := by omega
    obtain ⟨MS, hMS⟩ : ∃ MS : List ByteArray, K.map (fun l => ⟨l.toArray⟩) = MS := ⟨_, rfl⟩
    have hms' : SliceIn w w.heap.size 1 A1 n1 c1 (textsV MS) := by
      rw [← hMS]
      have : textsV (K.map fun l => (⟨l.toArray⟩ : ByteArray)) = strsV K := by simp [textsV, strsV]
      rw [this]
      exact hms
    have hM : ∀ M ∈ MS, M.size ≤ maxLen := by
      intro M h
      rw [← hMS] at h
      obtain ⟨l, hl, rfl⟩ := List.mem_map.1 h
      have := hK l hl
      rw [size_mk]
      simpa [maxLen] using this
    have AW : ∀ W, Below w.heap.size w W → Calls Tryz.prog 21 #[] W fun e w' => e = .returned (.bool true) ∧ Below W.heap.size W w' := fun W hW => awake26_any W (shaped_below hsh hW)
    have F1 : ∀ m ∈ (requestsL L).1, m.fields.length ≤ 1000000 := fun m hm => by have := requests_few L m hm; omega
    have F2 : ∀ b, ∀ m ∈ (responsesL b L (methodsL MS)).1, m.fields.length ≤ 1000000 := fun b m hm => by have := responses_few b L (methodsL MS) m hm; omega
    refine ar_near A n c L A1 n1 c1 (requestsL L).2 (responsesL false L (methodsL MS)).2 (responsesL true L (methodsL MS)).2 (MsgsIn (requestsL L).1) (MsgsIn (responsesL false L (methodsL MS)).1) (MsgsIn (responsesL true L (methodsL MS)).1) w hin hn hn1 AW ?_ ?_ ?_ ?_ ?_ ?_
      (fun _ _ _ h hb => h.below hb) (fun _ _ _ h hb => h.below hb) (fun _ _ _ h hb => h.below hb) (fun v u W h h' => MsgsIn.same F1 v u W h h') (fun v u W h h' => MsgsIn.same (F2 false) v u W h h') (fun v u W h h' => MsgsIn.same (F2 true) v u W h h')
    · intro W g cap hW hs
      refine (areq26_any (some ⟨g, 0, none⟩) n cap L W (shaped_below hsh hW) hs (by omega)).mono ?_
      rintro e w' ⟨v, CS, rfl, h1, h2, h3⟩
      exact ⟨v, rfl, MsgsIn.of_own h1 h2, h3⟩
    · intro W hW
      refine (rreq26_any A n c L W ((hin.below hW).more hW.size) (by omega)).mono ?_
      rintro e w' ⟨v, CS, rfl, h1, h2, -, -, h3⟩
      exact ⟨v, rfl, MsgsIn.of_own h1 h2, h3⟩
    · intro W hW
      refine (aresponses26_any A n c L A1 n1 c1 MS W (shaped_below hsh hW) ((hin.below hW).more hW.size) ((hms'.below hW).more hW.size) (by omega) hM).mono ?_
      rintro e w' ⟨v, CS, rfl, h1, h2, h3⟩
      exact ⟨v, rfl, MsgsIn.of_own h1 h2, h3⟩
    · intro W hW
      refine (rresp26_any A n c L A1 n1 c1 MS false W ((hin.below hW).more hW.size) ((hms'.below hW).more hW.size) (by omega)).mono ?_
      rintro e w' ⟨v, CS, rfl, h1, h2, -, -, h3⟩
      exact ⟨v, rfl, MsgsIn.of_own h1 h2, h3⟩
    · intro W hW
      refine (afinals26_any A n c L A1 n1 c1 MS W (shaped_below hsh hW) ((hin.below hW).more hW.size) ((hms'.below hW).more hW.size) (by omega) hM).mono ?_
      rintro e w' ⟨v, CS, rfl, h1, h2, h3⟩
      exact ⟨v, rfl, MsgsIn.of_own h1 h2, h3⟩
    · intro W hW
      refine (rresp26_any A n c L A1 n1 c1 MS true W ((hin.below hW).more hW.size) ((hms'.below hW).more hW.size) (by omega)).mono ?_
      rintro e w' ⟨v, CS, rfl, h1, h2, -, -, h3⟩
      exact ⟨v, rfl, MsgsIn.of_own h1 h2, h3⟩
end Go.Proofs.YtclgkkencpkjpaaGreatDoor
