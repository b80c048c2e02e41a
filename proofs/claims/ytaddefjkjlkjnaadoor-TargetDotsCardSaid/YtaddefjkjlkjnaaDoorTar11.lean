/- Walk of layer 5: a path and a query put to a URI, by the code. Condition: the world's shape; at most 10^8 octets. -/
import Derived.Test.YtaddefjkjlkjnaaDoorTar7
import Derived.Test.YtaddefjkjlkjnaaDoorTar9
import Derived.Test.YtaddefjkjlkjnaaDoorKt
import Derived.Test.YtaddefjkjlkjnaaDoorSeqU
namespace Go.Proofs.YtaddefjkjlkjnaaDoor
open Go.RowKit IH
set_option maxRecDepth 100000
def uriC (u : Uri) : List Value := [.string ⟨u.host.toArray⟩, .int .i64 u.port, .string ⟨u.path.toArray⟩]
def placeM (ask : Bool) : Option (List UInt8) → Option (List UInt8) → Option (List UInt8)
  | some p, some q => if p ≠ [] ∧ p.head? ≠ some 47 then none else some (segL (if p = [] then [47] else p) ++ if ask = true then 63 :: q else [])
  | _, _ => none
theorem placeM_eq (s : List UInt8) : placeL s = placeM (hasC 63 s) (codedL false (s.takeWhile (· != 63))) (codedL true ((s.dropWhile (· != 63)).drop 1)) := by
  have h : (63 ∈ s) ↔ hasC 63 s = true := by unfold hasC; rw [List.contains_iff_mem]
  unfold placeL
  cases codedL false (s.takeWhile (· != 63)) with
  | none => rfl
  | some p =>
    cases codedL true ((s.dropWhile (· != 63)).drop 1) with
    | none => rfl
    | some q => simp only [placeM, h]
theorem liteCutC_any (c : UInt8) (s : ByteArray) (hs : s.size ≤ 1000000000) (w : World) :
    Calls Tryd.prog 122 #[.string s, .string ⟨#[c]⟩] w fun e w' => e = .returned (.tuple #[.string ⟨(s.data.toList.takeWhile (· != c)).toArray⟩, .string ⟨((s.data.toList.dropWhile (· != c)).drop 1).toArray⟩, .bool (hasC c s.data.toList)]) ∧ Below w.heap.size w w' := by
  have IX := Lib.hid (fun w => Tryd.stringslite_Index_one s c w)
  by_cases hm : c ∈ s.data.toList
  · obtain ⟨a, b, h1, ha⟩ := List.eq_append_cons_of_mem hm
    have h2 : ∀ x ∈ a, x ≠ c := fun x hx e => ha (e ▸ hx)
    have hi : Lib.indexByte s.data.toList c = (a.length : Nat) := by rw [h1]; exact indexByte_mid c a b h2
    rw [hi] at IX
    obtain ⟨t1, t2⟩ := until_eq (d := c) (x := a) (r := b) h2
    have hc : hasC c s.data.toList = true := by unfold hasC; rw [List.contains_iff_mem]; exact hm
    rw [hc, h1, t1, t2, List.drop_succ_cons, List.drop_zero]
    have hlen : a.length + 1 + b.length = s.size := by rw [← data_len, h1]; simp; omega
    have e1 : Hid (s.extract 0 a.length = ⟨a.toArray⟩) := Lib.hid (bytes_inj (by rw [take_data s _ (by omega), h1, List.take_left' rfl]))
    have e2 : Hid (s.extract (a.length + 1) s.size = ⟨b.toArray⟩) := Lib.hid (bytes_inj (by rw [drop_data, h1, ← List.drop_drop, List.drop_left' rfl]; rfl))
    obtain ⟨n, hn⟩ : ∃ n, a.length = n := ⟨_, rfl⟩
    rw [hn] at IX e1 e2 hlen
    have hn1 : n + 1 ≤ s.size := by omega
    have sz : (⟨#[c]⟩ : ByteArray).size = 1 := rfl
    have wr : IntKind.i64.wrap ((n : Int) + 1) = (n : Int) + 1 := IntWalk.i64_in _ ⟨by omega, by omega⟩
    clear h1 h2 hi hn hlen hm ha t1 t2 hc
    go_enter Tryd.func122, Tryd.ntmps122
    go_wp2_with (go_at_call 157; refine (IX.out _).mono ?_; rintro e w' ⟨rfl, hw⟩; have hw' := hw.symm; subst hw')
    go_region
    go_wp2
    go_ret3
    refine ⟨?_, below_drewN (Below.refl _ _) 1⟩
    rw [← e1.out, ← e2.out]
    rfl
  · have hno : ∀ x ∈ s.data.toList, x ≠ c := fun x hx e => hm (e ▸ hx)
    rw [indexByte_no c _ hno] at IX
    obtain ⟨t1, t2⟩ := until_all hno
    have hc : hasC c s.data.toList = false := by unfold hasC; rw [Bool.eq_false_iff, ne_eq, List.contains_iff_mem]; exact hm
    rw [hc, t1, t2, List.drop_nil, Lib.mk_data]
    clear hno hm t1 t2 hc
    go_enter Tryd.func122, Tryd.ntmps122
    go_wp2_with (go_at_call 157; refine (IX.out _).mono ?_; rintro e w' ⟨rfl, hw⟩; have hw' := hw.symm; subst hw')
    go_ret3
    exact ⟨rfl, Below.refl _ _⟩
theorem SCutC_any (c : UInt8) (s : ByteArray) (hs : s.size ≤ 1000000000) (w : World) :
    Calls Tryd.prog 80 #[.string s, .string ⟨#[c]⟩] w fun e w' => e = .returned (.tuple #[.string ⟨(s.data.toList.takeWhile (· != c)).toArray⟩, .string ⟨((s.data.toList.dropWhile (· != c)).drop 1).toArray⟩, .bool (hasC c s.data.toList)]) ∧ Below w.heap.size w w' := by
  have LC := Lib.hid (fun w => liteCutC_any c s hs w)
  obtain ⟨x, hx⟩ : ∃ x : ByteArray, (⟨(s.data.toList.takeWhile (· != c)).toArray⟩ : ByteArray) = x := ⟨_, rfl⟩
  obtain ⟨y, hy⟩ : ∃ x : ByteArray, (⟨((s.data.toList.dropWhile (· != c)).drop 1).toArray⟩ : ByteArray) = x := ⟨_, rfl⟩
  obtain ⟨z, hz⟩ : ∃ x, hasC c s.data.toList = x := ⟨_, rfl⟩
  rw [hx, hy, hz] at LC ⊢
  clear hx hy hz
  go_enter Tryd.func80, Tryd.ntmps80
  go_wp2_with (go_at_call 122; refine (LC.out _).mono ?_; rintro e w2 ⟨rfl, hb2⟩)
  go_ret3
  exact ⟨rfl, hb2⟩
set_option maxHeartbeats 16000000 in
theorem placed_any (H : ByteArray) (n : Int) (P0 s : ByteArray) (hs : s.size ≤ 100000000) (w : World) (hsh : w.ShapedOpen Tryd.prog) :
    Calls Tryd.prog 94 #[.agg #[.string H, .int .i64 n, .string P0], .string s] w fun e w' => e = .returned (.tuple #[.agg (uriC (joinU (some (H.data.toList, n)) (placeL s.data.toList)).1).toArray, .int .i64 (joinU (some (H.data.toList, n)) (placeL s.data.toList)).2]) ∧ Below w.heap.size w w' := by
  obtain ⟨R, hR⟩ : ∃ R, joinU (some (H.data.toList, n)) (placeL s.data.toList) = R := ⟨_, rfl⟩
  rw [hR]
  obtain ⟨g2, hg2⟩ : ∃ g, w.heap.size = g := ⟨_, rfl⟩
  obtain ⟨g4, hg4⟩ : ∃ g, g2 + 1 = g := ⟨_, rfl⟩
  obtain ⟨wb, hwb⟩ : ∃ W, (w.alloc (.cells #[.string H, .int .i64 n, .string P0] 63)).alloc (.cells #[.string ⟨#[]⟩, .int .i64 0, .string ⟨#[]⟩] 63) = W := ⟨_, rfl⟩
  have HSH := Lib.hid (fun (W : World) (hb : Below g2 w W) => shaped_below hsh (by rw [hg2]; exact hb))
  have U0 : Hid (RowAt wb g2 63 [.string H, .int .i64 n, .string P0]) := Lib.hid (by rw [← hwb, ← hg2]; exact (RowAt.new w _ [.string H, .int .i64 n, .string P0]).below ((Below.refl _ _).alloc (Nat.le_refl _) _) (RowAt.new w _ _).lt)
  have Z0 : Hid (RowAt wb g4 63 zeroC) := Lib.hid (by
    have := RowAt.new (w.alloc (.cells #[.string H, .int .i64 n, .string P0] 63)) 63 zeroC
    rw [show (w.alloc (.cells #[.string H, .int .i64 n, .string P0] 63)).heap.size = w.heap.size + 1 by simp] at this
    rw [← hwb, ← hg4, ← hg2]
    exact this)
  have B0 : Hid (Below g2 w wb) := Lib.hid (by rw [← hwb, ← hg2]; exact ((Below.refl _ _).alloc (Nat.le_refl _) _).alloc (by simp) _)
  have CU := SCutC_any 63 s (by omega) wb
  obtain ⟨p0, hp0⟩ : ∃ x : ByteArray, (⟨(s.data.toList.takeWhile (· != 63)).toArray⟩ : ByteArray) = x := ⟨_, rfl⟩
  obtain ⟨q0, hq0⟩ : ∃ x : ByteArray, (⟨((s.data.toList.dropWhile (· != 63)).drop 1).toArray⟩ : ByteArray) = x := ⟨_, rfl⟩
  obtain ⟨ask, hask⟩ : ∃ x, hasC 63 s.data.toList = x := ⟨_, rfl⟩
  rw [hp0, hq0, hask] at CU
  replace CU := Lib.hid CU
  have hp0l : p0.data.toList = s.data.toList.takeWhile (· != 63) := by rw [← hp0]
  have hq0l : q0.data.toList = (s.data.toList.dropWhile (· != 63)).drop 1 := by rw [← hq0]
  have hp0s : p0.size ≤ 100000000 := by
    rw [← data_len, hp0l]
    have h1 := (List.takeWhile_prefix (l := s.data.toList) (fun x : UInt8 => x != 63)).length_le
    rw [data_len] at h1
    omega
  have hq0s : q0.size ≤ 100000000 := by
    rw [← data_len, hq0l, List.length_drop]
    have h1 := (List.dropWhile_suffix (l := s.data.toList) (fun x : UInt8 => x != 63)).length_le
    rw [data_len] at h1
    omega
  have C1 := fun W => coded5_any p0 hp0s false W
  have C2 := fun W => coded5_any q0 hq0s true W
  rw [hp0l, show (⟨(moreOf false).toArray⟩ : ByteArray) = ⟨#[]⟩ from rfl] at C1
  rw [hq0l, show (⟨(moreOf true).toArray⟩ : ByteArray) = ⟨#[63]⟩ from rfl] at C2
  obtain ⟨p, hp⟩ : ∃ x, codedL false (s.data.toList.takeWhile (· != 63)) = x := ⟨_, rfl⟩
  obtain ⟨q, hq⟩ : ∃ x, codedL true ((s.data.toList.dropWhile (· != 63)).drop 1) = x := ⟨_, rfl⟩
  have hplen : ∀ x, p = some x → x.length ≤ 100000000 := by
    intro x hx
    have := coded_length false _ x (hp.trans hx)
    rw [← hp0l, data_len] at this
    omega
  have hqlen : ∀ x, q = some x → x.length ≤ 100000000 := by
    intro x hx
    have := coded_length true _ x (hq.trans hx)
    rw [← hq0l, data_len] at this
    omega
  rw [hp] at C1
  rw [hq] at C2
  have hR2 : R = joinU (some (H.data.toList, n)) (placeM ask p q) := by rw [← hR, placeM_eq, hp, hq, hask]
  have HR2 := Lib.hid hR2
  have HPL := Lib.hid hplen
  have HQL := Lib.hid hqlen
  clear hplen hqlen
  have hg24 : g2 < g4 := by omega
  replace C1 := Lib.hid C1
  replace C2 := Lib.hid C2
  rw [hg2]
  clear hR hR2 hp hq hp0 hq0 hask hp0l hq0l hsh
  go_enter Tryd.func94, Tryd.ntmps94
  go_upto_region 4 with (first
    | (go_at_call 80; refine CU.out.mono ?_; rintro e w3 ⟨rfl, hb3⟩; have U3 := Lib.hid (U0.out.below hb3 U0.out.lt); have Z3 := Lib.hid (Z0.out.below hb3 Z0.out.lt); have B3 := Lib.hid (B0.out.trans (hb3.mono (by have := U0.out.lt; omega))); clear hb3)
    | (go_at_call_of 139 (Value.string p0); with_reducible refine (C1.out _).mono ?_; rintro e w4 ⟨rfl, hb4⟩; have U3b := Lib.hid (U3.out.below hb4 U3.out.lt); have Z3b := Lib.hid (Z3.out.below hb4 Z3.out.lt); have B3b := Lib.hid (B3.out.trans (hb4.mono (by have := U3.out.lt; omega))); clear hb4)
    | (go_at_call_of 139 (Value.string q0); with_reducible refine (C2.out _).mono ?_; rintro e w5 ⟨rfl, hb5⟩; have U4 := Lib.hid (U3b.out.below hb5 U3b.out.lt); have Z4 := Lib.hid (Z3b.out.below hb5 Z3b.out.lt); have B4 := Lib.hid (B3b.out.trans (hb5.mono (by have := U3b.out.lt; omega))); clear hb5))
  have g5 : g2 ≤ w5.heap.size := Nat.le_of_lt U4.out.lt
  clear U0 Z0 B0 U3 Z3 B3 U3b Z3b B3b CU
  cases p with
  | none =>
    have HR : Hid (R = (zeroU, 10)) := Lib.hid (by rw [HR2.out]; rfl)
    clear HR2
    refine wp_region_seq ?_
    iterate 3
      refine seq_take (v := ?_) (wanted_un rfl) ?_ ?_
      rotate_left
      · go_simp
        try with_reducible rfl
      try simp only [Act.put, List.setIfInBounds_toArray, List.set_cons_zero, List.set_cons_succ]
    iterate 2
      refine seq_skip (wanted_no rfl rfl rfl rfl) ?_
      try simp only [Act.put, List.setIfInBounds_toArray, List.set_cons_zero, List.set_cons_succ]
    iterate 2
      refine seq_take (v := ?_) (wanted_un rfl) ?_ ?_
      rotate_left
      · go_simp
        try with_reducible rfl
      try simp only [Act.put, List.setIfInBounds_toArray, List.set_cons_zero, List.set_cons_succ]
    iterate 3
      refine seq_skip (wanted_no rfl rfl rfl rfl) ?_
      try simp only [Act.put, List.setIfInBounds_toArray, List.set_cons_zero, List.set_cons_succ]
    iterate 3
      refine seq_skip (wanted_und rfl rfl rfl rfl) ?_
      try simp only [Act.put, List.setIfInBounds_toArray, List.set_cons_zero, List.set_cons_succ]
    iterate 1
      refine seq_skip (wanted_no rfl rfl rfl rfl) ?_
      try simp only [Act.put, List.setIfInBounds_toArray, List.set_cons_zero, List.set_cons_succ]
    iterate 1
      refine seq_take (v := ?_) (wanted_un rfl) ?_ ?_
      rotate_left
      · go_simp
        try with_reducible rfl
      try simp only [Act.put, List.setIfInBounds_toArray, List.set_cons_zero, List.set_cons_succ]
    refine seq_done ?_
    skip
    go_wp2_with (refine wpList_store_row rfl 63 _ _ rfl g4 63 zeroC zeroC rfl rfl Z4.out rfl (by kernel_rfl) uri_one ?_; intro w9 hq9 ho9; have q0 := hq9.cell (j := 0) rfl; have q1 := hq9.cell (j := 1) rfl; have q2 := hq9.cell (j := 2) rfl)
    exact bodyPost_ret (v := .tuple #[.agg #[.string ⟨#[]⟩, .int .i64 0, .string ⟨#[]⟩], .int .i64 10]) (by simp [results, Tryd.results94, go_sem, q0, q1, q2]) rfl ⟨by rw [HR.out]; rfl, ho9.below B4.out (by omega)⟩
  | some p =>
    cases q with
    | none =>
      have HR : Hid (R = (zeroU, 10)) := Lib.hid (by rw [HR2.out]; rfl)
      clear HR2
      refine wp_region_seq ?_
      iterate 3
        refine seq_take (v := ?_) (wanted_un rfl) ?_ ?_
        rotate_left
        · go_simp
          try with_reducible rfl
        try simp only [Act.put, List.setIfInBounds_toArray, List.set_cons_zero, List.set_cons_succ]
      iterate 2
        refine seq_take (v := ?_) (wanted_yes rfl rfl rfl rfl) ?_ ?_
        rotate_left
        · go_simp
          try with_reducible rfl
        try simp only [Act.put, List.setIfInBounds_toArray, List.set_cons_zero, List.set_cons_succ]
      iterate 2
        refine seq_take (v := ?_) (wanted_un rfl) ?_ ?_
        rotate_left
        · go_simp
          try with_reducible rfl
        try simp only [Act.put, List.setIfInBounds_toArray, List.set_cons_zero, List.set_cons_succ]
      iterate 3
        refine seq_skip (wanted_no rfl rfl rfl rfl) ?_
        try simp only [Act.put, List.setIfInBounds_toArray, List.set_cons_zero, List.set_cons_succ]
      iterate 3
        refine seq_skip (wanted_und rfl rfl rfl rfl) ?_
        try simp only [Act.put, List.setIfInBounds_toArray, List.set_cons_zero, List.set_cons_succ]
      iterate 1
        refine seq_skip (wanted_no rfl rfl rfl rfl) ?_
        try simp only [Act.put, List.setIfInBounds_toArray, List.set_cons_zero, List.set_cons_succ]
      iterate 1
        refine seq_take (v := ?_) (wanted_un rfl) ?_ ?_
        rotate_left
        · go_simp
          try with_reducible rfl
        try simp only [Act.put, List.setIfInBounds_toArray, List.set_cons_zero, List.set_cons_succ]
      refine seq_done ?_
      skip
      go_wp2_with (refine wpList_store_row rfl 63 _ _ rfl g4 63 zeroC zeroC rfl rfl Z4.out rfl (by kernel_rfl) uri_one ?_; intro w9 hq9 ho9; have q0 := hq9.cell (j := 0) rfl; have q1 := hq9.cell (j := 1) rfl; have q2 := hq9.cell (j := 2) rfl)
      exact bodyPost_ret (v := .tuple #[.agg #[.string ⟨#[]⟩, .int .i64 0, .string ⟨#[]⟩], .int .i64 10]) (by simp [results, Tryd.results94, go_sem, q0, q1, q2]) rfl ⟨by rw [HR.out]; rfl, ho9.below B4.out (by omega)⟩
    | some q =>
      simp only [Option.getD_some, Option.isSome_some]
      obtain ⟨P, hP⟩ : ∃ P : ByteArray, (⟨p.toArray⟩ : ByteArray) = P := ⟨_, rfl⟩
      obtain ⟨Q, hQ⟩ : ∃ P : ByteArray, (⟨q.toArray⟩ : ByteArray) = P := ⟨_, rfl⟩
      have HQ : Hid (Q.data.toList = q) := Lib.hid (by rw [← hQ])
      have hPl : P.data.toList = p := by rw [← hP]
      have hPs : P.size ≤ 100000000 := by rw [← hP, size_mk]; exact HPL.out p rfl
      have hQs : Q.size ≤ 100000000 := by rw [← hQ, size_mk]; exact HQL.out q rfl
      rw [hP, hQ]
      simp only [placeM] at HR2
      clear hP hQ HPL HQL
      by_cases h0 : p = []
      · have e0 : (P.toList == []) = true := by rw [beq_iff_eq, ByteArray.toList_eq, hPl]; exact h0
        have e1 : (P.toList != []) = false := by rw [bne, e0]; rfl
        have HR : Hid (R = joinU (some (H.data.toList, n)) (some (segL (⟨#[47]⟩ : ByteArray).data.toList ++ if ask = true then 63 :: q else []))) := Lib.hid (by rw [HR2.out, if_neg (fun h => h.1 h0), if_pos h0])
        clear h0 hPl HR2
        refine wp_region_seq ?_
        iterate 3
          refine seq_take (v := ?_) (wanted_un rfl) ?_ ?_
          rotate_left
          · go_simp
            try with_reducible rfl
          try simp only [Act.put, List.setIfInBounds_toArray, List.set_cons_zero, List.set_cons_succ]
        iterate 2
          refine seq_take (v := ?_) (wanted_yes rfl rfl rfl rfl) ?_ ?_
          rotate_left
          · go_simp
            try with_reducible rfl
          try simp only [Act.put, List.setIfInBounds_toArray, List.set_cons_zero, List.set_cons_succ]
        iterate 2
          refine seq_take (v := ?_) (wanted_un rfl) ?_ ?_
          rotate_left
          · go_simp
            try with_reducible rfl
          try simp only [Act.put, List.setIfInBounds_toArray, List.set_cons_zero, List.set_cons_succ]
        iterate 3
          refine seq_take (v := ?_) (wanted_yes rfl rfl rfl rfl) ?_ ?_
          rotate_left
          · go_simp
            try with_reducible rfl
          try simp only [Act.put, List.setIfInBounds_toArray, List.set_cons_zero, List.set_cons_succ]
        iterate 3
          refine seq_skip (wanted_no rfl rfl rfl rfl) ?_
          try simp only [Act.put, List.setIfInBounds_toArray, List.set_cons_zero, List.set_cons_succ]
        iterate 1
          refine seq_take (v := ?_) (wanted_yes rfl rfl rfl rfl) ?_ ?_
          rotate_left
          · go_simp
            try with_reducible rfl
          try simp only [Act.put, List.setIfInBounds_toArray, List.set_cons_zero, List.set_cons_succ]
        iterate 1
          refine seq_take (v := ?_) (wanted_un rfl) ?_ ?_
          rotate_left
          · go_simp
            try with_reducible rfl
          try simp only [Act.put, List.setIfInBounds_toArray, List.set_cons_zero, List.set_cons_succ]
        refine seq_done ?_
        go_upto_region 8 with fail
        obtain ⟨G, hG⟩ : ∃ G : ByteArray, (⟨(segL (⟨#[47]⟩ : ByteArray).data.toList).toArray⟩ : ByteArray) = G := ⟨_, rfl⟩
        have SG := segments_any (⟨#[47]⟩ : ByteArray) (by show 1 ≤ _; omega) rfl w5 (HSH.out _ B4.out)
        rw [hG] at SG
        replace SG := Lib.hid SG
        have hGs : G.size ≤ 100000001 := by rw [← hG, size_mk]; have := seg_length (p := (⟨#[47]⟩ : ByteArray).data.toList) rfl; rw [data_len] at this; have hz : (⟨#[47]⟩ : ByteArray).size ≤ 100000000 := (by show 1 ≤ _; omega); omega
        have HGl : Hid (G.data.toList = segL (⟨#[47]⟩ : ByteArray).data.toList) := Lib.hid (by rw [← hG])
        clear hG
        go_upto_region 9 with (go_at_call 140; refine SG.out.mono ?_; rintro e w6 ⟨rfl, hb6⟩; have u6 := U4.out.below hb6 U4.out.lt; have e6 := u6.cell (j := 2) rfl; have f6 := u6.frozen (j := 2) (by show 2 < 3; omega); have z6 := Z4.out.below hb6 Z4.out.lt; have b6 := B4.out.trans (hb6.mono g5))
        have U7 := Lib.hid (u6.set_ (j := 2) (by show 2 < 3; omega) (.string G))
        have Z7 := Lib.hid (z6.far (p := ⟨g2, 2, none⟩) (by show g4 ≠ g2; omega) (.string G))
        have B7 := Lib.hid (b6.setCell (p := ⟨g2, 2, none⟩) (Nat.le_refl _) (.string G))
        obtain ⟨w7, hw7⟩ : ∃ W, w6.setCell ⟨g2, 2, none⟩ (.string G) = W := ⟨_, rfl⟩
        rw [hw7] at U7 Z7 B7 ⊢
        have U7 : Hid (RowAt w7 g2 63 [.string H, .int .i64 n, .string G]) := U7
        clear hw7 hb6 u6 e6 f6 z6 b6 U4 Z4 B4
        have x0 := U7.out.cell (j := 0) rfl
        have x1 := U7.out.cell (j := 1) rfl
        have x2 := U7.out.cell (j := 2) rfl
        have f2 := U7.out.frozen (j := 2) (by show 2 < 3; omega)
        cases ask with
        | false =>
          have HRR : Hid (R = (⟨H.data.toList, n, G.data.toList⟩, 0)) := Lib.hid (by rw [HR.out, HGl.out]; simp [joinU])
          go_wp2_with (refine wpList_store_row rfl 63 _ _ rfl g4 63 [.string H, .int .i64 n, .string G] zeroC rfl rfl Z7.out rfl (by kernel_rfl) uri_one ?_; intro w9 hq9 ho9; have q0 := hq9.cell (j := 0) rfl; have q1 := hq9.cell (j := 1) rfl; have q2 := hq9.cell (j := 2) rfl)
          exact bodyPost_ret (v := .tuple #[.agg #[.string H, .int .i64 n, .string G], .int .i64 0]) (by simp [results, Tryd.results94, go_sem, q0, q1, q2]) rfl ⟨by rw [HRR.out]; simp only [uriC, Lib.mk_data], ho9.below B7.out (by omega)⟩
        | true =>
          have HRR : Hid (R = (⟨H.data.toList, n, (G ++ ((⟨#[63]⟩ : ByteArray) ++ Q)).data.toList⟩, 0)) := Lib.hid (by rw [HR.out, append_data, append_data, HGl.out]; simp [joinU, HQ.out])
          have U8 := Lib.hid (U7.out.set_ (j := 2) (by show 2 < 3; omega) (.string (G ++ ((⟨#[63]⟩ : ByteArray) ++ Q))))
          have Z8 := Lib.hid (Z7.out.far (p := ⟨g2, 2, none⟩) (by show g4 ≠ g2; omega) (.string (G ++ ((⟨#[63]⟩ : ByteArray) ++ Q))))
          have B8 := Lib.hid (B7.out.setCell (p := ⟨g2, 2, none⟩) (Nat.le_refl _) (.string (G ++ ((⟨#[63]⟩ : ByteArray) ++ Q))))
          have hQ1 : ((⟨#[63]⟩ : ByteArray) ++ Q).size = Q.size + 1 := by rw [← data_len, append_data, List.length_append, data_len Q]; show 1 + _ = _; omega
          go_upto_region 11 with fail
          obtain ⟨w8, hw8⟩ : ∃ W, w7.setCell ⟨g2, 2, none⟩ (.string (G ++ ((⟨#[63]⟩ : ByteArray) ++ Q))) = W := ⟨_, rfl⟩
          rw [hw8] at U8 Z8 B8 ⊢
          obtain ⟨GQ, hGQ⟩ : ∃ X : ByteArray, G ++ ((⟨#[63]⟩ : ByteArray) ++ Q) = X := ⟨_, rfl⟩
          rw [hGQ] at HRR U8
          have U8 : Hid (RowAt w8 g2 63 [.string H, .int .i64 n, .string GQ]) := U8
          clear hw8 x0 x1 x2 f2 U7 Z7 B7
          have x0 := U8.out.cell (j := 0) rfl
          have x1 := U8.out.cell (j := 1) rfl
          have x2 := U8.out.cell (j := 2) rfl
          go_wp2_with (refine wpList_store_row rfl 63 _ _ rfl g4 63 [.string H, .int .i64 n, .string GQ] zeroC rfl rfl Z8.out rfl (by kernel_rfl) uri_one ?_; intro w9 hq9 ho9; have q0 := hq9.cell (j := 0) rfl; have q1 := hq9.cell (j := 1) rfl; have q2 := hq9.cell (j := 2) rfl)
          exact bodyPost_ret (v := .tuple #[.agg #[.string H, .int .i64 n, .string GQ], .int .i64 0]) (by simp [results, Tryd.results94, go_sem, q0, q1, q2]) rfl ⟨by rw [HRR.out]; simp only [uriC, Lib.mk_data], ho9.below B8.out (by omega)⟩
      · have e0 : (P.toList == []) = false := by rw [beq_eq_false_iff_ne, ByteArray.toList_eq, hPl]; exact h0
        have e1 : (P.toList != []) = true := by rw [bne, e0]; rfl
        have hp0 : 0 < P.size := by
          rcases Nat.eq_zero_or_pos P.size with h | h
          · exact absurd (List.eq_nil_of_length_eq_zero (by rw [← hPl, data_len]; exact h)) h0
          · exact h
        obtain ⟨c, hc⟩ : ∃ c, P[0] = c := ⟨_, rfl⟩
        have hh : p.head? = some c := by rw [← hPl, List.head?_eq_getElem?, get_data P 0 hp0, hc]
        have pI : (0 : Int) < (P.size : Int) := by omega
        by_cases h47 : c = 47
        · subst h47
          have e47 : (((47 : UInt8).toNat : Int) != 47) = false := by decide
          have e47' : (((47 : UInt8).toNat : Int) == 47) = true := by decide
          have HR : Hid (R = joinU (some (H.data.toList, n)) (some (segL P.data.toList ++ if ask = true then 63 :: q else []))) := Lib.hid (by rw [HR2.out, if_neg (fun h => h.2 hh), if_neg h0, hPl])
          have HHH : Hid (P.data.toList.head? = some 47) := Lib.hid (by rw [hPl]; exact hh)
          clear h0 hPl HR2 hh
          refine wp_region_seq ?_
          iterate 3
            refine seq_take (v := ?_) (wanted_un rfl) ?_ ?_
            rotate_left
            · go_simp
              try with_reducible rfl
            try simp only [Act.put, List.setIfInBounds_toArray, List.set_cons_zero, List.set_cons_succ]
          iterate 2
            refine seq_take (v := ?_) (wanted_yes rfl rfl rfl rfl) ?_ ?_
            rotate_left
            · go_simp
              try with_reducible rfl
            try simp only [Act.put, List.setIfInBounds_toArray, List.set_cons_zero, List.set_cons_succ]
          iterate 2
            refine seq_take (v := ?_) (wanted_un rfl) ?_ ?_
            rotate_left
            · go_simp
              try with_reducible rfl
            try simp only [Act.put, List.setIfInBounds_toArray, List.set_cons_zero, List.set_cons_succ]
          iterate 7
            refine seq_take (v := ?_) (wanted_yes rfl rfl rfl rfl) ?_ ?_
            rotate_left
            · go_simp
              try with_reducible rfl
            try simp only [Act.put, List.setIfInBounds_toArray, List.set_cons_zero, List.set_cons_succ]
          iterate 1
            refine seq_take (v := ?_) (wanted_un rfl) ?_ ?_
            rotate_left
            · go_simp
              try with_reducible rfl
            try simp only [Act.put, List.setIfInBounds_toArray, List.set_cons_zero, List.set_cons_succ]
          refine seq_done ?_
          go_upto_region 8 with fail
          obtain ⟨G, hG⟩ : ∃ G : ByteArray, (⟨(segL P.data.toList).toArray⟩ : ByteArray) = G := ⟨_, rfl⟩
          have SG := segments_any P hPs HHH.out w5 (HSH.out _ B4.out)
          rw [hG] at SG
          replace SG := Lib.hid SG
          have hGs : G.size ≤ 100000001 := by rw [← hG, size_mk]; have := seg_length (p := P.data.toList) HHH.out; rw [data_len] at this; have hz : P.size ≤ 100000000 := hPs; omega
          have HGl : Hid (G.data.toList = segL P.data.toList) := Lib.hid (by rw [← hG])
          clear hG
          go_upto_region 9 with (go_at_call 140; refine SG.out.mono ?_; rintro e w6 ⟨rfl, hb6⟩; have u6 := U4.out.below hb6 U4.out.lt; have e6 := u6.cell (j := 2) rfl; have f6 := u6.frozen (j := 2) (by show 2 < 3; omega); have z6 := Z4.out.below hb6 Z4.out.lt; have b6 := B4.out.trans (hb6.mono g5))
          have U7 := Lib.hid (u6.set_ (j := 2) (by show 2 < 3; omega) (.string G))
          have Z7 := Lib.hid (z6.far (p := ⟨g2, 2, none⟩) (by show g4 ≠ g2; omega) (.string G))
          have B7 := Lib.hid (b6.setCell (p := ⟨g2, 2, none⟩) (Nat.le_refl _) (.string G))
          obtain ⟨w7, hw7⟩ : ∃ W, w6.setCell ⟨g2, 2, none⟩ (.string G) = W := ⟨_, rfl⟩
          rw [hw7] at U7 Z7 B7 ⊢
          have U7 : Hid (RowAt w7 g2 63 [.string H, .int .i64 n, .string G]) := U7
          clear hw7 hb6 u6 e6 f6 z6 b6 U4 Z4 B4
          have x0 := U7.out.cell (j := 0) rfl
          have x1 := U7.out.cell (j := 1) rfl
          have x2 := U7.out.cell (j := 2) rfl
          have f2 := U7.out.frozen (j := 2) (by show 2 < 3; omega)
          cases ask with
          | false =>
            have HRR : Hid (R = (⟨H.data.toList, n, G.data.toList⟩, 0)) := Lib.hid (by rw [HR.out, HGl.out]; simp [joinU])
            go_wp2_with (refine wpList_store_row rfl 63 _ _ rfl g4 63 [.string H, .int .i64 n, .string G] zeroC rfl rfl Z7.out rfl (by kernel_rfl) uri_one ?_; intro w9 hq9 ho9; have q0 := hq9.cell (j := 0) rfl; have q1 := hq9.cell (j := 1) rfl; have q2 := hq9.cell (j := 2) rfl)
            exact bodyPost_ret (v := .tuple #[.agg #[.string H, .int .i64 n, .string G], .int .i64 0]) (by simp [results, Tryd.results94, go_sem, q0, q1, q2]) rfl ⟨by rw [HRR.out]; simp only [uriC, Lib.mk_data], ho9.below B7.out (by omega)⟩
          | true =>
            have HRR : Hid (R = (⟨H.data.toList, n, (G ++ ((⟨#[63]⟩ : ByteArray) ++ Q)).data.toList⟩, 0)) := Lib.hid (by rw [HR.out, append_data, append_data, HGl.out]; simp [joinU, HQ.out])
            have U8 := Lib.hid (U7.out.set_ (j := 2) (by show 2 < 3; omega) (.string (G ++ ((⟨#[63]⟩ : ByteArray) ++ Q))))
            have Z8 := Lib.hid (Z7.out.far (p := ⟨g2, 2, none⟩) (by show g4 ≠ g2; omega) (.string (G ++ ((⟨#[63]⟩ : ByteArray) ++ Q))))
            have B8 := Lib.hid (B7.out.setCell (p := ⟨g2, 2, none⟩) (Nat.le_refl _) (.string (G ++ ((⟨#[63]⟩ : ByteArray) ++ Q))))
            have hQ1 : ((⟨#[63]⟩ : ByteArray) ++ Q).size = Q.size + 1 := by rw [← data_len, append_data, List.length_append, data_len Q]; show 1 + _ = _; omega
            go_upto_region 11 with fail
            obtain ⟨w8, hw8⟩ : ∃ W, w7.setCell ⟨g2, 2, none⟩ (.string (G ++ ((⟨#[63]⟩ : ByteArray) ++ Q))) = W := ⟨_, rfl⟩
            rw [hw8] at U8 Z8 B8 ⊢
            obtain ⟨GQ, hGQ⟩ : ∃ X : ByteArray, G ++ ((⟨#[63]⟩ : ByteArray) ++ Q) = X := ⟨_, rfl⟩
            rw [hGQ] at HRR U8
            have U8 : Hid (RowAt w8 g2 63 [.string H, .int .i64 n, .string GQ]) := U8
            clear hw8 x0 x1 x2 f2 U7 Z7 B7
            have x0 := U8.out.cell (j := 0) rfl
            have x1 := U8.out.cell (j := 1) rfl
            have x2 := U8.out.cell (j := 2) rfl
            go_wp2_with (refine wpList_store_row rfl 63 _ _ rfl g4 63 [.string H, .int .i64 n, .string GQ] zeroC rfl rfl Z8.out rfl (by kernel_rfl) uri_one ?_; intro w9 hq9 ho9; have q0 := hq9.cell (j := 0) rfl; have q1 := hq9.cell (j := 1) rfl; have q2 := hq9.cell (j := 2) rfl)
            exact bodyPost_ret (v := .tuple #[.agg #[.string H, .int .i64 n, .string GQ], .int .i64 0]) (by simp [results, Tryd.results94, go_sem, q0, q1, q2]) rfl ⟨by rw [HRR.out]; simp only [uriC, Lib.mk_data], ho9.below B8.out (by omega)⟩
        · have e47' : ((c.toNat : Int) == 47) = false := by rw [byteLit c 47 47 rfl, beq_eq_false_iff_ne]; intro h; exact h47 (UInt8.toNat_inj.1 h)
          have e47 : ((c.toNat : Int) != 47) = true := by rw [bne, e47']; rfl
          have HR : Hid (R = (zeroU, 10)) := Lib.hid (by rw [HR2.out, if_pos ⟨h0, by rw [hh]; simp [h47]⟩]; rfl)
          clear HR2 h0 hPl hh h47
          refine wp_region_seq ?_
          iterate 3
            refine seq_take (v := ?_) (wanted_un rfl) ?_ ?_
            rotate_left
            · go_simp
              try with_reducible rfl
            try simp only [Act.put, List.setIfInBounds_toArray, List.set_cons_zero, List.set_cons_succ]
          iterate 2
            refine seq_take (v := ?_) (wanted_yes rfl rfl rfl rfl) ?_ ?_
            rotate_left
            · go_simp
              try with_reducible rfl
            try simp only [Act.put, List.setIfInBounds_toArray, List.set_cons_zero, List.set_cons_succ]
          iterate 2
            refine seq_take (v := ?_) (wanted_un rfl) ?_ ?_
            rotate_left
            · go_simp
              try with_reducible rfl
            try simp only [Act.put, List.setIfInBounds_toArray, List.set_cons_zero, List.set_cons_succ]
          iterate 7
            refine seq_take (v := ?_) (wanted_yes rfl rfl rfl rfl) ?_ ?_
            rotate_left
            · go_simp
              try with_reducible rfl
            try simp only [Act.put, List.setIfInBounds_toArray, List.set_cons_zero, List.set_cons_succ]
          iterate 1
            refine seq_take (v := ?_) (wanted_un rfl) ?_ ?_
            rotate_left
            · go_simp
              try with_reducible rfl
            try simp only [Act.put, List.setIfInBounds_toArray, List.set_cons_zero, List.set_cons_succ]
          refine seq_done ?_
          skip
          go_wp2_with (refine wpList_store_row rfl 63 _ _ rfl g4 63 zeroC zeroC rfl rfl Z4.out rfl (by kernel_rfl) uri_one ?_; intro w9 hq9 ho9; have q0 := hq9.cell (j := 0) rfl; have q1 := hq9.cell (j := 1) rfl; have q2 := hq9.cell (j := 2) rfl)
          exact bodyPost_ret (v := .tuple #[.agg #[.string ⟨#[]⟩, .int .i64 0, .string ⟨#[]⟩], .int .i64 10]) (by simp [results, Tryd.results94, go_sem, q0, q1, q2]) rfl ⟨by rw [HR.out]; rfl, ho9.below B4.out (by omega)⟩
end Go.Proofs.YtaddefjkjlkjnaaDoor
