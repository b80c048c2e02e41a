/- Walks of layer 5: a place, a URI of a host, a port and a place, by the document. Condition: at most 10^8 octets. -/
import Derived.Test.YtaddefjkjlkjnaaDoorTar8
import Derived.Test.YtaddefjkjlkjnaaDoorTar10
import Derived.Test.YtaddefjkjlkjnaaDoorTar11
import Derived.Test.YtaddefjkjlkjnaaDoorSeqU
namespace Go.Proofs.YtaddefjkjlkjnaaDoor
open Go.RowKit IH
set_option maxRecDepth 100000
theorem placeM_no (p q : Option (List UInt8)) (h : p = none ∨ q = none) (ask : Bool) : placeM ask p q = none := by
  rcases h with rfl | rfl
  · rfl
  · cases p <;> rfl
/-- Where the path ends. -/
theorem path_end (s : ByteArray) : ∃ A : Nat, A ≤ s.size ∧ s.data.toList.takeWhile (· != 63) = s.data.toList.take A ∧ (s.data.toList.dropWhile (· != 63)).drop 1 = s.data.toList.drop (A + 1) ∧ (∀ k c, s.data.toList[k]? = some c → k ≤ A → (c = 63 ↔ k = A)) ∧
    ((A = s.size ∧ 63 ∉ s.data.toList) ∨ (A + 1 ≤ s.size ∧ 63 ∈ s.data.toList)) := by
  by_cases hm : 63 ∈ s.data.toList
  · obtain ⟨a, b, h1, ha⟩ := List.eq_append_cons_of_mem hm
    have h2 : ∀ x ∈ a, x ≠ 63 := fun x hx e => ha (e ▸ hx)
    obtain ⟨t1, t2⟩ := until_eq (d := 63) (x := a) (r := b) h2
    have hlen : a.length + 1 + b.length = s.size := by rw [← data_len, h1]; simp; omega
    refine ⟨a.length, by omega, ?_, ?_, ?_, .inr ⟨by omega, hm⟩⟩
    · rw [h1, t1, List.take_left' rfl]
    · rw [h1, t2, List.drop_succ_cons, List.drop_zero, ← List.drop_drop, List.drop_left' rfl]; rfl
    · intro k c hk hka
      rw [h1] at hk
      rcases Nat.lt_or_ge k a.length with h | h
      · rw [List.getElem?_append_left h] at hk
        constructor
        · intro e; exact absurd e (h2 c (List.mem_of_getElem? hk))
        · intro e; omega
      · rw [List.getElem?_append_right h, show k - a.length = 0 by omega, List.getElem?_cons_zero] at hk
        constructor
        · intro _; omega
        · intro _; exact (Option.some.inj hk).symm
  · have hno : ∀ x ∈ s.data.toList, x ≠ 63 := fun x hx e => hm (e ▸ hx)
    obtain ⟨t1, t2⟩ := until_all hno
    refine ⟨s.size, Nat.le_refl _, ?_, ?_, ?_, .inl ⟨rfl, hm⟩⟩
    · rw [t1, List.take_of_length_le (by rw [data_len]; exact Nat.le_refl _)]
    · rw [t2, List.drop_nil, List.drop_eq_nil_of_le (by rw [data_len]; omega)]
    · intro k c hk hka
      constructor
      · intro e; exact absurd e (hno c (List.mem_of_getElem? hk))
      · intro e
        have := (List.getElem?_eq_some_iff.1 hk).1
        rw [data_len] at this
        omega
set_option maxHeartbeats 16000000 in
theorem refPlace_any (s : ByteArray) (hs : s.size ≤ 100000000) (w : World) :
    Calls Tryd.prog 143 #[.string s] w fun e w' => (∃ X : ByteArray, e = .returned (.tuple #[.string X, .bool (placeL s.data.toList).isSome]) ∧ ∀ r, placeL s.data.toList = some r → X.data.toList = r) ∧ Below w.heap.size w w' := by
  obtain ⟨R, hR⟩ : ∃ R, placeL s.data.toList = R := ⟨_, rfl⟩
  rw [hR]
  obtain ⟨A, hAs, hA1, hA2, hA3, hend⟩ := path_end s
  have hR2 := placeM_eq s.data.toList
  rw [hR, hA1, hA2] at hR2
  obtain ⟨P0, hP0⟩ : ∃ P : ByteArray, s.extract 0 A = P := ⟨_, rfl⟩
  obtain ⟨Q0, hQ0⟩ : ∃ P : ByteArray, s.extract (A + 1) s.size = P := ⟨_, rfl⟩
  have hP0l : P0.data.toList = s.data.toList.take A := by rw [← hP0, take_data s A hAs]
  have hQ0l : Q0.data.toList = s.data.toList.drop (A + 1) := by rw [← hQ0, drop_data]
  have hP0s : P0.size ≤ 100000000 := by rw [← data_len, hP0l, List.length_take, data_len]; omega
  have hQ0s : Q0.size ≤ 100000000 := by rw [← data_len, hQ0l, List.length_drop, data_len]; omega
  have C1 := fun W => refCoded5_any P0 hP0s false W
  have C2 := fun W => refCoded5_any Q0 hQ0s true W
  rw [hP0l] at C1
  rw [hQ0l] at C2
  obtain ⟨p, hp⟩ : ∃ x, codedL false (s.data.toList.take A) = x := ⟨_, rfl⟩
  obtain ⟨q, hq⟩ : ∃ x, codedL true (s.data.toList.drop (A + 1)) = x := ⟨_, rfl⟩
  have HPL : Hid (∀ x, p = some x → x.length ≤ 100000000) := Lib.hid (by
    intro x hx
    have := coded_length false _ x (hp.trans hx)
    rw [← hP0l, data_len] at this
    omega)
  have HQL : Hid (∀ x, q = some x → x.length ≤ 100000000) := Lib.hid (by
    intro x hx
    have := coded_length true _ x (hq.trans hx)
    rw [← hQ0l, data_len] at this
    omega)
  have HQ1 : Hid (A = s.size → q = some []) := Lib.hid (by intro h; rw [← hq, List.drop_eq_nil_of_le (by rw [data_len]; omega), codedL])
  rw [hp] at C1 hR2
  rw [hq] at C2 hR2
  have HR2 := Lib.hid hR2
  have H3 := Lib.hid hA3
  replace C1 := Lib.hid C1
  replace C2 := Lib.hid C2
  have aI : (A : Int) ≤ (s.size : Int) := by omega
  have a0 : (0 : Int) ≤ (A : Int) := by omega
  clear hR hR2 hA1 hA2 hA3 hp hq hP0l hQ0l
  go_enter Tryd.func143, Tryd.ntmps143
  go_upto_block 0 with fail
  go_cut [4] from 8 to 19 (fun s4 wx => s4 = .int .i64 A ∧ wx = w)
  case first =>
    go_wp2_with fail
    go_loopw [4] (fun s4 wr => ∃ k : Nat, k ≤ A ∧ s4 = .int .i64 k ∧ wr = w) (fun s4 _ => A - (intOf s4).toNat)
    case atStart => exact ⟨0, by omega, rfl, rfl⟩
    case round =>
      obtain ⟨k, hk, rfl, rfl⟩ := hrel
      by_cases hkA : k = A
      · subst hkA
        by_cases hks : k < s.size
        · obtain ⟨c, hc⟩ : ∃ c, s[k] = c := ⟨_, rfl⟩
          have h63 : c = 63 := (H3.out k c (by rw [get_data s k hks, hc]) (Nat.le_refl _)).2 rfl
          subst h63
          have kI : (k : Int) < (s.size : Int) := by omega
          have e63 : (((63 : UInt8).toNat : Int) != 63) = false := by decide
          go_wp2_with fail
          go_meet
          exact ⟨rfl, rfl⟩
        · have kI : ¬ ((k : Int) < (s.size : Int)) := by omega
          go_wp2_with fail
          go_meet
          exact ⟨rfl, rfl⟩
      · have hks : k < s.size := by omega
        obtain ⟨c, hc⟩ : ∃ c, s[k] = c := ⟨_, rfl⟩
        have h63 : c ≠ 63 := fun e => hkA ((H3.out k c (by rw [get_data s k hks, hc]) hk).1 e)
        have kI : (k : Int) < (s.size : Int) := by omega
        have e63' : ((c.toNat : Int) == 63) = false := by rw [byteLit c 63 63 rfl, beq_eq_false_iff_ne]; intro h; exact h63 (UInt8.toNat_inj.1 h)
        have e63 : ((c.toNat : Int) != 63) = true := by rw [bne, e63']; rfl
        clear h63 hend
        go_wp2_with fail
        go_roundw
        case rel => exact ⟨k + 1, by omega, by go_num, by first | rfl | trivial⟩
        case measure => simp [intOf]; omega
  case rest =>
    obtain ⟨rfl, rfl⟩ := hcut
    go_upto_region 5 with (go_at_call 47; refine (C1.out _).mono ?_; rintro e w4 ⟨rfl, hb4⟩; have B4 := Lib.hid hb4; clear hb4)
    cases p with
    | none =>
      have HRR : Hid (R = none) := Lib.hid (by rw [HR2.out, placeM_no _ _ (.inl rfl)])
      clear HR2
      refine wp_region_seq ?_
      iterate 3
        refine seq_take (v := ?_) (wanted_un rfl) ?_ ?_
        rotate_left
        · go_simp
          try with_reducible rfl
        try simp only [Act.put, List.setIfInBounds_toArray, List.set_cons_zero, List.set_cons_succ]
      iterate 3
        refine seq_skip (wanted_no rfl rfl rfl rfl) ?_
        try simp only [Act.put, List.setIfInBounds_toArray, List.set_cons_zero, List.set_cons_succ]
      iterate 3
        refine seq_skip (wanted_und rfl rfl rfl rfl) ?_
        try simp only [Act.put, List.setIfInBounds_toArray, List.set_cons_zero, List.set_cons_succ]
      iterate 1
        refine seq_skip (wanted_no rfl rfl rfl rfl) ?_
        try simp only [Act.put, List.setIfInBounds_toArray, List.set_cons_zero, List.set_cons_succ]
      iterate 1
        refine seq_take (v := ?_) (wanted_un rfl) ?_ ?_
        rotate_left
        · go_simp
          try with_reducible rfl
        try simp only [Act.put, List.setIfInBounds_toArray, List.set_cons_zero, List.set_cons_succ]
      refine seq_done ?_
      go_wp2_with fail
      go_ret2
      exact ⟨⟨_, by rw [HRR.out]; rfl, fun r hr => by rw [HRR.out] at hr; cases hr⟩, B4.out⟩
    | some p =>
      simp only [Option.getD_some, Option.isSome_some]
      obtain ⟨P, hP⟩ : ∃ P : ByteArray, (⟨p.toArray⟩ : ByteArray) = P := ⟨_, rfl⟩
      have hPl : P.data.toList = p := by rw [← hP]
      have hPs : P.size ≤ 100000000 := by rw [← hP, size_mk]; exact HPL.out p rfl
      rw [hP]
      clear hP HPL
      have hask : hasC 63 s.data.toList = true ↔ 63 ∈ s.data.toList := by unfold hasC; rw [List.contains_iff_mem]
      have key : ∀ Z : List UInt8, (¬ (p ≠ [] ∧ p.head? ≠ some 47)) → (if p = [] then [47] else p) = Z → R = q.map (fun q => segL Z ++ if 63 ∈ s.data.toList then 63 :: q else []) := by
        intro Z h1 h2
        rw [HR2.out]
        cases q with
        | none => rfl
        | some q => simp only [placeM, Option.map_some]; rw [if_neg h1, h2]; simp only [hask]
      have KEY := Lib.hid key
      clear key
      by_cases h0 : p = []
      · have e0 : (P.toList == []) = true := by rw [beq_iff_eq, ByteArray.toList_eq, hPl]; exact h0
        have e1 : (P.toList != []) = false := by rw [bne, e0]; rfl
        have HR := Lib.hid (KEY.out (⟨#[47]⟩ : ByteArray).data.toList (fun h => h.1 h0) (if_pos h0))
        clear h0 hPl HR2 KEY
        refine wp_region_seq ?_
        iterate 3
          refine seq_take (v := ?_) (wanted_un rfl) ?_ ?_
          rotate_left
          · go_simp
            try with_reducible rfl
          try simp only [Act.put, List.setIfInBounds_toArray, List.set_cons_zero, List.set_cons_succ]
        iterate 3
          refine seq_take (v := ?_) (wanted_yes rfl rfl rfl rfl) ?_ ?_
          rotate_left
          · go_simp
            try with_reducible rfl
          try simp only [Act.put, List.setIfInBounds_toArray, List.set_cons_zero, List.set_cons_succ]
        iterate 3
          refine seq_skip (wanted_no rfl rfl rfl rfl) ?_
          try simp only [Act.put, List.setIfInBounds_toArray, List.set_cons_zero, List.set_cons_succ]
        iterate 1
          refine seq_take (v := ?_) (wanted_yes rfl rfl rfl rfl) ?_ ?_
          rotate_left
          · go_simp
            try with_reducible rfl
          try simp only [Act.put, List.setIfInBounds_toArray, List.set_cons_zero, List.set_cons_succ]
        iterate 1
          refine seq_take (v := ?_) (wanted_un rfl) ?_ ?_
          rotate_left
          · go_simp
            try with_reducible rfl
          try simp only [Act.put, List.setIfInBounds_toArray, List.set_cons_zero, List.set_cons_succ]
        refine seq_done ?_
        go_upto_region 9 with fail
        obtain ⟨G, hG⟩ : ∃ G : ByteArray, (⟨(segL (⟨#[47]⟩ : ByteArray).data.toList).toArray⟩ : ByteArray) = G := ⟨_, rfl⟩
        have DT := fun W => dots_any (⟨#[47]⟩ : ByteArray) (by show 1 ≤ _; omega) rfl W
        rw [hG] at DT
        replace DT := Lib.hid DT
        have hGs : G.size ≤ 100000001 := by rw [← hG, size_mk]; have := seg_length (p := (⟨#[47]⟩ : ByteArray).data.toList) rfl; rw [data_len] at this; have hz : (⟨#[47]⟩ : ByteArray).size ≤ 100000000 := (by show 1 ≤ _; omega); omega
        have HGl : Hid (G.data.toList = segL (⟨#[47]⟩ : ByteArray).data.toList) := Lib.hid (by rw [← hG])
        clear hG
        rcases hend with ⟨hA, hno⟩ | ⟨hA, h63⟩
        · have HRR : Hid (R = some G.data.toList) := Lib.hid (by rw [HR.out, HQ1.out hA]; simp only [Option.map_some]; rw [if_neg hno, List.append_nil, HGl.out])
          have aI : ((A : Int) == (s.size : Int)) = true := by rw [hA]; simp
          clear hno
          go_wp2_with (go_at_call 176; refine (DT.out _).mono ?_; rintro e w5 ⟨rfl, hb5⟩)
          go_ret2
          exact ⟨⟨G, by rw [HRR.out]; rfl, fun r hr => by rw [HRR.out] at hr; exact Option.some.inj hr⟩, below_step B4.out hb5⟩
        · have aI : ((A : Int) == (s.size : Int)) = false := by rw [beq_eq_false_iff_ne]; omega
          have aI2 : (A : Int) + 1 ≤ (s.size : Int) := by omega
          have w1 : IntKind.i64.wrap ((A : Int) + 1) = (A : Int) + 1 := IntWalk.i64_in _ ⟨by omega, by omega⟩
          cases q with
          | none =>
            have HRR : Hid (R = none) := Lib.hid (by rw [HR.out]; rfl)
            go_wp2_with (first
              | (go_at_call 176; refine (DT.out _).mono ?_; rintro e w5 ⟨rfl, hb5⟩; have B5 := Lib.hid (below_step B4.out hb5); clear hb5)
              | (go_at_call 47; refine (C2.out _).mono ?_; rintro e w6 ⟨rfl, hb6⟩; have B6 := Lib.hid (below_step B5.out hb6); clear hb6))
            go_ret2
            exact ⟨⟨_, by rw [HRR.out]; rfl, fun r hr => by rw [HRR.out] at hr; cases hr⟩, B6.out⟩
          | some q =>
            obtain ⟨Q, hQ⟩ : ∃ P : ByteArray, (⟨q.toArray⟩ : ByteArray) = P := ⟨_, rfl⟩
            have HQ : Hid (Q.data.toList = q) := Lib.hid (by rw [← hQ])
            have hQs : Q.size ≤ 100000000 := by rw [← hQ, size_mk]; exact HQL.out q rfl
            simp only [Option.getD_some, Option.isSome_some] at C2
            rw [hQ] at C2
            have hT1 : (G ++ (⟨#[63]⟩ : ByteArray)).size = G.size + 1 := by rw [← data_len, append_data, List.length_append, data_len]; rfl
            have HRR : Hid (R = some (G ++ (⟨#[63]⟩ : ByteArray) ++ Q).data.toList) := Lib.hid (by rw [HR.out]; simp only [Option.map_some]; rw [if_pos h63, append_data, append_data, HGl.out, HQ.out]; simp)
            clear hQ
            go_wp2_with (first
              | (go_at_call 176; refine (DT.out _).mono ?_; rintro e w5 ⟨rfl, hb5⟩; have B5 := Lib.hid (below_step B4.out hb5); clear hb5)
              | (go_at_call 47; refine (C2.out _).mono ?_; rintro e w6 ⟨rfl, hb6⟩; have B6 := Lib.hid (below_step B5.out hb6); clear hb6))
            go_ret2
            exact ⟨⟨_, by rw [HRR.out]; rfl, fun r hr => by rw [HRR.out] at hr; exact Option.some.inj hr⟩, B6.out⟩
      · have e0 : (P.toList == []) = false := by rw [beq_eq_false_iff_ne, ByteArray.toList_eq, hPl]; exact h0
        have e1 : (P.toList != []) = true := by rw [bne, e0]; rfl
        have hp0 : 0 < P.size := by
          rcases Nat.eq_zero_or_pos P.size with h | h
          · exact absurd (List.eq_nil_of_length_eq_zero (by rw [← hPl, data_len]; exact h)) h0
          · exact h
        obtain ⟨c, hc⟩ : ∃ c, P[0] = c := ⟨_, rfl⟩
        have hh : p.head? = some c := by rw [← hPl, List.head?_eq_getElem?, get_data P 0 hp0, hc]
        have pI : (0 : Int) < (P.size : Int) := by omega
        by_cases h47 : c = 47
        · subst h47
          have e47 : (((47 : UInt8).toNat : Int) != 47) = false := by decide
          have e47' : (((47 : UInt8).toNat : Int) == 47) = true := by decide
          have HR := Lib.hid (KEY.out P.data.toList (fun h => h.2 hh) (by rw [if_neg h0, hPl]))
          have HHH : Hid (P.data.toList.head? = some 47) := Lib.hid (by rw [hPl]; exact hh)
          clear h0 hPl HR2 hh KEY
          refine wp_region_seq ?_
          iterate 3
            refine seq_take (v := ?_) (wanted_un rfl) ?_ ?_
            rotate_left
            · go_simp
              try with_reducible rfl
            try simp only [Act.put, List.setIfInBounds_toArray, List.set_cons_zero, List.set_cons_succ]
          iterate 7
            refine seq_take (v := ?_) (wanted_yes rfl rfl rfl rfl) ?_ ?_
            rotate_left
            · go_simp
              try with_reducible rfl
            try simp only [Act.put, List.setIfInBounds_toArray, List.set_cons_zero, List.set_cons_succ]
          iterate 1
            refine seq_take (v := ?_) (wanted_un rfl) ?_ ?_
            rotate_left
            · go_simp
              try with_reducible rfl
            try simp only [Act.put, List.setIfInBounds_toArray, List.set_cons_zero, List.set_cons_succ]
          refine seq_done ?_
          go_upto_region 9 with fail
          obtain ⟨G, hG⟩ : ∃ G : ByteArray, (⟨(segL P.data.toList).toArray⟩ : ByteArray) = G := ⟨_, rfl⟩
          have DT := fun W => dots_any P hPs HHH.out W
          rw [hG] at DT
          replace DT := Lib.hid DT
          have hGs : G.size ≤ 100000001 := by rw [← hG, size_mk]; have := seg_length (p := P.data.toList) HHH.out; rw [data_len] at this; have hz : P.size ≤ 100000000 := hPs; omega
          have HGl : Hid (G.data.toList = segL P.data.toList) := Lib.hid (by rw [← hG])
          clear hG
          rcases hend with ⟨hA, hno⟩ | ⟨hA, h63⟩
          · have HRR : Hid (R = some G.data.toList) := Lib.hid (by rw [HR.out, HQ1.out hA]; simp only [Option.map_some]; rw [if_neg hno, List.append_nil, HGl.out])
            have aI : ((A : Int) == (s.size : Int)) = true := by rw [hA]; simp
            clear hno
            go_wp2_with (go_at_call 176; refine (DT.out _).mono ?_; rintro e w5 ⟨rfl, hb5⟩)
            go_ret2
            exact ⟨⟨G, by rw [HRR.out]; rfl, fun r hr => by rw [HRR.out] at hr; exact Option.some.inj hr⟩, below_step B4.out hb5⟩
          · have aI : ((A : Int) == (s.size : Int)) = false := by rw [beq_eq_false_iff_ne]; omega
            have aI2 : (A : Int) + 1 ≤ (s.size : Int) := by omega
            have w1 : IntKind.i64.wrap ((A : Int) + 1) = (A : Int) + 1 := IntWalk.i64_in _ ⟨by omega, by omega⟩
            cases q with
            | none =>
              have HRR : Hid (R = none) := Lib.hid (by rw [HR.out]; rfl)
              go_wp2_with (first
                | (go_at_call 176; refine (DT.out _).mono ?_; rintro e w5 ⟨rfl, hb5⟩; have B5 := Lib.hid (below_step B4.out hb5); clear hb5)
                | (go_at_call 47; refine (C2.out _).mono ?_; rintro e w6 ⟨rfl, hb6⟩; have B6 := Lib.hid (below_step B5.out hb6); clear hb6))
              go_ret2
              exact ⟨⟨_, by rw [HRR.out]; rfl, fun r hr => by rw [HRR.out] at hr; cases hr⟩, B6.out⟩
            | some q =>
              obtain ⟨Q, hQ⟩ : ∃ P : ByteArray, (⟨q.toArray⟩ : ByteArray) = P := ⟨_, rfl⟩
              have HQ : Hid (Q.data.toList = q) := Lib.hid (by rw [← hQ])
              have hQs : Q.size ≤ 100000000 := by rw [← hQ, size_mk]; exact HQL.out q rfl
              simp only [Option.getD_some, Option.isSome_some] at C2
              rw [hQ] at C2
              have hT1 : (G ++ (⟨#[63]⟩ : ByteArray)).size = G.size + 1 := by rw [← data_len, append_data, List.length_append, data_len]; rfl
              have HRR : Hid (R = some (G ++ (⟨#[63]⟩ : ByteArray) ++ Q).data.toList) := Lib.hid (by rw [HR.out]; simp only [Option.map_some]; rw [if_pos h63, append_data, append_data, HGl.out, HQ.out]; simp)
              clear hQ
              go_wp2_with (first
                | (go_at_call 176; refine (DT.out _).mono ?_; rintro e w5 ⟨rfl, hb5⟩; have B5 := Lib.hid (below_step B4.out hb5); clear hb5)
                | (go_at_call 47; refine (C2.out _).mono ?_; rintro e w6 ⟨rfl, hb6⟩; have B6 := Lib.hid (below_step B5.out hb6); clear hb6))
              go_ret2
              exact ⟨⟨_, by rw [HRR.out]; rfl, fun r hr => by rw [HRR.out] at hr; exact Option.some.inj hr⟩, B6.out⟩
        · have e47' : ((c.toNat : Int) == 47) = false := by rw [byteLit c 47 47 rfl, beq_eq_false_iff_ne]; intro h; exact h47 (UInt8.toNat_inj.1 h)
          have e47 : ((c.toNat : Int) != 47) = true := by rw [bne, e47']; rfl
          have HRR : Hid (R = none) := Lib.hid (by
            rw [HR2.out]
            cases q with
            | none => rfl
            | some q => simp only [placeM]; rw [if_pos ⟨h0, by rw [hh]; simp [h47]⟩])
          clear HR2 h0 hPl hh h47 KEY
          refine wp_region_seq ?_
          iterate 3
            refine seq_take (v := ?_) (wanted_un rfl) ?_ ?_
            rotate_left
            · go_simp
              try with_reducible rfl
            try simp only [Act.put, List.setIfInBounds_toArray, List.set_cons_zero, List.set_cons_succ]
          iterate 7
            refine seq_take (v := ?_) (wanted_yes rfl rfl rfl rfl) ?_ ?_
            rotate_left
            · go_simp
              try with_reducible rfl
            try simp only [Act.put, List.setIfInBounds_toArray, List.set_cons_zero, List.set_cons_succ]
          iterate 1
            refine seq_take (v := ?_) (wanted_un rfl) ?_ ?_
            rotate_left
            · go_simp
              try with_reducible rfl
            try simp only [Act.put, List.setIfInBounds_toArray, List.set_cons_zero, List.set_cons_succ]
          refine seq_done ?_
          go_wp2_with fail
          go_ret2
          exact ⟨⟨_, by rw [HRR.out]; rfl, fun r hr => by rw [HRR.out] at hr; cases hr⟩, B4.out⟩
set_option maxHeartbeats 4000000 in
theorem refAt_any (H : ByteArray) (n : Int) (s : ByteArray) (hs : s.size ≤ 100000000) (w : World) :
    Calls Tryd.prog 97 #[.string H, .int .i64 n, .string s] w fun e w' => e = .returned (.tuple #[.agg (uriC (joinU (some (H.data.toList, n)) (placeL s.data.toList)).1).toArray, .int .i64 (joinU (some (H.data.toList, n)) (placeL s.data.toList)).2]) ∧ Below w.heap.size w w' := by
  obtain ⟨g0, hg0⟩ : ∃ g0, w.heap.size = g0 := ⟨_, rfl⟩
  obtain ⟨wa, hwa⟩ : ∃ wa, w.alloc (.cells zeroC.toArray 63) = wa := ⟨_, rfl⟩
  have RS : Hid (Res g0 w wa) := Lib.hid (by rw [← hwa, ← hg0]; exact Res.start w)
  rw [show zeroC.toArray = #[.string ⟨#[]⟩, .int .i64 0, .string ⟨#[]⟩] from rfl] at hwa
  rw [hg0]
  have PL := refPlace_any s hs wa
  obtain ⟨R, hR⟩ : ∃ R, placeL s.data.toList = R := ⟨_, rfl⟩
  rw [hR] at PL ⊢
  replace PL := Lib.hid PL
  clear hR
  cases R with
  | none =>
    go_enter Tryd.func97, Tryd.ntmps97
    go_wp2_with (first
      | (go_at_call 143; refine PL.out.mono ?_; rintro e w3 ⟨⟨X, rfl, _⟩, hb3⟩; have R3 := Lib.hid (RS.out.step hb3); obtain ⟨cs6, hc6, hr6⟩ := R3.out.row; clear hb3)
      | (refine wpList_store_row rfl 63 _ _ rfl g0 63 zeroC cs6 rfl rfl hr6 (by rw [hc6]; rfl) (by kernel_rfl) uri_one ?_; intro w9 hq9 ho9; have q0 := hq9.cell (j := 0) rfl; have q1 := hq9.cell (j := 1) rfl; have q2 := hq9.cell (j := 2) rfl))
    exact bodyPost_ret (v := .tuple #[.agg #[.string ⟨#[]⟩, .int .i64 0, .string ⟨#[]⟩], .int .i64 10]) (by simp [results, Tryd.results97, go_sem, q0, q1, q2]) rfl ⟨rfl, (R3.out.stored ho9 hq9 rfl).below⟩
  | some r =>
    go_enter Tryd.func97, Tryd.ntmps97
    go_wp2_with (first
      | (go_at_call 143; refine PL.out.mono ?_; rintro e w3 ⟨⟨X, rfl, hX⟩, hb3⟩; have HX := Lib.hid (hX r rfl); have R3 := Lib.hid (RS.out.step hb3); obtain ⟨cs6, hc6, hr6⟩ := R3.out.row; clear hb3 hX)
      | (refine wpList_store_row rfl 63 _ _ rfl g0 63 [.string H, .int .i64 n, .string X] cs6 rfl rfl hr6 (by rw [hc6]; rfl) (by kernel_rfl) uri_one ?_; intro w9 hq9 ho9; have q0 := hq9.cell (j := 0) rfl; have q1 := hq9.cell (j := 1) rfl; have q2 := hq9.cell (j := 2) rfl))
    exact bodyPost_ret (v := .tuple #[.agg #[.string H, .int .i64 n, .string X], .int .i64 0]) (by simp [results, Tryd.results97, go_sem, q0, q1, q2]) rfl ⟨by rw [← HX.out]; simp only [joinU, uriC, Lib.mk_data], (R3.out.stored ho9 hq9 rfl).below⟩
theorem begins_nat (s : ByteArray) : begins5 s.data.toList = (decide (7 ≤ s.size) && (lower (s.data.toList.take 7) == http7)) := by unfold begins5; rw [data_len]
theorem refHttp_any (s : ByteArray) (hs : s.size ≤ 1000000000) (w : World) :
    Calls Tryd.prog 95 #[.string s] w fun e w' => e = .returned (.bool (begins5 s.data.toList)) ∧ Below w.heap.size w w' := by
  rw [begins_nat]
  by_cases h7 : 7 ≤ s.size
  · rw [decide_eq_true h7, Bool.true_and]
    have LW := fun w => refLower_any (s.extract 0 7) (by simp; omega) w
    rw [take_data s 7 h7] at LW
    obtain ⟨L, hL⟩ : ∃ L : ByteArray, (⟨(lower (s.data.toList.take 7)).toArray⟩ : ByteArray) = L := ⟨_, rfl⟩
    rw [hL] at LW
    obtain ⟨b, hb⟩ : ∃ b, (lower (s.data.toList.take 7) == http7) = b := ⟨_, rfl⟩
    have e0 : (L.toList == [104, 116, 116, 112, 58, 47, 47]) = b := by rw [ByteArray.toList_eq, ← hL, ← hb]; rfl
    rw [hb]
    have hI : (7 : Int) ≤ (s.size : Int) := by omega
    replace LW := Lib.hid LW
    clear hL hb
    go_enter Tryd.func95, Tryd.ntmps95
    go_wp2_with (go_at_call 61; refine (LW.out _).mono ?_; rintro e w2 ⟨rfl, hb2⟩)
    go_ret
    exact ⟨rfl, hb2⟩
  · rw [decide_eq_false h7, Bool.false_and]
    have hI : (s.size : Int) < 7 := by omega
    go_enter Tryd.func95, Tryd.ntmps95
    go_wp2
    go_ret
    exact ⟨rfl, Below.refl _ _⟩
theorem begins_any (s : ByteArray) (hs : s.size ≤ 1000000000) (w : World) :
    Calls Tryd.prog 91 #[.string s] w fun e w' => e = .returned (.tuple #[.string (if begins5 s.data.toList = true then s.extract 7 s.size else ⟨#[]⟩), .bool (begins5 s.data.toList)]) ∧ Below w.heap.size w w' := by
  rw [begins_nat]
  by_cases h7 : 7 ≤ s.size
  · rw [decide_eq_true h7, Bool.true_and]
    have LW := fun w => Lower_any (s.extract 0 7) (by simp; omega) w
    rw [take_data s 7 h7] at LW
    obtain ⟨L, hL⟩ : ∃ L : ByteArray, (⟨(lower (s.data.toList.take 7)).toArray⟩ : ByteArray) = L := ⟨_, rfl⟩
    rw [hL] at LW
    obtain ⟨b, hb⟩ : ∃ b, (lower (s.data.toList.take 7) == http7) = b := ⟨_, rfl⟩
    have e0 : (L.toList == [104, 116, 116, 112, 58, 47, 47]) = b := by rw [ByteArray.toList_eq, ← hL, ← hb]; rfl
    rw [hb]
    have hI : (7 : Int) ≤ (s.size : Int) := by omega
    replace LW := Lib.hid LW
    clear hL hb
    cases b with
    | true =>
      have e1 : (L.toList != [104, 116, 116, 112, 58, 47, 47]) = false := by rw [bne, e0]; rfl
      go_enter Tryd.func91, Tryd.ntmps91
      go_wp2_with (go_at_call 135; refine (LW.out _).mono ?_; rintro e w2 ⟨rfl, hb2⟩)
      go_ret2
      exact ⟨rfl, hb2⟩
    | false =>
      have e1 : (L.toList != [104, 116, 116, 112, 58, 47, 47]) = true := by rw [bne, e0]; rfl
      go_enter Tryd.func91, Tryd.ntmps91
      go_wp2_with (go_at_call 135; refine (LW.out _).mono ?_; rintro e w2 ⟨rfl, hb2⟩)
      go_ret2
      exact ⟨rfl, hb2⟩
  · rw [decide_eq_false h7, Bool.false_and]
    have hI : (s.size : Int) < 7 := by omega
    go_enter Tryd.func91, Tryd.ntmps91
    go_wp2
    go_ret2
    exact ⟨rfl, Below.refl _ _⟩
end Go.Proofs.YtaddefjkjlkjnaaDoor
