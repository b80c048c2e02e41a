/- Walk of layer 3's document: a header, read. Condition: at most 65535 octets. -/
import Derived.Test.YtefoaldpllnijaaDoorFie11
namespace Go.Proofs.YtefoaldpllnijaaDoor
open Go.RowKit IH
set_option maxRecDepth 100000
theorem crAt_two (c0 c1 : UInt8) (r : List UInt8) : crAt (c0 :: c1 :: r) = if c0 = 13 ∧ c1 = 10 then some 0 else (crAt (c1 :: r)).map (· + 1) := by
  conv => lhs; unfold crAt
  simp
theorem crAt_short {l : List UInt8} (h : l.length ≤ 1) : crAt l = none := by
  match l, h with
  | [], _ => rfl
  | [c], _ => simp [crAt]
theorem take_split {s : List UInt8} {k : Nat} (hc : s[k]? = some 58) (hno : ∀ c ∈ s.take k, c ≠ 58) : cut58 s = (s.take k, s.drop (k + 1), true) := by
  have e : s = s.take k ++ 58 :: s.drop (k + 1) := by
    obtain ⟨h1, h2⟩ := List.getElem?_eq_some_iff.1 hc
    conv => lhs; rw [← List.take_append_drop k s, List.drop_eq_getElem_cons h1, h2]
  have h58 : 58 ∈ s := by rw [e]; simp
  unfold cut58
  rw [if_pos h58]
  conv => lhs; rw [e]
  rw [(takeWhile_to hno).1, (takeWhile_to hno).2]
  rfl
set_option maxHeartbeats 4000000 in
theorem refParse3_any (A : Option Addr) (n c : Nat) (l : List UInt8) (w : World) (hin : SliceIn w w.heap.size 1 A n c (bytesV l)) (hn : n ≤ 65535) :
    Calls Tryd.prog 59 #[.slice A n c] w fun e w' => ∃ v, e = .returned (.tuple #[v, .int .i64 (parseFs l).2.1, .int .i64 (parseFs l).2.2]) ∧ w'.ownsRow w.heap.size 72 2 v (parseFs l).1.length (fldsV (parseFs l).1) ∧ Below w.heap.size w w' := by
  have hll : l.length = n := by have := hin.1; rw [bytesV_length, Nat.mul_one] at this; exact this
  have hnc := hin.2.1
  obtain ⟨U, hU⟩ : ∃ U, parseFs l = U := ⟨_, rfl⟩
  rw [hU]
  have HU0 : Hid (U = parseF ((l.drop 0).length + 1) n 0 (l.drop 0) []) := Lib.hid (by rw [← hU, ← hll]; rfl)
  have Hin := Lib.hid hin
  have Hll := Lib.hid hll
  clear hU hin hll
  go_enter Tryd.func59, Tryd.ntmps59
  go_wp2
  go_loopw [5, 6] (fun v i wr => ∃ (a : Nat) (out : List Fld), i = .int .i64 a ∧ a ≤ n ∧ out.length ≤ 128 ∧ U = parseF ((l.drop a).length + 1) n a (l.drop a) out ∧ wr.ownsRow w.heap.size 72 2 v out.length (fldsV out) ∧ Below w.heap.size w wr) (fun _ i _ => n - (intOf i).toNat)
  case atStart => exact ⟨0, [], rfl, by omega, by simp, HU0.out, World.ownsRow_nil _ _ _ _, Below.refl _ _⟩
  case round =>
    clear HU0
    obtain ⟨a, out, rfl, ha, hout, hat, hrow, hbel⟩ := hrel
    obtain ⟨AO, CO, rfl, hslO⟩ := own_slice hrow
    have Hrow := Lib.hid hrow
    have Hbel := Lib.hid hbel
    have Hat := Lib.hid hat
    clear hrow hbel hslO hat
    go_wp2
    go_loop [7] (fun i => ∃ e : Nat, i = .int .i64 e ∧ a ≤ e ∧ e ≤ n ∧ crAt (l.drop a) = (crAt (l.drop e)).map (· + (e - a))) (fun i => n - (intOf i).toNat)
    case atStart => exact ⟨a, rfl, by omega, ha, by simp⟩
    case round =>
      obtain ⟨e, rfl, hae, hen, hcr⟩ := hrel
      have Hcr := Lib.hid hcr
      clear hcr
      by_cases h1 : e + 1 < n
      · obtain ⟨x0, hx0⟩ : ∃ x, l[e]? = some x := ⟨_, List.getElem?_eq_getElem (by rw [Hll.out]; omega)⟩
        obtain ⟨x1, hx1⟩ : ∃ x, l[e + 1]? = some x := ⟨_, List.getElem?_eq_getElem (by rw [Hll.out]; omega)⟩
        have hdr : l.drop e = x0 :: x1 :: l.drop (e + 2) := by
          obtain ⟨g0, e0⟩ := List.getElem?_eq_some_iff.1 hx0
          obtain ⟨g1, e1⟩ := List.getElem?_eq_some_iff.1 hx1
          rw [List.drop_eq_getElem_cons g0, e0, List.drop_eq_getElem_cons g1, e1]
        have hdr1 : l.drop (e + 1) = x1 :: l.drop (e + 2) := by
          obtain ⟨g1, e1⟩ := List.getElem?_eq_some_iff.1 hx1
          rw [List.drop_eq_getElem_cons g1, e1]
        obtain ⟨b0, off, rfl, hb0, hcell⟩ := (Hin.out.below Hbel.out).2.2.2 (by omega)
        have c0 := hcell e (.int .u8 x0.toNat) (by rw [bytesV_get, hx0]; rfl)
        have c1 := hcell (e + 1) (.int .u8 x1.toNat) (by rw [bytesV_get, hx1]; rfl)
        clear hcell hx0 hx1 hb0
        have i1 : (e : Int) + 1 < (n : Int) := by omega
        have i2 : (0 : Int) ≤ (e : Int) + 1 := by omega
        have it : ((e : Int) + 1).toNat = e + 1 := by omega
        by_cases h2 : x0 = 13 ∧ x1 = 10
        · have hce : crAt (l.drop a) = some (e - a) := by rw [Hcr.out, hdr, crAt_two, if_pos h2]; simp
          have hlf : lineF n a (l.drop a) = (some ((l.drop a).take (e - a)), 0) := by unfold lineF; rw [hce]; simp only; rw [if_neg (by omega)]
          obtain ⟨s, hs⟩ : ∃ s, (l.drop a).take (e - a) = s := ⟨_, rfl⟩
          have hsl : s.length = e - a := by rw [← hs, List.length_take, List.length_drop, Hll.out]; omega
          rw [hs] at hlf
          have hsub := (Hin.out.below Hbel.out).sub (a := a) (b := e) hae (by omega) (some ⟨b0, off + a, none⟩) (fun _ => by simp [add_plain])
          simp only [Nat.mul_one] at hsub
          rw [show ((bytesV l).drop a).take (e - a) = bytesV s by unfold bytesV; rw [← List.map_drop, ← List.map_take, hs]] at hsub
          obtain ⟨S, hS⟩ : ∃ S : ByteArray, (⟨s.toArray⟩ : ByteArray) = S := ⟨_, rfl⟩
          have hSd : S.data.toList = s := by rw [← hS]
          have hSs : S.size = s.length := by rw [← hS, size_mk]
          have hcs := run_string_of (P := Tryd.prog) hsub 22 9 5 Tryd.underlying22 Tryd.underlying5 Tryd.underlying9
          rw [hS] at hcs
          have hca : ¬ c = a := by omega
          have i3 : (e : Int) ≤ (n : Int) := by omega
          have i4 : (a : Int) ≤ (e : Int) := by omega
          have i5 : (0 : Int) ≤ (a : Int) := by omega
          have i6 : (e : Int) + 2 ≤ (65536 : Int) := by omega
          have j1 : e ≤ c := by omega
          have b0q : ((x0.toNat : Int) != 13) = false := by rw [h2.1]; rfl
          have b1q : ((x1.toNat : Int) != 10) = false := by rw [h2.2]; rfl
          obtain ⟨next, hnx⟩ : ∃ next : Nat, e + 2 = next := ⟨_, rfl⟩
          have hnI : (e : Int) + 2 = (next : Int) := by omega
          have hnb : next ≤ n := by omega
          have hna : a < next := by omega
          by_cases hse : s = []
          · have hu : U = (out, (next : Int), 0) := by
              rw [Hat.out]; unfold parseF; rw [hlf]; subst hse
              simp only [if_true]
              simp only [List.length_nil] at hsl
              congr 2
              omega
            have HU := Lib.hid hu
            have hE : S.toList = [] := by rw [ByteArray.toList_eq, hSd, hse]
            clear hu hce hlf hs hsl hsub hSd hSs hS hse hdr hdr1 h2 hnx i6 Hcr
            go_wp2
            go_ret3
            exact ⟨_, by rw [HU.out]; rfl, by rw [HU.out]; exact Hrow.out, Hbel.out⟩
          · have hE := emp_list hSd hse
            have hat := Hat.out
            have hq : a + s.length + 2 = next := by omega
            rw [parseF_step hlf hse, headF_cut, List.drop_drop, ← Nat.add_assoc, hq] at hat
            have HU := Lib.hid hat
            have HSd := Lib.hid hSd
            have hSb : S.size ≤ 65535 := by omega
            have HsS := Lib.hid hSs
            clear hat hce hlf hs hsl hsub hSd hS hse hdr hdr1 h2 hnx hq Hcr hSs Hat i6
            go_wp2
            clear hcs
            go_loop [9] (fun i => ∃ k : Nat, i = .int .i64 k ∧ k ≤ S.size ∧ ∀ c ∈ s.take k, c ≠ 58) (fun i => S.size - (intOf i).toNat)
            case atStart => exact ⟨0, rfl, by omega, by simp⟩
            case round =>
              obtain ⟨k, rfl, hk, hno⟩ := hrel
              have Hno := Lib.hid hno
              clear hno
              by_cases h5 : k < S.size
              · obtain ⟨ch, hch⟩ : ∃ ch, S[k]'h5 = ch := ⟨_, rfl⟩
                have hget : s[k]? = some ch := by rw [← HSd.out, ← hch]; exact get_data S k h5
                by_cases h58 : ch = 58
                · have hcut := take_split (by rw [hget, h58]) Hno.out
                  have hu := HU.out
                  rw [hcut] at hu
                  simp only at hu
                  obtain ⟨x, hx⟩ : ∃ x, s.take k = x := ⟨_, rfl⟩
                  obtain ⟨v, hv⟩ : ∃ v, s.drop (k + 1) = v := ⟨_, rfl⟩
                  rw [hx, hv] at hu
                  have hxl : x.length ≤ 1000000000 := by rw [← hx, List.length_take]; omega
                  have hvl : v.length ≤ 1000000000 := by rw [← hv, List.length_drop]; have := HsS.out; omega
                  have hzl : (trim v).length ≤ 1000000000 := by have := trim_le v; omega
                  obtain ⟨X, hxe⟩ : ∃ X : ByteArray, S.extract 0 k = X := ⟨_, rfl⟩
                  obtain ⟨V, hve⟩ : ∃ V : ByteArray, S.extract (k + 1) S.size = V := ⟨_, rfl⟩
                  have hXx : X.data.toList = x := by rw [← hxe, take_data S k (by omega), HSd.out, hx]
                  have hVv : V.data.toList = v := by rw [← hve, drop_data, HSd.out, hv]
                  have hXX : (⟨x.toArray⟩ : ByteArray) = X := (bytes_eq hXx).symm
                  have TR := refTrim_2 V (by rw [← data_len, hVv]; exact hvl)
                  rw [hVv] at TR
                  have FR := fits_any (x, trim v) hxl hzl
                  obtain ⟨Z, hZ⟩ : ∃ Z : ByteArray, (⟨(trim v).toArray⟩ : ByteArray) = Z := ⟨_, rfl⟩
                  rw [hZ] at TR
                  simp only [hXX, hZ] at FR
                  have HF : Hid (fldsV [(x, trim v)] = [.string X, .string Z]) := Lib.hid (by rw [← hXX, ← hZ]; rfl)
                  have b58 : ((ch.toNat : Int) != 58) = false := by rw [h58]; rfl
                  have k1 : (k : Int) ≤ (S.size : Int) := by omega
                  have k2 : (k : Int) + 1 ≤ (S.size : Int) := by omega
                  have k3 : (0 : Int) ≤ (k : Int) + 1 := by omega
                  have kt : ((k : Int) + 1).toNat = k + 1 := by omega
                  have kw : IntKind.i64.wrap ((k : Int) + 1) = (k : Int) + 1 := IntWalk.i64_in _ ⟨by omega, by omega⟩
                  have kq : ((k : Int) == (S.size : Int)) = false := by rw [beq_eq_false_iff_ne]; omega
                  have Hu := Lib.hid hu
                  replace TR := Lib.hid TR
                  replace FR := Lib.hid FR
                  clear hu hget h58 hcut hx hv hXx hVv hXX hZ HU Hno
                  go_upto_region 21 with fail
                  go_cut [10] from 11 to 90 (fun s10 wx => ∃ gB, s10 = .pointer (some ⟨gB, 0, none⟩) ∧ RowAt wx gB 72 [.string X, .string Z] ∧ Below wr.heap.size wr wx)
                  case first =>
                    refine wp_region_tree (fun W => Below wr.heap.size wr W) (.take 0 (.take 1 (.take 2 (.take 3 (.take 4 (.take 5 (.take 6 (.node (.fork 7 (.take 8 (.node (.fork 9 (.node (.fork 10 (.done) (.stop))) (.stop)))) (.fork 9 (.node (.fork 7 (.take 8 (.node (.fork 10 (.done) (.stop)))) (.stop))) (.stop))))))))))) (by kernel_rfl) (by kernel_rfl) (of_decide_eq_true (by kernel_rfl)) rfl (by kernel_rfl) (below_drewN (Below.refl _ _) 1) ?_
                    intro w1 hH
                    iterate 7
                      refine tree_take (v := ?_) rfl (by rfl) ?_ ?_
                      rotate_left
                      · intro w2 hSw
                        clear hSw
                        go_simp
                        try with_reducible rfl
                      try simp only [Act.put, List.setIfInBounds_toArray, List.set_cons_zero, List.set_cons_succ]
                    refine tree_node ?_
                    refine tree_move rfl (by rfl) (fun K hK => ?_) ?_
                    · go_simp
                      (with_reducible refine (TR.out _).mono ?_)
                      rintro e w5 ⟨rfl, rfl⟩
                      refine hK.out _ _ (hH.out) ?_
                      clear hH hK K
                      intro hH
                      try simp only [Act.put, List.setIfInBounds_toArray, List.set_cons_zero, List.set_cons_succ]
                      iterate 1
                        refine tree_take (v := ?_) rfl (by rfl) ?_ ?_
                        rotate_left
                        · intro w2 hSw
                          clear hSw
                          go_simp
                          try with_reducible rfl
                        try simp only [Act.put, List.setIfInBounds_toArray, List.set_cons_zero, List.set_cons_succ]
                      refine tree_node ?_
                      refine tree_move rfl (by rfl) (fun K hK => ?_) ?_
                      · go_simp
                        refine hK.out _ _ (hH.out.alloc hH.out.size _) ?_
                        have FB := Lib.hid (row_at hH 72 [.string ⟨#[]⟩, .string ⟨#[]⟩])
                        have HG := Lib.hid hH.out.size
                        clear hH hK K
                        intro hH
                        try simp only [Act.put, List.setIfInBounds_toArray, List.set_cons_zero, List.set_cons_succ]
                        refine tree_node ?_
                        refine tree_move rfl (by rfl) (fun K hK => ?_) ?_
                        · refine wp_store_row 72 _ _ rfl _ _ [.string X, .string Z] [.string ⟨#[]⟩, .string ⟨#[]⟩] rfl rfl (row_size FB.out (by simp)) rfl (by kernel_rfl) (by rw [← HF.out]; exact fldsV_one _) ?_
                          intro w7 hr7 ho7
                          refine hK.out _ _ (ho7.below hH.out (by have := HG.out; first | exact this | (simp at this; omega))) ?_
                          have FR7 := Lib.hid hr7
                          clear hK K hr7 ho7 FB HG
                          intro hH
                          try simp only [Act.put]
                          refine tree_done ?_
                          go_wp2_with fail
                          go_meet
                          exact ⟨_, rfl, FR7.out, hH.out⟩
                        exact tree_stop
                      exact tree_stop
                    refine tree_move rfl (by rfl) (fun K hK => ?_) ?_
                    · go_simp
                      refine hK.out _ _ (hH.out.alloc hH.out.size _) ?_
                      have FB := Lib.hid (row_at hH 72 [.string ⟨#[]⟩, .string ⟨#[]⟩])
                      have HG := Lib.hid hH.out.size
                      clear hH hK K
                      intro hH
                      try simp only [Act.put, List.setIfInBounds_toArray, List.set_cons_zero, List.set_cons_succ]
                      refine tree_node ?_
                      refine tree_move rfl (by rfl) (fun K hK => ?_) ?_
                      · go_simp
                        (with_reducible refine (TR.out _).mono ?_)
                        rintro e w5 ⟨rfl, rfl⟩
                        refine hK.out _ _ (hH.out) ?_
                        clear hH hK K
                        intro hH
                        try simp only [Act.put, List.setIfInBounds_toArray, List.set_cons_zero, List.set_cons_succ]
                        iterate 1
                          refine tree_take (v := ?_) rfl (by rfl) ?_ ?_
                          rotate_left
                          · intro w2 hSw
                            clear hSw
                            go_simp
                            try with_reducible rfl
                          try simp only [Act.put, List.setIfInBounds_toArray, List.set_cons_zero, List.set_cons_succ]
                        refine tree_node ?_
                        refine tree_move rfl (by rfl) (fun K hK => ?_) ?_
                        · refine wp_store_row 72 _ _ rfl _ _ [.string X, .string Z] [.string ⟨#[]⟩, .string ⟨#[]⟩] rfl rfl (row_size FB.out (by simp)) rfl (by kernel_rfl) (by rw [← HF.out]; exact fldsV_one _) ?_
                          intro w7 hr7 ho7
                          refine hK.out _ _ (ho7.below hH.out (by have := HG.out; first | exact this | (simp at this; omega))) ?_
                          have FR7 := Lib.hid hr7
                          clear hK K hr7 ho7 FB HG
                          intro hH
                          try simp only [Act.put]
                          refine tree_done ?_
                          go_wp2_with fail
                          go_meet
                          exact ⟨_, rfl, FR7.out, hH.out⟩
                        exact tree_stop
                      exact tree_stop
                    exact tree_stop
                  case rest =>
                    obtain ⟨gB, rfl, hrB, hb5⟩ := hcut
                    have c0 := hrB.cell (j := 0) rfl
                    have c1 := hrB.cell (j := 1) rfl
                    have B5 := Lib.hid (below_step Hbel.out hb5)
                    have R5 := Lib.hid (own_below Hrow.out hb5)
                    have HrB := Lib.hid hrB
                    clear hrB hb5 TR hxe hve
                    cases hfit : fit (x, trim v)
                    · have hu := Hu.out
                      rw [if_neg (fun h => by rw [hfit] at h; cases h.2)] at hu
                      simp only at hu
                      have Hu2 := Lib.hid hu
                      rw [hfit] at FR
                      clear hu hfit
                      go_wp2_with (go_at_call 67; refine (FR.out _).mono ?_; rintro e w6 ⟨rfl, hb6⟩)
                      go_ret3
                      exact ⟨_, by rw [Hu2.out]; rfl, by rw [Hu2.out]; exact World.ownsRow_nil _ _ _ _, below_step B5.out hb6⟩
                    · have hu := Hu.out
                      rw [if_pos ⟨trivial, hfit⟩] at hu
                      simp only at hu
                      rw [hfit] at FR
                      by_cases h128 : out.length = 128
                      · rw [if_pos h128] at hu
                        have Hu2 := Lib.hid hu
                        have h128b : (128 : Int) ≤ (out.length : Int) := by omega
                        clear hu hfit h128
                        go_wp2_with (go_at_call 67; refine (FR.out _).mono ?_; rintro e w6 ⟨rfl, hb6⟩)
                        go_ret3
                        exact ⟨_, by rw [Hu2.out]; rfl, by rw [Hu2.out]; exact World.ownsRow_nil _ _ _ _, below_step B5.out hb6⟩
                      · rw [if_neg h128] at hu
                        have Hu2 := Lib.hid hu
                        have h128b : (out.length : Int) < (128 : Int) := by omega
                        have Hlt : Hid (out.length < 128) := Lib.hid (by omega)
                        clear hu hfit h128
                        go_wp2_with (first
                          | (go_at_call 67; refine (FR.out _).mono ?_; rintro e w6 ⟨rfl, hb6⟩; have d0 := (HrB.out.below hb6 HrB.out.lt).cell (j := 0) rfl; have d1 := (HrB.out.below hb6 HrB.out.lt).cell (j := 1) rfl; have R6 := Lib.hid (own_below R5.out hb6); have B6 := Lib.hid (below_step B5.out hb6); have hB6 := B6.out.size; clear hb6)
                          | (at_builtin; refine wpList_app fld_ty rfl _ _ rfl w.heap.size _ _ _ rfl R6.out 1 1 [.string X, .string Z] rfl (by rfl) (by rw [← HF.out]; exact fldsV_one _) (by omega) (by simp only [maxLen]; omega) hB6 ?_; intro v' w7 hown' hgr))
                        go_roundw
                        case rel =>
                          refine ⟨next, out ++ [(x, trim v)], rfl, hnb, by have := Hlt.out; simp; omega, Hu2.out, ?_, B6.out.grown hgr hB6 (fun g hg => (R6.out.lt g hg).1)⟩
                          rw [fldsV_append, List.length_append, HF.out]
                          exact hown'
                        case measure => simp [intOf]; omega
                · have hnn : ∀ c ∈ s.take (k + 1), c ≠ 58 := by
                    rw [List.take_add_one, hget]
                    intro c hc
                    rcases List.mem_append.1 hc with h | h
                    · exact Hno.out c h
                    · simp at h; rw [h]; exact h58
                  have Hnn := Lib.hid hnn
                  have b58 : ((ch.toNat : Int) != 58) = true := by
                    rw [bne, Bool.not_eq_true', beq_eq_false_iff_ne]
                    intro h
                    exact h58 (UInt8.toNat_inj.1 (by have : (58 : UInt8).toNat = 58 := rfl; omega))
                  clear hnn hget h58 Hno
                  go_wp2
                  go_round
                  case rel => exact ⟨k + 1, by go_num, by omega, Hnn.out⟩
                  case measure => simp [intOf]; omega
              · obtain rfl : k = S.size := by omega
                have hno58 : 58 ∉ s := fun hm => Hno.out 58 (by rw [List.take_of_length_le (by have := HsS.out; omega)]; exact hm) rfl
                have hu := HU.out
                rw [show cut58 s = (s, [], false) by unfold cut58; rw [if_neg hno58]] at hu
                rw [if_neg (fun h => by cases h.1)] at hu
                simp only at hu
                have Hu2 := Lib.hid hu
                clear hu hno58 Hno
                go_wp2
                go_ret3
                exact ⟨_, by rw [Hu2.out]; rfl, by rw [Hu2.out]; exact World.ownsRow_nil _ _ _ _, Hbel.out⟩
        · have hnc2 : crAt (l.drop a) = (crAt (l.drop (e + 1))).map (· + (e + 1 - a)) := by
            rw [Hcr.out, hdr, crAt_two, if_neg h2, hdr1, Option.map_map]
            congr 1
            funext x
            simp only [Function.comp]
            omega
          have Hnc2 := Lib.hid hnc2
          clear hnc2 hdr hdr1 Hcr
          by_cases h3 : x0 = 13
          · have b0q : ((x0.toNat : Int) != 13) = false := by rw [h3]; rfl
            have b1q : ((x1.toNat : Int) != 10) = true := by
              rw [bne, Bool.not_eq_true', beq_eq_false_iff_ne]
              intro h
              exact h2 ⟨h3, UInt8.toNat_inj.1 (by have : (10 : UInt8).toNat = 10 := rfl; omega)⟩
            clear h2 h3
            go_wp2
            go_round
            case rel => exact ⟨e + 1, by go_num, by omega, by omega, Hnc2.out⟩
            case measure => simp [intOf]; omega
          · have b0q : ((x0.toNat : Int) != 13) = true := by
              rw [bne, Bool.not_eq_true', beq_eq_false_iff_ne]
              intro h
              exact h3 (UInt8.toNat_inj.1 (by have : (13 : UInt8).toNat = 13 := rfl; omega))
            clear h2 h3
            go_wp2
            go_round
            case rel => exact ⟨e + 1, by go_num, by omega, by omega, Hnc2.out⟩
            case measure => simp [intOf]; omega
      · have hce : crAt (l.drop a) = none := by rw [Hcr.out, crAt_short (by rw [List.length_drop, Hll.out]; omega)]; rfl
        have hu : U = ([], 0, 11) := by rw [Hat.out]; unfold parseF lineF; rw [hce]; simp only; rw [if_neg (by omega)]
        have HU := Lib.hid hu
        obtain ⟨t, ht⟩ : ∃ t : Int, (e : Int) + 1 = t := ⟨_, rfl⟩
        have i1 : (n : Int) ≤ t := by omega
        have i6 : t ≤ (65536 : Int) := by omega
        have i7 : (n : Int) ≤ (65536 : Int) := by omega
        clear hu hce Hcr h1
        go_wp2
        go_ret3
        exact ⟨_, by rw [HU.out]; rfl, by rw [HU.out]; exact World.ownsRow_nil _ _ _ _, Hbel.out⟩
end Go.Proofs.YtefoaldpllnijaaDoor
