/- Layer 2's laws: DateFollows, walked. Condition: the world's shape. -/
import Derived.Test.YtpmidmdodjgeeaaDoorLaw02a
import Derived.Test.YtpmidmdodjgeeaaDoorRefC
namespace Go.Proofs.YtpmidmdodjgeeaaDoor
open Go.RowKit IH
set_option maxRecDepth 100000

theorem form0_parts {mt y m d : Int} : (formOf 0 mt y m d).take 3 = (dayN (mt / 86400 % 7)).take 3 ∧ ((dayN (mt / 86400 % 7)).take 3).length = 3 ∧ ((monN m).length = 3 → (formOf 0 mt y m d).drop 16 = [32] ++ clockL (mt % 86400) ++ gmt) := by
  have e : formOf 0 mt y m d = form0 y m d (mt / 86400 % 7) (mt % 86400) := rfl
  have h := dayN_len7 (mt / 86400 % 7) (by omega) (by omega)
  have hl : ((dayN (mt / 86400 % 7)).take 3).length = 3 := by rw [List.length_take]; omega
  rw [e]
  refine ⟨?_, hl, fun hm => ?_⟩
  · unfold form0
    simp only [List.append_assoc]
    rw [List.take_left' hl]
  · have e2 : form0 y m d (mt / 86400 % 7) (mt % 86400) = ((dayN (mt / 86400 % 7)).take 3 ++ [44, 32] ++ d2 d ++ [32] ++ monN m ++ [32] ++ d4 y) ++ ([32] ++ clockL (mt % 86400) ++ gmt) := by simp [form0]
    rw [e2, List.drop_left']
    simp [hl, hm, d2, d4]
theorem day_next (k : Int) : (dayN (k % 7)).take 3 ≠ (dayN ((k + 1) % 7)).take 3 := by
  have hq : k % 7 = 0 ∨ k % 7 = 1 ∨ k % 7 = 2 ∨ k % 7 = 3 ∨ k % 7 = 4 ∨ k % 7 = 5 ∨ k % 7 = 6 := by omega
  rcases hq with h | h | h | h | h | h | h
  · rw [h, show (k + 1) % 7 = 1 by omega]; decide
  · rw [h, show (k + 1) % 7 = 2 by omega]; decide
  · rw [h, show (k + 1) % 7 = 3 by omega]; decide
  · rw [h, show (k + 1) % 7 = 4 by omega]; decide
  · rw [h, show (k + 1) % 7 = 5 by omega]; decide
  · rw [h, show (k + 1) % 7 = 6 by omega]; decide
  · rw [h, show (k + 1) % 7 = 0 by omega]; decide
theorem ext_eq {A B : ByteArray} {a b c d : Nat} (h : (A.extract a b).data.toList = (B.extract c d).data.toList) : ((A.extract a b).toList == (B.extract c d).toList) = true := by
  rw [ByteArray.toList_eq, ByteArray.toList_eq, h]; simp
theorem ext_ne {A B : ByteArray} {a b c d : Nat} (h : (A.extract a b).data.toList ≠ (B.extract c d).data.toList) : ((A.extract a b).toList == (B.extract c d).toList) = false := by
  rw [ByteArray.toList_eq, ByteArray.toList_eq]; simpa using h

set_option maxHeartbeats 8000000 in
theorem follows_walk (w : World) (hsh : w.ShapedOpen Tryd.prog) (at_ : Int) (_hn : (Lit.int .i64 at_).wf = true) :
    Calls Tryd.prog 9 #[.int .i64 at_] w fun e w' => e = .returned (.bool true) ∧ Below w.heap.size w w' := by
  have AW := Lib.hid (fun w hsh => awake02_any w hsh)
  have Hsh := Lib.hid hsh
  clear hsh
  by_cases h0 : at_ < 0
  · go_enter Tryd.func9, Tryd.ntmps9
    go_wp2_with fail
    refine (AW.out _ Hsh.out).mono ?_
    rintro e w2 ⟨rfl, hb2⟩
    have B2 := Lib.hid hb2; clear hb2
    go_wp2_with fail
    refine (AW.out _ (shaped_below Hsh.out B2.out)).mono ?_
    rintro e w3 ⟨rfl, hb3⟩
    have B3 := Lib.hid (below_step B2.out hb3); clear hb3
    go_wp2
    go_ret
    exact ⟨rfl, B3.out⟩
  · by_cases h1 : 253402300799 - 604800 < at_
    · have h1' : (253401695999 : Int) < at_ := by omega
      clear h1
      go_enter Tryd.func9, Tryd.ntmps9
      go_wp2_with (first | (go_at_call 33; (with_reducible refine (refLast_any _).mono ?_); rintro e w5 ⟨rfl, rfl⟩) | fail)
      refine (AW.out _ Hsh.out).mono ?_
      rintro e w2 ⟨rfl, hb2⟩
      have B2 := Lib.hid hb2; clear hb2
      go_wp2_with (first | (go_at_call 33; (with_reducible refine (refLast_any _).mono ?_); rintro e w5 ⟨rfl, rfl⟩) | fail)
      refine (AW.out _ (shaped_below Hsh.out B2.out)).mono ?_
      rintro e w3 ⟨rfl, hb3⟩
      have B3 := Lib.hid (below_step B2.out hb3); clear hb3
      go_wp2
      go_ret
      exact ⟨rfl, B3.out⟩
    · have a0 : 0 ≤ at_ := by omega
      have a1 : at_ ≤ 253401695999 := by omega
      obtain ⟨y, m, d, hM⟩ := moment_ex at_ a0 (by omega)
      obtain ⟨u, v, x, hN⟩ := moment_ex (at_ + 86400) (by omega) (by omega)
      obtain ⟨y7, m7, d7, hS⟩ := moment_ex (at_ + 604800) (by omega) (by omega)
      have e1 : (at_ + 86400) / 86400 = at_ / 86400 + 1 := by omega
      have e7 : (at_ + 604800) / 86400 = at_ / 86400 + 7 := by omega
      have s1 : (at_ + 86400) % 86400 = at_ % 86400 := by omega
      have hnx := hM.civ.next (by have := hN.civ; rw [e1] at this; exact this)
      have PM := Print_at hM
      have PN := Print_at hN
      have PS := Print_at hS
      have WM := refWhen_any hM
      have WN := refWhen_any hN
      obtain ⟨fm1, fm2, fm3⟩ := form0_parts (mt := at_) (y := y) (m := m) (d := d)
      obtain ⟨fn1, fn2, fn3⟩ := form0_parts (mt := at_ + 86400) (y := u) (m := v) (d := x)
      obtain ⟨fs1, fs2, fs3⟩ := form0_parts (mt := at_ + 604800) (y := y7) (m := m7) (d := d7)
      have hdn := day_next (at_ / 86400)
      rw [e1] at fn1
      rw [e7, show (at_ / 86400 + 7) % 7 = at_ / 86400 % 7 by omega] at fs1
      have fm3' := fm3 (by obtain ⟨a, b, c, e⟩ := monN_three m hM.civ.hm1 hM.civ.hm2; rw [e]; rfl)
      have fn3' := fn3 (by obtain ⟨a, b, c, e⟩ := monN_three v hN.civ.hm1 hN.civ.hm2; rw [e]; rfl)
      rw [s1] at fn3'
      have zm := (form_len hM).1
      have zn := (form_len hN).1
      have zs := (form_len hS).1
      have hd1 := hM.civ.hd1
      have hM' := hM.civ
      have hMy := hM.year
      have hm1 := hM.civ.hm1
      generalize formOf 0 at_ y m d = LA at *
      generalize formOf 0 (at_ + 86400) u v x = LB at *
      generalize formOf 0 (at_ + 604800) y7 m7 d7 = LC at *
      have za : (⟨LA.toArray⟩ : ByteArray).size = 29 := by rw [size_mk, zm]
      have zb : (⟨LB.toArray⟩ : ByteArray).size = 29 := by rw [size_mk, zn]
      have zc : (⟨LC.toArray⟩ : ByteArray).size = 29 := by rw [size_mk, zs]
      have q1 : (((⟨LA.toArray⟩ : ByteArray).extract 0 3).toList == ((⟨LC.toArray⟩ : ByteArray).extract 0 3).toList) = true := ext_eq (by rw [Lib.extract_data, Lib.extract_data]; simp [fm1, fs1])
      have q2 : (((⟨LA.toArray⟩ : ByteArray).extract 0 3).toList == ((⟨LB.toArray⟩ : ByteArray).extract 0 3).toList) = false := ext_ne (by rw [Lib.extract_data, Lib.extract_data]; simp [fm1, fn1]; exact hdn)
      have q3 : (((⟨LA.toArray⟩ : ByteArray).extract 16 29).toList == ((⟨LB.toArray⟩ : ByteArray).extract 16 29).toList) = true := ext_eq (by rw [← za, drop_data, za, ← zb, drop_data]; show LA.drop 16 = LB.drop 16; rw [fm3', fn3'])
      generalize (⟨LA.toArray⟩ : ByteArray) = A at *
      generalize (⟨LB.toArray⟩ : ByteArray) = B at *
      generalize (⟨LC.toArray⟩ : ByteArray) = C at *
      generalize (at_ / 86400 + 4) % 7 = k1 at *
      generalize ((at_ + 86400) / 86400 + 4) % 7 = k2 at *
      replace PM := Lib.hid PM
      replace PN := Lib.hid PN
      replace PS := Lib.hid PS
      replace WM := Lib.hid WM
      replace WN := Lib.hid WN
      have q2' : ((A.extract 0 3).toList != (B.extract 0 3).toList) = true := by rw [bne, q2]; rfl
      have Z1 : ((A.size : Int) != 29) = false := by rw [za]; rfl
      have Z2 : ((B.size : Int) != 29) = false := by rw [zb]; rfl
      have Z3 : ((C.size : Int) != 29) = false := by rw [zc]; rfl
      clear hM hN hS fm1 fm2 fm3 fn1 fn2 fn3 fs1 fs2 fs3 hdn fm3' fn3' zm zn zs e1 e7 s1
      have hnx' : (u = y ∧ v - 1 = m - 1 ∧ x = d + 1) ∨ (x = 1 ∧ ((u = y ∧ v - 1 = (m - 1) + 1) ∨ (u = y + 1 ∧ v - 1 = 0 ∧ m - 1 = 11))) := by
        rcases hnx with ⟨h1, h2, h3⟩ | ⟨h1, ⟨h2, h3⟩ | ⟨h2, h3, h4⟩⟩
        · exact .inl ⟨h1, by omega, h3⟩
        · exact .inr ⟨h1, .inl ⟨h2, by omega⟩⟩
        · exact .inr ⟨h1, .inr ⟨h2, by omega, by omega⟩⟩
      have hp0 : 0 ≤ m - 1 := by omega
      have hp1 : m - 1 ≤ 11 := by have := hM'.hm2; omega
      have hd31 : d ≤ 31 := by have := hM'.hd2; have := mlen_bd y m; omega
      have hy1 : 1970 ≤ y := hMy.1
      have hy2 : y ≤ 9999 := hMy.2
      clear hM' hMy
      generalize m - 1 = p at *
      generalize v - 1 = q at *
      have Q1 := Lib.hid q1
      have Q2 := Lib.hid q2'
      have Q4 := Lib.hid q2
      have Q3 := Lib.hid q3
      clear hnx q2 hm1 q1 q2' q3 h0 h1
      rcases hnx' with ⟨rfl, rfl, rfl⟩ | ⟨rfl, ⟨rfl, rfl⟩ | ⟨rfl, rfl, rfl⟩⟩
      all_goals
        go_enter Tryd.func9, Tryd.ntmps9
        go_wp2_with fail
        refine (AW.out _ Hsh.out).mono ?_
        rintro e w2 ⟨rfl, hb2⟩
        have B2 := Lib.hid hb2; clear hb2
        go_upto_region 11 with (first
          | (go_at_call 33; (with_reducible refine (refLast_any _).mono ?_); rintro e w5 ⟨rfl, rfl⟩)
          | (go_at_call 34; (with_reducible refine (PM.out _).mono ?_); rintro e w3 ⟨rfl, hb3⟩; have B3 := Lib.hid (below_step B2.out hb3); clear hb3)
          | (go_at_call 34; (with_reducible refine (PN.out _).mono ?_); rintro e w4 ⟨rfl, hb4⟩; have B4 := Lib.hid (below_step B3.out hb4); clear hb4)
          | (go_at_call 34; (with_reducible refine (PS.out _).mono ?_); rintro e w6 ⟨rfl, hb6⟩; have B5 := Lib.hid (below_step B4.out hb6); clear hb6)
          | (go_at_call 35; (with_reducible refine (WM.out _).mono ?_); rintro e w7 ⟨rfl, hb7⟩; have B6 := Lib.hid (below_step B5.out hb7); clear hb7)
          | (go_at_call 35; (with_reducible refine (WN.out _).mono ?_); rintro e w8 ⟨rfl, hb8⟩; have B7 := Lib.hid (below_step B6.out hb8); clear hb8))
        have q1 := Q1.out
        have q2 := Q2.out
        have q3 := Q3.out
        have q4 := Q4.out
        refine wp_region_plan (fun w' => Below w.heap.size w w') [(0, true), (1, true), (2, true), (3, true), (4, true), (5, true), (6, true), (7, true), (8, true), (9, true), (10, true), (11, true), (12, true), (13, true), (14, true), (15, true), (16, true), (17, true), (18, true), (19, true), (20, true), (21, true), (22, true)] (by kernel_rfl) (by kernel_rfl) rfl (by kernel_rfl) (below_drewN B7.out 1) ?_
        intro w1 hH
        iterate 23
          refine plan_take (v := ?_) rfl (by rfl) ?_ ?_
          rotate_left
          · intro w2 hSw
            clear hSw
            go_simp
            try with_reducible rfl
          try simp only [Act.put, List.setIfInBounds_toArray, List.set_cons_zero, List.set_cons_succ]
        refine plan_done ?_
        have hbel := hH.out
        go_wp2
        go_ret
        exact ⟨rfl, hbel⟩
end Go.Proofs.YtpmidmdodjgeeaaDoor
