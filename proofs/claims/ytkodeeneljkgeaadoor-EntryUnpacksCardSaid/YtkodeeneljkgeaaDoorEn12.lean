/- Walks of layer 19: an entry's octets, by the document. Condition: the entry's numbers and lengths are within what octets can say. Printed by mken12.py. -/
import Derived.Test.YtkodeeneljkgeaaDoorEb
namespace Go.Proofs.YtkodeeneljkgeaaDoor
open Go.RowKit IH
set_option maxRecDepth 100000
theorem own_next {w : World} {B n m : Nat} {v : Value} {P x : List UInt8} (h : w.ownsRow B 5 1 v n (bytesV P ++ bytesV x)) (hn : n = P.length + m) (hm : x.length = m) : w.ownsRow B 5 1 v (P ++ x).length (bytesV (P ++ x)) := by
  subst hn hm
  rw [List.length_append, bytesV_append]
  exact h
theorem byte1 (n : Nat) : numB 1 n = [UInt8.ofNat (n % 256)] := rfl
theorem byte_conv (n : Nat) : IntKind.u8.wrap (n : Int) = ((UInt8.ofNat (n % 256)).toNat : Int) := by rw [byte_wrap]; exact IntKind.wrap_u8 _
set_option maxHeartbeats 64000000 in
theorem rpack_raw (U V M T R : ByteArray) (A1 : Option Addr) (n1 c1 : Nat) (A2 : Option Addr) (n2 c2 : Nat) (A3 : Option Addr) (n3 c3 : Nat) (st mi as_ go_ or_ sz su : Nat) (L : List (List UInt8)) (F : List Fld) (X : List (Int × Int)) (w : World)
    (hin1 : SliceIn w w.heap.size 1 A1 n1 c1 (strsV L)) (hin2 : SliceIn w w.heap.size 2 A2 n2 c2 (fldsV F)) (hin3 : SliceIn w w.heap.size 2 A3 n3 c3 (extsV X)) (hn1 : n1 ≤ 1000000) (hn2 : n2 ≤ 1000000) (hn3 : n3 ≤ 1000000)
    (hst : st ≤ 9223372036854775807) (has : as_ ≤ 9223372036854775807) (hgo : go_ ≤ 9223372036854775807) (hor : or_ ≤ 9223372036854775807) (hsz : sz ≤ 9223372036854775807) (hsu : su ≤ 4294967295)
    (hx : ∀ x ∈ X, 0 ≤ x.1 ∧ x.1 < 4294967296 ∧ 0 ≤ x.2 ∧ x.2 < 4294967296)
    (hsum : U.size + V.size + R.size + (L.flatMap textB).length + (F.flatMap fieldB).length ≤ 1000000000) (TT : List UInt8)
    (hT : TT = [69] ++ (numB 2 st ++ (numB 1 mi ++ (numB 8 as_ ++ (numB 8 go_ ++ (numB 8 or_ ++ (numB 4 sz ++ (numB 4 su ++ (textB U.data.toList ++ (textB V.data.toList ++ (textB R.data.toList ++ (numB 1 n1 ++ (L.flatMap textB ++ (numB 1 n2 ++ (F.flatMap fieldB ++ (numB 1 n3 ++ X.flatMap extB)))))))))))))))) :
    Calls Tryd.prog 15 #[.agg #[.string U, .slice A1 n1 c1, .string V, .string M, .string T, .int .i64 st, .string R, .int .i64 mi, .slice A2 n2 c2, .int .i64 as_, .int .i64 go_, .int .i64 or_, .int .i64 sz, .int .u32 su, .slice A3 n3 c3]] w
      fun e w' => ∃ v, e = .returned v ∧ w'.ownsRow w.heap.size 5 1 v TT.length (bytesV TT) ∧ Below w.heap.size w w' := by
  have HT := Lib.hid hT
  have HX := Lib.hid hx
  have HL1 : Hid (L.length = n1) := Lib.hid (by have := hin1.1; rw [strsV_length] at this; omega)
  have HL2 : Hid (F.length = n2) := Lib.hid (fld_count hin2)
  have HL3 : Hid (X.length = n3) := Lib.hid (ext_count hin3)
  have HS := Lib.hid hsum
  have hU : U.size ≤ 1000000000 := by omega
  have hV : V.size ≤ 1000000000 := by omega
  have hR : R.size ≤ 1000000000 := by omega
  have hXl : Hid (∀ k, ((X.take k).flatMap extB).length ≤ 8 * k) := Lib.hid (fun k => by
    have : ∀ l : List (Int × Int), (l.flatMap extB).length = 8 * l.length := by
      intro l
      induction l with
      | nil => rfl
      | cons x l ih => rw [List.flatMap_cons, List.length_append, ih]; simp [extB, numB_length]; omega
    rw [this, List.length_take]; omega)
  clear hT hx hsum
  obtain ⟨w1, hw1⟩ : ∃ W, w.alloc (.cells #[.string U, .slice A1 n1 c1, .string V, .string M, .string T, .int .i64 st, .string R, .int .i64 mi, .slice A2 n2 c2, .int .i64 as_, .int .i64 go_, .int .i64 or_, .int .i64 sz, .int .u32 su, .slice A3 n3 c3] 33) = W := ⟨_, rfl⟩
  have hlt : w.heap.size < w1.heap.size := by rw [← hw1]; simp
  have BW : Hid (Below w.heap.size w w1) := Lib.hid (by rw [← hw1]; exact (Below.refl _ _).alloc (Nat.le_refl _) _)
  have KC : Hid (∀ W, Below w1.heap.size w1 W → RowAt W w.heap.size 33 [.string U, .slice A1 n1 c1, .string V, .string M, .string T, .int .i64 st, .string R, .int .i64 mi, .slice A2 n2 c2, .int .i64 as_, .int .i64 go_, .int .i64 or_, .int .i64 sz, .int .u32 su, .slice A3 n3 c3]) := Lib.hid (fun W hW => by
    have h := RowAt.new w 33 [.string U, .slice A1 n1 c1, .string V, .string M, .string T, .int .i64 st, .string R, .int .i64 mi, .slice A2 n2 c2, .int .i64 as_, .int .i64 go_, .int .i64 or_, .int .i64 sz, .int .u32 su, .slice A3 n3 c3]
    rw [show ([.string U, .slice A1 n1 c1, .string V, .string M, .string T, .int .i64 st, .string R, .int .i64 mi, .slice A2 n2 c2, .int .i64 as_, .int .i64 go_, .int .i64 or_, .int .i64 sz, .int .u32 su, .slice A3 n3 c3] : List Value).toArray = #[.string U, .slice A1 n1 c1, .string V, .string M, .string T, .int .i64 st, .string R, .int .i64 mi, .slice A2 n2 c2, .int .i64 as_, .int .i64 go_, .int .i64 or_, .int .i64 sz, .int .u32 su, .slice A3 n3 c3] from rfl, hw1] at h
    exact h.below hW hlt)
  have Hin1 : Hid (SliceIn w1 w1.heap.size 1 A1 n1 c1 (strsV L)) := Lib.hid ((hin1.below BW.out).more (Nat.le_of_lt hlt))
  have Hin2 : Hid (SliceIn w1 w1.heap.size 2 A2 n2 c2 (fldsV F)) := Lib.hid ((hin2.below BW.out).more (Nat.le_of_lt hlt))
  have Hin3 : Hid (SliceIn w1 w1.heap.size 2 A3 n3 c3 (extsV X)) := Lib.hid ((hin3.below BW.out).more (Nat.le_of_lt hlt))
  clear hin1 hin2 hin3
  have O0 := Lib.hid (own_one w1 w1.heap.size 5 (.int .u8 69) (Nat.le_refl _))
  have B0 : Hid (Below w1.heap.size w1 (w1.alloc (.cells #[.int .u8 69] 5))) := Lib.hid ((Below.refl _ _).alloc (Nat.le_refl _) _)
  have d5 := (KC.out _ B0.out).cell (j := 5) rfl
  have hs0 : w1.heap.size ≤ w1.heap.size + 1 := Nat.le_succ _

  have N_st := Lib.hid (fun W => rnum_at (st : Int) 2 W 2 st rfl rfl (by omega) (by omega))
  have N_as_ := Lib.hid (fun W => rnum_at (as_ : Int) 8 W 8 as_ rfl rfl (by omega) (by omega))
  have N_go_ := Lib.hid (fun W => rnum_at (go_ : Int) 8 W 8 go_ rfl rfl (by omega) (by omega))
  have N_or_ := Lib.hid (fun W => rnum_at (or_ : Int) 8 W 8 or_ rfl rfl (by omega) (by omega))
  have N_sz := Lib.hid (fun W => rnum_at (sz : Int) 4 W 4 sz rfl rfl (by omega) (by omega))
  have N_su := Lib.hid (fun W => rnum_at (su : Int) 4 W 4 su rfl rfl (by omega) (by omega))
  have T_U := Lib.hid (fun W => rtext_any U W hU)
  have T_V := Lib.hid (fun W => rtext_any V W hV)
  have T_R := Lib.hid (fun W => rtext_any R W hR)
  have E_mi := byte_conv mi
  have Y_mi := Lib.hid (byte1 mi)
  obtain ⟨y_mi, hy_mi⟩ : ∃ b : UInt8, UInt8.ofNat (mi % 256) = b := ⟨_, rfl⟩
  rw [hy_mi] at E_mi Y_mi
  have E_n1 := byte_conv n1
  have Y_n1 := Lib.hid (byte1 n1)
  obtain ⟨y_n1, hy_n1⟩ : ∃ b : UInt8, UInt8.ofNat (n1 % 256) = b := ⟨_, rfl⟩
  rw [hy_n1] at E_n1 Y_n1
  have E_n2 := byte_conv n2
  have Y_n2 := Lib.hid (byte1 n2)
  obtain ⟨y_n2, hy_n2⟩ : ∃ b : UInt8, UInt8.ofNat (n2 % 256) = b := ⟨_, rfl⟩
  rw [hy_n2] at E_n2 Y_n2
  have E_n3 := byte_conv n3
  have Y_n3 := Lib.hid (byte1 n3)
  obtain ⟨y_n3, hy_n3⟩ : ∃ b : UInt8, UInt8.ofNat (n3 % 256) = b := ⟨_, rfl⟩
  rw [hy_n3] at E_n3 Y_n3
  clear hy_mi hy_n1 hy_n2 hy_n3 hst has hgo hor hsz
  go_enter Tryd.func15, Tryd.ntmps15
  go_wp2_with (first
    | (go_at_call 42; (with_reducible refine (N_st.out _).mono ?_); rintro e wa1 ⟨va1, rfl, ho1, hb1⟩; obtain ⟨Aa1, ca1, rfl, hsa1⟩ := own_slice ho1; have X1 := Lib.hid hsa1; have Q1 := Lib.hid (own_below O0.out hb1); have C1 := Lib.hid (below_step B0.out hb1); have hq1 := C1.out.size; clear ho1 hb1 hsa1; have tak1 : True := trivial)
    | (at_builtin; have _t := tak1; refine wpList_appS u8_ty rfl _ _ rfl w1.heap.size _ 1 [.int .u8 69] rfl Q1.out wa1.heap.size _ _ _ _ rfl X1.out (bytesV_one _) (by omega) (by simp only [maxLen]; omega) hq1 ?_; intro v1 w2_ hown1 hgr1; have B1 := Lib.hid (C1.out.grown hgr1 hq1 (fun g hg => (Q1.out.lt g hg).1)); have hs1 := B1.out.size; have hx1 := own_next (P := [69]) (x := numB 2 st) hown1 rfl (numB_length _ _); obtain ⟨P1, hP1⟩ : ∃ P, [69] ++ numB 2 st = P := ⟨_, rfl⟩; rw [hP1] at hx1; have O1 := Lib.hid hx1; have hl1 : P1.length = 1 + (2) := (congrArg List.length hP1.symm).trans (List.length_append.trans (congrArg (fun z => 1 + z) (numB_length _ _))); have HP1 := Lib.hid hP1; clear hown1 hgr1 hx1 hP1 tak1 d5; have d7 := (KC.out _ B1.out).cell (j := 7) rfl; have tok1 : True := trivial)
    | (at_builtin; have _t := tok1; refine wpList_app u8_ty rfl _ _ rfl w1.heap.size _ _ _ rfl O1.out 1 1 _ rfl (by rfl) (one1 _ rfl) (by omega) (by simp only [maxLen]; omega) hs1 ?_; intro v2 w3_ hown2 hgr2; have B2 := Lib.hid (B1.out.grown hgr2 hs1 (fun g hg => (O1.out.lt g hg).1)); have hs2 := B2.out.size; have hx2 := own_next (P := P1) (x := [y_mi]) hown2 rfl rfl; obtain ⟨P2, hP2⟩ : ∃ P, P1 ++ [y_mi] = P := ⟨_, rfl⟩; rw [hP2] at hx2; have O2 := Lib.hid hx2; have hl2 : P2.length = P1.length + 1 := (congrArg List.length hP2.symm).trans List.length_append; have HP2 := Lib.hid hP2; clear hown2 hgr2 hx2 hP2 d7; have d9 := (KC.out _ B2.out).cell (j := 9) rfl; have tok2 : True := trivial)
    | (have _t := tok2; go_at_call 42; (with_reducible refine (N_as_.out _).mono ?_); rintro e wa3 ⟨va3, rfl, ho3, hb3⟩; obtain ⟨Aa3, ca3, rfl, hsa3⟩ := own_slice ho3; have X3 := Lib.hid hsa3; have Q3 := Lib.hid (own_below O2.out hb3); have C3 := Lib.hid (below_step B2.out hb3); have hq3 := C3.out.size; clear ho3 hb3 hsa3; have tak3 : True := trivial)
    | (at_builtin; have _t := tak3; refine wpList_appS u8_ty rfl _ _ rfl w1.heap.size _ P2.length (bytesV P2) rfl Q3.out wa3.heap.size _ _ _ _ rfl X3.out (bytesV_one _) (by omega) (by simp only [maxLen]; omega) hq3 ?_; intro v3 w4_ hown3 hgr3; have B3 := Lib.hid (C3.out.grown hgr3 hq3 (fun g hg => (Q3.out.lt g hg).1)); have hs3 := B3.out.size; have hx3 := own_next (P := P2) (x := numB 8 as_) hown3 rfl (numB_length _ _); obtain ⟨P3, hP3⟩ : ∃ P, P2 ++ numB 8 as_ = P := ⟨_, rfl⟩; rw [hP3] at hx3; have O3 := Lib.hid hx3; have hl3 : P3.length = P2.length + (8) := (congrArg List.length hP3.symm).trans (List.length_append.trans (congrArg (fun z => P2.length + z) (numB_length _ _))); have HP3 := Lib.hid hP3; clear hown3 hgr3 hx3 hP3 tak3 d9; have d10 := (KC.out _ B3.out).cell (j := 10) rfl; have tok3 : True := trivial)
    | (have _t := tok3; go_at_call 42; (with_reducible refine (N_go_.out _).mono ?_); rintro e wa4 ⟨va4, rfl, ho4, hb4⟩; obtain ⟨Aa4, ca4, rfl, hsa4⟩ := own_slice ho4; have X4 := Lib.hid hsa4; have Q4 := Lib.hid (own_below O3.out hb4); have C4 := Lib.hid (below_step B3.out hb4); have hq4 := C4.out.size; clear ho4 hb4 hsa4; have tak4 : True := trivial)
    | (at_builtin; have _t := tak4; refine wpList_appS u8_ty rfl _ _ rfl w1.heap.size _ P3.length (bytesV P3) rfl Q4.out wa4.heap.size _ _ _ _ rfl X4.out (bytesV_one _) (by omega) (by simp only [maxLen]; omega) hq4 ?_; intro v4 w5_ hown4 hgr4; have B4 := Lib.hid (C4.out.grown hgr4 hq4 (fun g hg => (Q4.out.lt g hg).1)); have hs4 := B4.out.size; have hx4 := own_next (P := P3) (x := numB 8 go_) hown4 rfl (numB_length _ _); obtain ⟨P4, hP4⟩ : ∃ P, P3 ++ numB 8 go_ = P := ⟨_, rfl⟩; rw [hP4] at hx4; have O4 := Lib.hid hx4; have hl4 : P4.length = P3.length + (8) := (congrArg List.length hP4.symm).trans (List.length_append.trans (congrArg (fun z => P3.length + z) (numB_length _ _))); have HP4 := Lib.hid hP4; clear hown4 hgr4 hx4 hP4 tak4 d10; have d11 := (KC.out _ B4.out).cell (j := 11) rfl; have tok4 : True := trivial)
    | (have _t := tok4; go_at_call 42; (with_reducible refine (N_or_.out _).mono ?_); rintro e wa5 ⟨va5, rfl, ho5, hb5⟩; obtain ⟨Aa5, ca5, rfl, hsa5⟩ := own_slice ho5; have X5 := Lib.hid hsa5; have Q5 := Lib.hid (own_below O4.out hb5); have C5 := Lib.hid (below_step B4.out hb5); have hq5 := C5.out.size; clear ho5 hb5 hsa5; have tak5 : True := trivial)
    | (at_builtin; have _t := tak5; refine wpList_appS u8_ty rfl _ _ rfl w1.heap.size _ P4.length (bytesV P4) rfl Q5.out wa5.heap.size _ _ _ _ rfl X5.out (bytesV_one _) (by omega) (by simp only [maxLen]; omega) hq5 ?_; intro v5 w6_ hown5 hgr5; have B5 := Lib.hid (C5.out.grown hgr5 hq5 (fun g hg => (Q5.out.lt g hg).1)); have hs5 := B5.out.size; have hx5 := own_next (P := P4) (x := numB 8 or_) hown5 rfl (numB_length _ _); obtain ⟨P5, hP5⟩ : ∃ P, P4 ++ numB 8 or_ = P := ⟨_, rfl⟩; rw [hP5] at hx5; have O5 := Lib.hid hx5; have hl5 : P5.length = P4.length + (8) := (congrArg List.length hP5.symm).trans (List.length_append.trans (congrArg (fun z => P4.length + z) (numB_length _ _))); have HP5 := Lib.hid hP5; clear hown5 hgr5 hx5 hP5 tak5 d11; have d12 := (KC.out _ B5.out).cell (j := 12) rfl; have tok5 : True := trivial)
    | (have _t := tok5; go_at_call 42; (with_reducible refine (N_sz.out _).mono ?_); rintro e wa6 ⟨va6, rfl, ho6, hb6⟩; obtain ⟨Aa6, ca6, rfl, hsa6⟩ := own_slice ho6; have X6 := Lib.hid hsa6; have Q6 := Lib.hid (own_below O5.out hb6); have C6 := Lib.hid (below_step B5.out hb6); have hq6 := C6.out.size; clear ho6 hb6 hsa6; have tak6 : True := trivial)
    | (at_builtin; have _t := tak6; refine wpList_appS u8_ty rfl _ _ rfl w1.heap.size _ P5.length (bytesV P5) rfl Q6.out wa6.heap.size _ _ _ _ rfl X6.out (bytesV_one _) (by omega) (by simp only [maxLen]; omega) hq6 ?_; intro v6 w7_ hown6 hgr6; have B6 := Lib.hid (C6.out.grown hgr6 hq6 (fun g hg => (Q6.out.lt g hg).1)); have hs6 := B6.out.size; have hx6 := own_next (P := P5) (x := numB 4 sz) hown6 rfl (numB_length _ _); obtain ⟨P6, hP6⟩ : ∃ P, P5 ++ numB 4 sz = P := ⟨_, rfl⟩; rw [hP6] at hx6; have O6 := Lib.hid hx6; have hl6 : P6.length = P5.length + (4) := (congrArg List.length hP6.symm).trans (List.length_append.trans (congrArg (fun z => P5.length + z) (numB_length _ _))); have HP6 := Lib.hid hP6; clear hown6 hgr6 hx6 hP6 tak6 d12; have d13 := (KC.out _ B6.out).cell (j := 13) rfl; have tok6 : True := trivial)
    | (have _t := tok6; go_at_call 42; (with_reducible refine (N_su.out _).mono ?_); rintro e wa7 ⟨va7, rfl, ho7, hb7⟩; obtain ⟨Aa7, ca7, rfl, hsa7⟩ := own_slice ho7; have X7 := Lib.hid hsa7; have Q7 := Lib.hid (own_below O6.out hb7); have C7 := Lib.hid (below_step B6.out hb7); have hq7 := C7.out.size; clear ho7 hb7 hsa7; have tak7 : True := trivial)
    | (at_builtin; have _t := tak7; refine wpList_appS u8_ty rfl _ _ rfl w1.heap.size _ P6.length (bytesV P6) rfl Q7.out wa7.heap.size _ _ _ _ rfl X7.out (bytesV_one _) (by omega) (by simp only [maxLen]; omega) hq7 ?_; intro v7 w8_ hown7 hgr7; have B7 := Lib.hid (C7.out.grown hgr7 hq7 (fun g hg => (Q7.out.lt g hg).1)); have hs7 := B7.out.size; have hx7 := own_next (P := P6) (x := numB 4 su) hown7 rfl (numB_length _ _); obtain ⟨P7, hP7⟩ : ∃ P, P6 ++ numB 4 su = P := ⟨_, rfl⟩; rw [hP7] at hx7; have O7 := Lib.hid hx7; have hl7 : P7.length = P6.length + (4) := (congrArg List.length hP7.symm).trans (List.length_append.trans (congrArg (fun z => P6.length + z) (numB_length _ _))); have HP7 := Lib.hid hP7; clear hown7 hgr7 hx7 hP7 tak7 d13; have d0 := (KC.out _ B7.out).cell (j := 0) rfl; have tok7 : True := trivial)
    | (have _t := tok7; go_at_call 43; (with_reducible refine (T_U.out _).mono ?_); rintro e wa8 ⟨va8, rfl, ho8, hb8⟩; rw [textB_size, data_len] at ho8; obtain ⟨Aa8, ca8, rfl, hsa8⟩ := own_slice ho8; have X8 := Lib.hid hsa8; have Q8 := Lib.hid (own_below O7.out hb8); have C8 := Lib.hid (below_step B7.out hb8); have hq8 := C8.out.size; clear ho8 hb8 hsa8; have tak8 : True := trivial)
    | (at_builtin; have _t := tak8; refine wpList_appS u8_ty rfl _ _ rfl w1.heap.size _ P7.length (bytesV P7) rfl Q8.out wa8.heap.size _ _ _ _ rfl X8.out (bytesV_one _) (by omega) (by simp only [maxLen]; omega) hq8 ?_; intro v8 w9_ hown8 hgr8; have B8 := Lib.hid (C8.out.grown hgr8 hq8 (fun g hg => (Q8.out.lt g hg).1)); have hs8 := B8.out.size; have hx8 := own_next (P := P7) (x := textB U.data.toList) hown8 rfl (by rw [textB_size, data_len]); obtain ⟨P8, hP8⟩ : ∃ P, P7 ++ textB U.data.toList = P := ⟨_, rfl⟩; rw [hP8] at hx8; have O8 := Lib.hid hx8; have hl8 : P8.length = P7.length + (U.size + 2) := (congrArg List.length hP8.symm).trans (List.length_append.trans (congrArg (fun z => P7.length + z) (by rw [textB_size, data_len]))); have HP8 := Lib.hid hP8; clear hown8 hgr8 hx8 hP8 tak8 d0; have d2 := (KC.out _ B8.out).cell (j := 2) rfl; have tok8 : True := trivial)
    | (have _t := tok8; go_at_call 43; (with_reducible refine (T_V.out _).mono ?_); rintro e wa9 ⟨va9, rfl, ho9, hb9⟩; rw [textB_size, data_len] at ho9; obtain ⟨Aa9, ca9, rfl, hsa9⟩ := own_slice ho9; have X9 := Lib.hid hsa9; have Q9 := Lib.hid (own_below O8.out hb9); have C9 := Lib.hid (below_step B8.out hb9); have hq9 := C9.out.size; clear ho9 hb9 hsa9; have tak9 : True := trivial)
    | (at_builtin; have _t := tak9; refine wpList_appS u8_ty rfl _ _ rfl w1.heap.size _ P8.length (bytesV P8) rfl Q9.out wa9.heap.size _ _ _ _ rfl X9.out (bytesV_one _) (by omega) (by simp only [maxLen]; omega) hq9 ?_; intro v9 w10_ hown9 hgr9; have B9 := Lib.hid (C9.out.grown hgr9 hq9 (fun g hg => (Q9.out.lt g hg).1)); have hs9 := B9.out.size; have hx9 := own_next (P := P8) (x := textB V.data.toList) hown9 rfl (by rw [textB_size, data_len]); obtain ⟨P9, hP9⟩ : ∃ P, P8 ++ textB V.data.toList = P := ⟨_, rfl⟩; rw [hP9] at hx9; have O9 := Lib.hid hx9; have hl9 : P9.length = P8.length + (V.size + 2) := (congrArg List.length hP9.symm).trans (List.length_append.trans (congrArg (fun z => P8.length + z) (by rw [textB_size, data_len]))); have HP9 := Lib.hid hP9; clear hown9 hgr9 hx9 hP9 tak9 d2; have d6 := (KC.out _ B9.out).cell (j := 6) rfl; have tok9 : True := trivial)
    | (have _t := tok9; go_at_call 43; (with_reducible refine (T_R.out _).mono ?_); rintro e wa10 ⟨va10, rfl, ho10, hb10⟩; rw [textB_size, data_len] at ho10; obtain ⟨Aa10, ca10, rfl, hsa10⟩ := own_slice ho10; have X10 := Lib.hid hsa10; have Q10 := Lib.hid (own_below O9.out hb10); have C10 := Lib.hid (below_step B9.out hb10); have hq10 := C10.out.size; clear ho10 hb10 hsa10; have tak10 : True := trivial)
    | (at_builtin; have _t := tak10; refine wpList_appS u8_ty rfl _ _ rfl w1.heap.size _ P9.length (bytesV P9) rfl Q10.out wa10.heap.size _ _ _ _ rfl X10.out (bytesV_one _) (by omega) (by simp only [maxLen]; omega) hq10 ?_; intro v10 w11_ hown10 hgr10; have B10 := Lib.hid (C10.out.grown hgr10 hq10 (fun g hg => (Q10.out.lt g hg).1)); have hs10 := B10.out.size; have hx10 := own_next (P := P9) (x := textB R.data.toList) hown10 rfl (by rw [textB_size, data_len]); obtain ⟨P10, hP10⟩ : ∃ P, P9 ++ textB R.data.toList = P := ⟨_, rfl⟩; rw [hP10] at hx10; have O10 := Lib.hid hx10; have hl10 : P10.length = P9.length + (R.size + 2) := (congrArg List.length hP10.symm).trans (List.length_append.trans (congrArg (fun z => P9.length + z) (by rw [textB_size, data_len]))); have HP10 := Lib.hid hP10; clear hown10 hgr10 hx10 hP10 tak10 d6; have d1 := (KC.out _ B10.out).cell (j := 1) rfl; have tok10 : True := trivial)
    | (at_builtin; have _t := tok10; refine wpList_app u8_ty rfl _ _ rfl w1.heap.size _ _ _ rfl O10.out 1 1 _ rfl (by rfl) (one1 _ rfl) (by omega) (by simp only [maxLen]; omega) hs10 ?_; intro v11 w12_ hown11 hgr11; have B11 := Lib.hid (B10.out.grown hgr11 hs10 (fun g hg => (O10.out.lt g hg).1)); have hs11 := B11.out.size; have hx11 := own_next (P := P10) (x := [y_n1]) hown11 rfl rfl; obtain ⟨P11, hP11⟩ : ∃ P, P10 ++ [y_n1] = P := ⟨_, rfl⟩; rw [hP11] at hx11; have O11 := Lib.hid hx11; have hl11 : P11.length = P10.length + 1 := (congrArg List.length hP11.symm).trans List.length_append; have HP11 := Lib.hid hP11; clear hown11 hgr11 hx11 hP11 d1; have tok11 : True := trivial))
  have hb11 : P11.length ≤ 1000000100 := by have := HS.out; omega
  clear hl1 hl2 hl3 hl4 hl5 hl6 hl7 hl8 hl9 hl10 hl11
  go_loopw [3, 4] (fun v i wr => ∃ (k : Nat) (O : List UInt8), i = .int .i64 k ∧ k ≤ n1 ∧ O = P11 ++ (L.take k).flatMap textB ∧ wr.ownsRow w1.heap.size 5 1 v O.length (bytesV O) ∧ Below w1.heap.size w1 wr) (fun _ i _ => n1 - (intOf i).toNat)
  case atStart => exact ⟨0, _, rfl, by omega, (List.append_nil _).symm, O11.out, B11.out⟩
  case round =>
    obtain ⟨k, P12, rfl, hk, hP, hown, hbel⟩ := hrel
    have HP12 := Lib.hid hP
    have O12 := Lib.hid hown
    have B12 := Lib.hid hbel
    have hs12 := hbel.size
    have tok12 : True := trivial
    have hpl := congrArg List.length hP
    rw [List.length_append] at hpl
    have hfl := flat_take_le textB L k
    have d1 := (KC.out _ hbel).cell (j := 1) rfl
    have hS := HS.out
    have hb12 : P12.length ≤ 2100000100 := by omega
    clear hP hown hbel hpl hfl hS
    by_cases hlt : k < n1
    · obtain ⟨s, hsk⟩ : ∃ s, L[k]? = some s := ⟨_, List.getElem?_eq_getElem (by rw [HL1.out]; exact hlt)⟩
      obtain ⟨b, off, rfl, hb, hcells⟩ := str_in (Hin1.out.below B12.out) hsk
      have c0 := hcells k s hsk
      have hsn := flat_snoc textB hsk
      have hft := flat_take_le textB L (k + 1)
      rw [hsn, List.length_append, textB_size] at hft
      have hsz : (⟨s.toArray⟩ : ByteArray).size = s.length := size_mk _
      have hsd : (⟨s.toArray⟩ : ByteArray).data.toList = s := by simp
      obtain ⟨S, hSS⟩ : ∃ S : ByteArray, (⟨s.toArray⟩ : ByteArray) = S := ⟨_, rfl⟩
      rw [hSS] at c0 hsz hsd
      have hS1 : S.size ≤ 1000000000 := by have := HS.out; omega
      have T_S := Lib.hid (fun W => rtext_any S W hS1)
      have HN : Hid (P11 ++ (L.take (k + 1)).flatMap textB = P12 ++ textB S.data.toList) := Lib.hid (by rw [hsn, HP12.out, hsd, List.append_assoc])
      clear hcells hsn hft hsz hsd hsk hSS
      go_wp2_with (first
        | (have _t := tok12; go_at_call 43; (with_reducible refine (T_S.out _).mono ?_); rintro e wa13 ⟨va13, rfl, ho13, hb13⟩; rw [textB_size, data_len] at ho13; obtain ⟨Aa13, ca13, rfl, hsa13⟩ := own_slice ho13; have X13 := Lib.hid hsa13; have Q13 := Lib.hid (own_below O12.out hb13); have C13 := Lib.hid (below_step B12.out hb13); have hq13 := C13.out.size; clear ho13 hb13 hsa13; have tak13 : True := trivial)
        | (at_builtin; have _t := tak13; refine wpList_appS u8_ty rfl _ _ rfl w1.heap.size _ P12.length (bytesV P12) rfl Q13.out wa13.heap.size _ _ _ _ rfl X13.out (bytesV_one _) (by omega) (by simp only [maxLen]; omega) hq13 ?_; intro v13 w14_ hown13 hgr13; have B13 := Lib.hid (C13.out.grown hgr13 hq13 (fun g hg => (Q13.out.lt g hg).1)); have hs13 := B13.out.size; have hx13 := own_next (P := P12) (x := textB S.data.toList) hown13 rfl (by rw [textB_size, data_len]); obtain ⟨P13, hP13⟩ : ∃ P, P12 ++ textB S.data.toList = P := ⟨_, rfl⟩; rw [hP13] at hx13; have O13 := Lib.hid hx13; have hl13 : P13.length = P12.length + (S.size + 2) := (congrArg List.length hP13.symm).trans (List.length_append.trans (congrArg (fun z => P12.length + z) (by rw [textB_size, data_len]))); have HP13 := Lib.hid hP13; clear hown13 hgr13 hx13 hP13 tak13 d1; have tok13 : True := trivial))
      go_roundw
      case rel => exact ⟨k + 1, P13, by go_num, by omega, by rw [HN.out]; exact HP13.out.symm, O13.out, B13.out⟩
      case measure => simp [intOf]; omega
    · obtain rfl : n1 = k := by omega
      rw [List.take_of_length_le (by rw [HL1.out]; exact Nat.le_refl _)] at HP12
      clear O11 B11 hs11
      have d8 := (KC.out _ B12.out).cell (j := 8) rfl
      go_wp2_with (first
        | (at_builtin; have _t := tok12; refine wpList_app u8_ty rfl _ _ rfl w1.heap.size _ _ _ rfl O12.out 1 1 _ rfl (by rfl) (one1 _ rfl) (by omega) (by simp only [maxLen]; omega) hs12 ?_; intro v13 w14_ hown13 hgr13; have B13 := Lib.hid (B12.out.grown hgr13 hs12 (fun g hg => (O12.out.lt g hg).1)); have hs13 := B13.out.size; have hx13 := own_next (P := P12) (x := [y_n2]) hown13 rfl rfl; obtain ⟨P13, hP13⟩ : ∃ P, P12 ++ [y_n2] = P := ⟨_, rfl⟩; rw [hP13] at hx13; have O13 := Lib.hid hx13; have hl13 : P13.length = P12.length + 1 := (congrArg List.length hP13.symm).trans List.length_append; have HP13 := Lib.hid hP13; clear hown13 hgr13 hx13 hP13 d8; have tok13 : True := trivial))
      clear O12 B12 hs12
      have hb13 : P13.length ≤ 3000000000 := by omega
      clear hl13
      go_loopw [3, 5] (fun v i wr => ∃ (k : Nat) (O : List UInt8), i = .int .i64 k ∧ k ≤ n2 ∧ O = P13 ++ (F.take k).flatMap fieldB ∧ wr.ownsRow w1.heap.size 5 1 v O.length (bytesV O) ∧ Below w1.heap.size w1 wr) (fun _ i _ => n2 - (intOf i).toNat)
      case atStart => exact ⟨0, _, rfl, by omega, (List.append_nil _).symm, O13.out, B13.out⟩
      case round =>
        obtain ⟨k, P14, rfl, hk, hP, hown, hbel⟩ := hrel
        have HP14 := Lib.hid hP
        have O14 := Lib.hid hown
        have B14 := Lib.hid hbel
        have hs14 := hbel.size
        have tok14 : True := trivial
        have hpl := congrArg List.length hP
        rw [List.length_append] at hpl
        have hfl := flat_take_le fieldB F k
        have d8 := (KC.out _ hbel).cell (j := 8) rfl
        have hS := HS.out
        have hb14 : P14.length ≤ 4300000100 := by omega
        clear hP hown hbel hpl hfl hS
        by_cases hlt : k < n2
        · obtain ⟨f, hsk⟩ : ∃ s, F[k]? = some s := ⟨_, List.getElem?_eq_getElem (by rw [HL2.out]; exact hlt)⟩
          obtain ⟨b, off, rfl, hb, c0, _⟩ := fld_at (Hin2.out.below B14.out) hsk
          have C1 : Hid (∀ W, Below w1.heap.size w1 W → W.cell? ⟨b, off + k * 2 + 1, none⟩ = some (.string ⟨f.2.toArray⟩)) := Lib.hid (fun W hW => by
            obtain ⟨b2, off2, e2, _, _, h2⟩ := fld_at (Hin2.out.below hW) hsk
            simp only [Option.some.injEq, Addr.mk.injEq, and_true] at e2
            obtain ⟨rfl, rfl⟩ := e2
            exact h2)
          have hsn := flat_snoc fieldB hsk
          have hft := flat_take_le fieldB F (k + 1)
          rw [hsn, List.length_append, fieldB, List.length_append, textB_size, textB_size] at hft
          have hzSa : (⟨f.1.toArray⟩ : ByteArray).size = f.1.length := size_mk _
          have hdSa : (⟨f.1.toArray⟩ : ByteArray).data.toList = f.1 := by simp
          have hzSb : (⟨f.2.toArray⟩ : ByteArray).size = f.2.length := size_mk _
          have hdSb : (⟨f.2.toArray⟩ : ByteArray).data.toList = f.2 := by simp
          obtain ⟨Sa, hSa⟩ : ∃ S : ByteArray, (⟨f.1.toArray⟩ : ByteArray) = S := ⟨_, rfl⟩
          obtain ⟨Sb, hSb⟩ : ∃ S : ByteArray, (⟨f.2.toArray⟩ : ByteArray) = S := ⟨_, rfl⟩
          rw [hSa] at c0 hzSa hdSa
          rw [hSb] at C1 hzSb hdSb
          have hS1 : Sa.size ≤ 1000000000 := by have := HS.out; omega
          have hS2 : Sb.size ≤ 1000000000 := by have := HS.out; omega
          have T_Sa := Lib.hid (fun W => rtext_any Sa W hS1)
          have T_Sb := Lib.hid (fun W => rtext_any Sb W hS2)
          have HN : Hid (P13 ++ (F.take (k + 1)).flatMap fieldB = (P14 ++ textB Sa.data.toList) ++ textB Sb.data.toList) := Lib.hid (by rw [hsn, HP14.out, hdSa, hdSb]; simp [fieldB])
          clear hsn hft hzSa hzSb hdSa hdSb hsk hSa hSb
          go_wp2_with (first
            | (have _t := tok14; go_at_call 43; (with_reducible refine (T_Sa.out _).mono ?_); rintro e wa15 ⟨va15, rfl, ho15, hb15⟩; rw [textB_size, data_len] at ho15; obtain ⟨Aa15, ca15, rfl, hsa15⟩ := own_slice ho15; have X15 := Lib.hid hsa15; have Q15 := Lib.hid (own_below O14.out hb15); have C15 := Lib.hid (below_step B14.out hb15); have hq15 := C15.out.size; clear ho15 hb15 hsa15; have tak15 : True := trivial)
            | (at_builtin; have _t := tak15; refine wpList_appS u8_ty rfl _ _ rfl w1.heap.size _ P14.length (bytesV P14) rfl Q15.out wa15.heap.size _ _ _ _ rfl X15.out (bytesV_one _) (by omega) (by simp only [maxLen]; omega) hq15 ?_; intro v15 w16_ hown15 hgr15; have B15 := Lib.hid (C15.out.grown hgr15 hq15 (fun g hg => (Q15.out.lt g hg).1)); have hs15 := B15.out.size; have hx15 := own_next (P := P14) (x := textB Sa.data.toList) hown15 rfl (by rw [textB_size, data_len]); obtain ⟨P15, hP15⟩ : ∃ P, P14 ++ textB Sa.data.toList = P := ⟨_, rfl⟩; rw [hP15] at hx15; have O15 := Lib.hid hx15; have hl15 : P15.length = P14.length + (Sa.size + 2) := (congrArg List.length hP15.symm).trans (List.length_append.trans (congrArg (fun z => P14.length + z) (by rw [textB_size, data_len]))); have HP15 := Lib.hid hP15; clear hown15 hgr15 hx15 hP15 tak15 d8; have d8 := (KC.out _ B15.out).cell (j := 8) rfl; have c1 := C1.out _ B15.out; clear c0; have tok15 : True := trivial)
            | (have _t := tok15; go_at_call 43; (with_reducible refine (T_Sb.out _).mono ?_); rintro e wa16 ⟨va16, rfl, ho16, hb16⟩; rw [textB_size, data_len] at ho16; obtain ⟨Aa16, ca16, rfl, hsa16⟩ := own_slice ho16; have X16 := Lib.hid hsa16; have Q16 := Lib.hid (own_below O15.out hb16); have C16 := Lib.hid (below_step B15.out hb16); have hq16 := C16.out.size; clear ho16 hb16 hsa16; have tak16 : True := trivial)
            | (at_builtin; have _t := tak16; refine wpList_appS u8_ty rfl _ _ rfl w1.heap.size _ P15.length (bytesV P15) rfl Q16.out wa16.heap.size _ _ _ _ rfl X16.out (bytesV_one _) (by omega) (by simp only [maxLen]; omega) hq16 ?_; intro v16 w17_ hown16 hgr16; have B16 := Lib.hid (C16.out.grown hgr16 hq16 (fun g hg => (Q16.out.lt g hg).1)); have hs16 := B16.out.size; have hx16 := own_next (P := P15) (x := textB Sb.data.toList) hown16 rfl (by rw [textB_size, data_len]); obtain ⟨P16, hP16⟩ : ∃ P, P15 ++ textB Sb.data.toList = P := ⟨_, rfl⟩; rw [hP16] at hx16; have O16 := Lib.hid hx16; have hl16 : P16.length = P15.length + (Sb.size + 2) := (congrArg List.length hP16.symm).trans (List.length_append.trans (congrArg (fun z => P15.length + z) (by rw [textB_size, data_len]))); have HP16 := Lib.hid hP16; clear hown16 hgr16 hx16 hP16 tak16 d8; have tok16 : True := trivial))
          go_roundw
          case rel => exact ⟨k + 1, P16, by go_num, by omega, by rw [HN.out, HP15.out]; exact HP16.out.symm, O16.out, B16.out⟩
          case measure => simp [intOf]; omega
        · obtain rfl : n2 = k := by omega
          rw [List.take_of_length_le (by rw [HL2.out]; exact Nat.le_refl _)] at HP14
          clear O13 B13 hs13
          have d14 := (KC.out _ B14.out).cell (j := 14) rfl
          go_wp2_with (first
            | (at_builtin; have _t := tok14; refine wpList_app u8_ty rfl _ _ rfl w1.heap.size _ _ _ rfl O14.out 1 1 _ rfl (by rfl) (one1 _ rfl) (by omega) (by simp only [maxLen]; omega) hs14 ?_; intro v15 w16_ hown15 hgr15; have B15 := Lib.hid (B14.out.grown hgr15 hs14 (fun g hg => (O14.out.lt g hg).1)); have hs15 := B15.out.size; have hx15 := own_next (P := P14) (x := [y_n3]) hown15 rfl rfl; obtain ⟨P15, hP15⟩ : ∃ P, P14 ++ [y_n3] = P := ⟨_, rfl⟩; rw [hP15] at hx15; have O15 := Lib.hid hx15; have hl15 : P15.length = P14.length + 1 := (congrArg List.length hP15.symm).trans List.length_append; have HP15 := Lib.hid hP15; clear hown15 hgr15 hx15 hP15 d14; have tok15 : True := trivial))
          clear O14 B14 hs14
          have hb15 : P15.length ≤ 6000000000 := by omega
          clear hl15
          go_loopw [3, 6] (fun v i wr => ∃ (k : Nat) (O : List UInt8), i = .int .i64 k ∧ k ≤ n3 ∧ O = P15 ++ (X.take k).flatMap extB ∧ wr.ownsRow w1.heap.size 5 1 v O.length (bytesV O) ∧ Below w1.heap.size w1 wr) (fun _ i _ => n3 - (intOf i).toNat)
          case atStart => exact ⟨0, _, rfl, by omega, (List.append_nil _).symm, O15.out, B15.out⟩
          case round =>
            obtain ⟨k, P16, rfl, hk, hP, hown, hbel⟩ := hrel
            have HP16 := Lib.hid hP
            have O16 := Lib.hid hown
            have B16 := Lib.hid hbel
            have hs16 := hbel.size
            have tok16 : True := trivial
            have hpl := congrArg List.length hP
            rw [List.length_append] at hpl
            have hfl := hXl.out k
            have d14 := (KC.out _ hbel).cell (j := 14) rfl
            have hS := HS.out
            have hb16 : P16.length ≤ 6500000100 := by omega
            clear hP hown hbel hpl hfl hS
            by_cases hlt : k < n3
            · obtain ⟨x, hsk⟩ : ∃ s, X[k]? = some s := ⟨_, List.getElem?_eq_getElem (by rw [HL3.out]; exact hlt)⟩
              obtain ⟨b, off, rfl, hb, c0, _⟩ := ext_at (Hin3.out.below B16.out) hsk
              have C1 : Hid (∀ W, Below w1.heap.size w1 W → W.cell? ⟨b, off + k * 2 + 1, none⟩ = some (.int .i64 x.2)) := Lib.hid (fun W hW => by
                obtain ⟨b2, off2, e2, _, _, h2⟩ := ext_at (Hin3.out.below hW) hsk
                simp only [Option.some.injEq, Addr.mk.injEq, and_true] at e2
                obtain ⟨rfl, rfl⟩ := e2
                exact h2)
              have hsn := flat_snoc extB hsk
              obtain ⟨h1, h2, h3, h4⟩ := HX.out x (List.mem_of_getElem? hsk)
              obtain ⟨p, hp⟩ := Int.eq_ofNat_of_zero_le h1
              obtain ⟨q, hq⟩ := Int.eq_ofNat_of_zero_le h3
              rw [hp] at c0
              rw [hq] at C1
              have N_p := Lib.hid (fun W => rnum_at (p : Int) 4 W 4 p rfl rfl (by omega) (by omega))
              have N_q := Lib.hid (fun W => rnum_at (q : Int) 4 W 4 q rfl rfl (by omega) (by omega))
              have HN : Hid (P15 ++ (X.take (k + 1)).flatMap extB = (P16 ++ numB 4 p) ++ numB 4 q) := Lib.hid (by rw [hsn, HP16.out]; simp [extB, hp, hq])
              clear hsn hsk h1 h2 h3 h4 hp hq
              go_wp2_with (first
                | (have _t := tok16; go_at_call 42; (with_reducible refine (N_p.out _).mono ?_); rintro e wa17 ⟨va17, rfl, ho17, hb17⟩; obtain ⟨Aa17, ca17, rfl, hsa17⟩ := own_slice ho17; have X17 := Lib.hid hsa17; have Q17 := Lib.hid (own_below O16.out hb17); have C17 := Lib.hid (below_step B16.out hb17); have hq17 := C17.out.size; clear ho17 hb17 hsa17; have tak17 : True := trivial)
                | (at_builtin; have _t := tak17; refine wpList_appS u8_ty rfl _ _ rfl w1.heap.size _ P16.length (bytesV P16) rfl Q17.out wa17.heap.size _ _ _ _ rfl X17.out (bytesV_one _) (by omega) (by simp only [maxLen]; omega) hq17 ?_; intro v17 w18_ hown17 hgr17; have B17 := Lib.hid (C17.out.grown hgr17 hq17 (fun g hg => (Q17.out.lt g hg).1)); have hs17 := B17.out.size; have hx17 := own_next (P := P16) (x := numB 4 p) hown17 rfl (numB_length _ _); obtain ⟨P17, hP17⟩ : ∃ P, P16 ++ numB 4 p = P := ⟨_, rfl⟩; rw [hP17] at hx17; have O17 := Lib.hid hx17; have hl17 : P17.length = P16.length + (4) := (congrArg List.length hP17.symm).trans (List.length_append.trans (congrArg (fun z => P16.length + z) (numB_length _ _))); have HP17 := Lib.hid hP17; clear hown17 hgr17 hx17 hP17 tak17 d14; have d14 := (KC.out _ B17.out).cell (j := 14) rfl; have c1 := C1.out _ B17.out; clear c0; have tok17 : True := trivial)
                | (have _t := tok17; go_at_call 42; (with_reducible refine (N_q.out _).mono ?_); rintro e wa18 ⟨va18, rfl, ho18, hb18⟩; obtain ⟨Aa18, ca18, rfl, hsa18⟩ := own_slice ho18; have X18 := Lib.hid hsa18; have Q18 := Lib.hid (own_below O17.out hb18); have C18 := Lib.hid (below_step B17.out hb18); have hq18 := C18.out.size; clear ho18 hb18 hsa18; have tak18 : True := trivial)
                | (at_builtin; have _t := tak18; refine wpList_appS u8_ty rfl _ _ rfl w1.heap.size _ P17.length (bytesV P17) rfl Q18.out wa18.heap.size _ _ _ _ rfl X18.out (bytesV_one _) (by omega) (by simp only [maxLen]; omega) hq18 ?_; intro v18 w19_ hown18 hgr18; have B18 := Lib.hid (C18.out.grown hgr18 hq18 (fun g hg => (Q18.out.lt g hg).1)); have hs18 := B18.out.size; have hx18 := own_next (P := P17) (x := numB 4 q) hown18 rfl (numB_length _ _); obtain ⟨P18, hP18⟩ : ∃ P, P17 ++ numB 4 q = P := ⟨_, rfl⟩; rw [hP18] at hx18; have O18 := Lib.hid hx18; have hl18 : P18.length = P17.length + (4) := (congrArg List.length hP18.symm).trans (List.length_append.trans (congrArg (fun z => P17.length + z) (numB_length _ _))); have HP18 := Lib.hid hP18; clear hown18 hgr18 hx18 hP18 tak18 d14; have tok18 : True := trivial))
              go_roundw
              case rel => exact ⟨k + 1, P18, by go_num, by omega, by rw [HN.out, HP17.out]; exact HP18.out.symm, O18.out, B18.out⟩
              case measure => simp [intOf]; omega
            · obtain rfl : n3 = k := by omega
              rw [List.take_of_length_le (by rw [HL3.out]; exact Nat.le_refl _)] at HP16
              clear O15 B15 hs15
              go_wp2
              go_ret
              have e : TT = P16 := by
                rw [HT.out, HP16.out, ← HP15.out, HP14.out, ← HP13.out, HP12.out, ← HP11.out, ← HP10.out, ← HP9.out, ← HP8.out, ← HP7.out, ← HP6.out, ← HP5.out, ← HP4.out, ← HP3.out, ← HP2.out, ← HP1.out, Y_mi.out, Y_n1.out, Y_n2.out, Y_n3.out]
                simp only [List.append_assoc]
              rw [e]
              exact ⟨_, rfl, ⟨O16.out.1, O16.out.2.imp id (fun ⟨g, cap, cur, h1, h2, h3⟩ => ⟨g, cap, cur, h1, by omega, h3⟩)⟩, BW.out.trans (B16.out.mono (by omega))⟩
end Go.Proofs.YtkodeeneljkgeaaDoor
