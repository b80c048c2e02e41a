/- Walks of layer 19: an entry's octets, by the code. Condition: the entry is right; its numbers and lengths are within what octets can say. Printed by mken11.py. -/
import Derived.Test.YtkodeeneljkgeaaDoorEn12
namespace Go.Proofs.YtkodeeneljkgeaaDoor
open Go.RowKit IH
set_option maxRecDepth 100000
theorem wr_new (w : World) (x : Value) (u : UInt8) (hx : x = .int .u8 u.toNat) : Wr w.heap.size (w.heap.size + 1) ((w.alloc (.cells #[x] 5)).alloc (.cells #[.slice (some ⟨w.heap.size, 0, none⟩) 1 1] 72)) [u] := by
  subst hx
  have h := RowAt.new (w.alloc (.cells #[.int .u8 u.toNat] 5)) 72 [.slice (some ⟨w.heap.size, 0, none⟩) 1 1]
  rw [World.size_alloc] at h
  exact ⟨_, h, (own_one w w.heap.size 5 (.int .u8 u.toNat) (Nat.le_refl _)).alloc _⟩
/-- An entry that isn't right. -/
theorem pack_bad (e : Entry) (p : EntA) (w : World) (hin : EntIn w w.heap.size e p) (hs : EntS e p) (hr : rightE e = false) :
    Calls Tryd.prog 13 #[.agg (entC e p).toArray] w fun x w' => x = .returned (.tuple #[.slice none 0 0, .int .i64 10]) ∧ Below w.heap.size w w' := by
  have RT : ∀ W, Below w.heap.size w W → Calls Tryd.prog 14 #[.agg (entC e p).toArray] W fun x w' => x = .returned (.bool false) ∧ Below W.heap.size W w' := fun W hW => by
    have h := eright_any e p W (hin.at_ hW) hs
    rw [hr] at h
    exact h
  have hec : entC e p = [.string ⟨e.uri.toArray⟩, .slice p.A1 p.n1 p.c1, .string ⟨e.variant.toArray⟩, .string ⟨e.method.toArray⟩, .string ⟨e.target.toArray⟩, .int .i64 e.status, .string ⟨e.reason.toArray⟩, .int .i64 e.minor, .slice p.A2 p.n2 p.c2, .int .i64 e.asked, .int .i64 e.got, .int .i64 e.order, .int .i64 e.size, .int .u32 e.sum, .slice p.A3 p.n3 p.c3] := rfl
  have RW := RowAt.new w 33 (entC e p)
  have BW := below_al w (.cells (entC e p).toArray 33)
  rw [hec] at RT RW BW ⊢
  obtain ⟨w1, hw1⟩ : ∃ W, w.alloc (.cells ([.string ⟨e.uri.toArray⟩, .slice p.A1 p.n1 p.c1, .string ⟨e.variant.toArray⟩, .string ⟨e.method.toArray⟩, .string ⟨e.target.toArray⟩, .int .i64 e.status, .string ⟨e.reason.toArray⟩, .int .i64 e.minor, .slice p.A2 p.n2 p.c2, .int .i64 e.asked, .int .i64 e.got, .int .i64 e.order, .int .i64 e.size, .int .u32 e.sum, .slice p.A3 p.n3 p.c3] : List Value).toArray 33) = W := ⟨_, rfl⟩
  rw [hw1] at RW BW
  rw [show ([.string ⟨e.uri.toArray⟩, .slice p.A1 p.n1 p.c1, .string ⟨e.variant.toArray⟩, .string ⟨e.method.toArray⟩, .string ⟨e.target.toArray⟩, .int .i64 e.status, .string ⟨e.reason.toArray⟩, .int .i64 e.minor, .slice p.A2 p.n2 p.c2, .int .i64 e.asked, .int .i64 e.got, .int .i64 e.order, .int .i64 e.size, .int .u32 e.sum, .slice p.A3 p.n3 p.c3] : List Value).toArray = #[.string ⟨e.uri.toArray⟩, .slice p.A1 p.n1 p.c1, .string ⟨e.variant.toArray⟩, .string ⟨e.method.toArray⟩, .string ⟨e.target.toArray⟩, .int .i64 e.status, .string ⟨e.reason.toArray⟩, .int .i64 e.minor, .slice p.A2 p.n2 p.c2, .int .i64 e.asked, .int .i64 e.got, .int .i64 e.order, .int .i64 e.size, .int .u32 e.sum, .slice p.A3 p.n3 p.c3] from rfl] at hw1 RT ⊢

  obtain ⟨U, hU⟩ : ∃ S : ByteArray, (⟨e.uri.toArray⟩ : ByteArray) = S := ⟨_, rfl⟩
  obtain ⟨V, hV⟩ : ∃ S : ByteArray, (⟨e.variant.toArray⟩ : ByteArray) = S := ⟨_, rfl⟩
  obtain ⟨M, hM⟩ : ∃ S : ByteArray, (⟨e.method.toArray⟩ : ByteArray) = S := ⟨_, rfl⟩
  obtain ⟨T, hT⟩ : ∃ S : ByteArray, (⟨e.target.toArray⟩ : ByteArray) = S := ⟨_, rfl⟩
  obtain ⟨R, hR⟩ : ∃ S : ByteArray, (⟨e.reason.toArray⟩ : ByteArray) = S := ⟨_, rfl⟩
  rw [hU] at RT hw1 RW ⊢
  rw [hV] at RT hw1 RW ⊢
  rw [hM] at RT hw1 RW ⊢
  rw [hT] at RT hw1 RW ⊢
  rw [hR] at RT hw1 RW ⊢
  clear hU hV hM hT hR hec
  have HR := Lib.hid (RT w1 BW)
  have HB := Lib.hid BW
  have c0 := RW.cell (j := 0) rfl
  have c1 := RW.cell (j := 1) rfl
  have c2 := RW.cell (j := 2) rfl
  have c3 := RW.cell (j := 3) rfl
  have c4 := RW.cell (j := 4) rfl
  have c5 := RW.cell (j := 5) rfl
  have c6 := RW.cell (j := 6) rfl
  have c7 := RW.cell (j := 7) rfl
  have c8 := RW.cell (j := 8) rfl
  have c9 := RW.cell (j := 9) rfl
  have c10 := RW.cell (j := 10) rfl
  have c11 := RW.cell (j := 11) rfl
  have c12 := RW.cell (j := 12) rfl
  have c13 := RW.cell (j := 13) rfl
  have c14 := RW.cell (j := 14) rfl
  clear RT BW RW hin hs hr
  go_enter Tryd.func13, Tryd.ntmps13
  go_wp2_with (go_at_call 14; (with_reducible refine HR.out.mono ?_); rintro e w2 ⟨rfl, hb2⟩)
  go_ret2
  exact ⟨rfl, HB.out.trans (hb2.mono HB.out.size)⟩
set_option maxHeartbeats 64000000 in
theorem epack_raw (U V M T R : ByteArray) (A1 : Option Addr) (n1 c1 : Nat) (A2 : Option Addr) (n2 c2 : Nat) (A3 : Option Addr) (n3 c3 : Nat) (st mi as_ go_ or_ sz su : Nat) (L : List (List UInt8)) (F : List Fld) (X : List (Int × Int)) (w : World)
    (hin1 : SliceIn w w.heap.size 1 A1 n1 c1 (strsV L)) (hin2 : SliceIn w w.heap.size 2 A2 n2 c2 (fldsV F)) (hin3 : SliceIn w w.heap.size 2 A3 n3 c3 (extsV X)) (hn1 : n1 ≤ 1000000) (hn2 : n2 ≤ 1000000) (hn3 : n3 ≤ 1000000)
    (hst : st ≤ 9223372036854775807) (hmi : mi ≤ 9223372036854775807) (has : as_ ≤ 9223372036854775807) (hgo : go_ ≤ 9223372036854775807) (hor : or_ ≤ 9223372036854775807) (hsz : sz ≤ 9223372036854775807) (hsu : su ≤ 4294967295)
    (hx : ∀ x ∈ X, 0 ≤ x.1 ∧ x.1 < 4294967296 ∧ 0 ≤ x.2 ∧ x.2 < 4294967296)
    (RT : ∀ W, Below w.heap.size w W → Calls Tryd.prog 14 #[.agg #[.string U, .slice A1 n1 c1, .string V, .string M, .string T, .int .i64 st, .string R, .int .i64 mi, .slice A2 n2 c2, .int .i64 as_, .int .i64 go_, .int .i64 or_, .int .i64 sz, .int .u32 su, .slice A3 n3 c3]] W fun x w' => x = .returned (.bool true) ∧ Below W.heap.size W w')
    (TT : List UInt8) (hlen : TT.length ≤ 500000000)
    (hT : TT = [69] ++ (numB 2 st ++ (numB 1 mi ++ (numB 8 as_ ++ (numB 8 go_ ++ (numB 8 or_ ++ (numB 4 sz ++ (numB 4 su ++ (textB U.data.toList ++ (textB V.data.toList ++ (textB R.data.toList ++ (numB 1 n1 ++ (L.flatMap textB ++ (numB 1 n2 ++ (F.flatMap fieldB ++ (numB 1 n3 ++ X.flatMap extB)))))))))))))))) :
    Calls Tryd.prog 13 #[.agg #[.string U, .slice A1 n1 c1, .string V, .string M, .string T, .int .i64 st, .string R, .int .i64 mi, .slice A2 n2 c2, .int .i64 as_, .int .i64 go_, .int .i64 or_, .int .i64 sz, .int .u32 su, .slice A3 n3 c3]] w
      fun e w' => ((8000 < TT.length → e = .returned (.tuple #[.slice none 0 0, .int .i64 12])) ∧ (TT.length ≤ 8000 → ∃ v, e = .returned (.tuple #[v, .int .i64 0]) ∧ w'.ownsRow w.heap.size 5 1 v TT.length (bytesV TT))) ∧ Below w.heap.size w w' := by
  have HT := Lib.hid hT
  have HX := Lib.hid hx
  have HL1 : Hid (L.length = n1) := Lib.hid (by have := hin1.1; rw [strsV_length] at this; omega)
  have HL2 : Hid (F.length = n2) := Lib.hid (fld_count hin2)
  have HL3 : Hid (X.length = n3) := Lib.hid (ext_count hin3)
  have hlen2 := congrArg List.length hT
  simp only [List.length_append, numB_length, textB_size, List.length_singleton, data_len] at hlen2
  have hXl : Hid (∀ k, ((X.take k).flatMap extB).length ≤ 8 * k) := Lib.hid (fun k => by
    have : ∀ l : List (Int × Int), (l.flatMap extB).length = 8 * l.length := by
      intro l
      induction l with
      | nil => rfl
      | cons x l ih => rw [List.flatMap_cons, List.length_append, ih]; simp [extB, numB_length]; omega
    rw [this, List.length_take]; omega)
  have HS : Hid (U.size + V.size + R.size + (L.flatMap textB).length + (F.flatMap fieldB).length ≤ 500000000) := Lib.hid (by omega)
  clear hT hx hlen2
  obtain ⟨w1, hw1⟩ : ∃ W, w.alloc (.cells #[.string U, .slice A1 n1 c1, .string V, .string M, .string T, .int .i64 st, .string R, .int .i64 mi, .slice A2 n2 c2, .int .i64 as_, .int .i64 go_, .int .i64 or_, .int .i64 sz, .int .u32 su, .slice A3 n3 c3] 33) = W := ⟨_, rfl⟩
  have hlt : w.heap.size < w1.heap.size := by rw [← hw1]; simp
  have BW : Hid (Below w.heap.size w w1) := Lib.hid (by rw [← hw1]; exact (Below.refl _ _).alloc (Nat.le_refl _) _)
  have KC1 : Hid (∀ W, Below w1.heap.size w1 W → RowAt W w.heap.size 33 [.string U, .slice A1 n1 c1, .string V, .string M, .string T, .int .i64 st, .string R, .int .i64 mi, .slice A2 n2 c2, .int .i64 as_, .int .i64 go_, .int .i64 or_, .int .i64 sz, .int .u32 su, .slice A3 n3 c3]) := Lib.hid (fun W hW => by
    have h := RowAt.new w 33 [.string U, .slice A1 n1 c1, .string V, .string M, .string T, .int .i64 st, .string R, .int .i64 mi, .slice A2 n2 c2, .int .i64 as_, .int .i64 go_, .int .i64 or_, .int .i64 sz, .int .u32 su, .slice A3 n3 c3]
    rw [show ([.string U, .slice A1 n1 c1, .string V, .string M, .string T, .int .i64 st, .string R, .int .i64 mi, .slice A2 n2 c2, .int .i64 as_, .int .i64 go_, .int .i64 or_, .int .i64 sz, .int .u32 su, .slice A3 n3 c3] : List Value).toArray = #[.string U, .slice A1 n1 c1, .string V, .string M, .string T, .int .i64 st, .string R, .int .i64 mi, .slice A2 n2 c2, .int .i64 as_, .int .i64 go_, .int .i64 or_, .int .i64 sz, .int .u32 su, .slice A3 n3 c3] from rfl, hw1] at h
    exact h.below hW hlt)
  have Hin1 : Hid (SliceIn w1 w1.heap.size 1 A1 n1 c1 (strsV L)) := Lib.hid ((hin1.below BW.out).more (Nat.le_of_lt hlt))
  have Hin2 : Hid (SliceIn w1 w1.heap.size 2 A2 n2 c2 (fldsV F)) := Lib.hid ((hin2.below BW.out).more (Nat.le_of_lt hlt))
  have Hin3 : Hid (SliceIn w1 w1.heap.size 2 A3 n3 c3 (extsV X)) := Lib.hid ((hin3.below BW.out).more (Nat.le_of_lt hlt))
  have HR := Lib.hid (RT w1 BW.out)
  clear hin1 hin2 hin3 RT hlt
  have e0 := (KC1.out w1 (Below.refl _ _)).cell (j := 0) rfl
  have e1 := (KC1.out w1 (Below.refl _ _)).cell (j := 1) rfl
  have e2 := (KC1.out w1 (Below.refl _ _)).cell (j := 2) rfl
  have e3 := (KC1.out w1 (Below.refl _ _)).cell (j := 3) rfl
  have e4 := (KC1.out w1 (Below.refl _ _)).cell (j := 4) rfl
  have e5 := (KC1.out w1 (Below.refl _ _)).cell (j := 5) rfl
  have e6 := (KC1.out w1 (Below.refl _ _)).cell (j := 6) rfl
  have e7 := (KC1.out w1 (Below.refl _ _)).cell (j := 7) rfl
  have e8 := (KC1.out w1 (Below.refl _ _)).cell (j := 8) rfl
  have e9 := (KC1.out w1 (Below.refl _ _)).cell (j := 9) rfl
  have e10 := (KC1.out w1 (Below.refl _ _)).cell (j := 10) rfl
  have e11 := (KC1.out w1 (Below.refl _ _)).cell (j := 11) rfl
  have e12 := (KC1.out w1 (Below.refl _ _)).cell (j := 12) rfl
  have e13 := (KC1.out w1 (Below.refl _ _)).cell (j := 13) rfl
  have e14 := (KC1.out w1 (Below.refl _ _)).cell (j := 14) rfl
  go_enter Tryd.func13, Tryd.ntmps13
  go_upto_region 3 with (go_at_call 14; (with_reducible refine HR.out.mono ?_); rintro e w2 ⟨rfl, hb2⟩; have D0 := Lib.hid hb2; have KC : Hid (∀ W, Below w2.heap.size w2 W → RowAt W w.heap.size 33 [.string U, .slice A1 n1 c1, .string V, .string M, .string T, .int .i64 st, .string R, .int .i64 mi, .slice A2 n2 c2, .int .i64 as_, .int .i64 go_, .int .i64 or_, .int .i64 sz, .int .u32 su, .slice A3 n3 c3]) := Lib.hid (fun W hW => KC1.out W (hb2.trans (hW.mono hb2.size))); have hgt : w1.heap.size ≤ w2.heap.size := hb2.size; clear hb2 e0 e1 e2 e3 e4 e5 e6 e7 e8 e9 e10 e11 e12 e13 e14)
  obtain ⟨w4, hw4⟩ : ∃ W, ((w2.alloc (.cells #[.int .u8 69] 5)).alloc (.cells #[.slice (some ⟨w2.heap.size, 0, none⟩) 1 1] 72)) = W := ⟨_, rfl⟩
  have B0 : Hid (Below w2.heap.size w2 w4) := Lib.hid (by rw [← hw4]; exact ((Below.refl _ _).alloc (Nat.le_refl _) _).alloc (by simp) _)
  have H0 : Hid (Wr w2.heap.size (w2.heap.size + 1) w4 [69]) := Lib.hid (by rw [← hw4]; exact wr_new w2 _ 69 rfl)
  have hp0 : ([69] : List UInt8).length ≤ 1 := Nat.le_refl _
  have e5 := (KC.out _ B0.out).cell (j := 5) rfl
  have KI1 : Hid (∀ W, Below w2.heap.size w2 W → SliceIn W W.heap.size 1 A1 n1 c1 (strsV L)) := Lib.hid (fun W hW => ((Hin1.out.below D0.out).below (hW.mono hgt)).more (Nat.le_trans hgt hW.size))
  have KI2 : Hid (∀ W, Below w2.heap.size w2 W → SliceIn W W.heap.size 2 A2 n2 c2 (fldsV F)) := Lib.hid (fun W hW => ((Hin2.out.below D0.out).below (hW.mono hgt)).more (Nat.le_trans hgt hW.size))
  have KI3 : Hid (∀ W, Below w2.heap.size w2 W → SliceIn W W.heap.size 2 A3 n3 c3 (extsV X)) := Lib.hid (fun W hW => ((Hin3.out.below D0.out).below (hW.mono hgt)).more (Nat.le_trans hgt hW.size))
  have N_st := Lib.hid (fun W P (h : Wr w2.heap.size (w2.heap.size + 1) W P) (hl : P.length ≤ 1000000000) => wnumber_at w2.heap.size (w2.heap.size + 1) P (st : Int) 2 W h (Nat.le_succ _) 2 st rfl rfl (by omega) (by omega) hl)
  have N_mi := Lib.hid (fun W P (h : Wr w2.heap.size (w2.heap.size + 1) W P) (hl : P.length ≤ 1000000000) => wnumber_at w2.heap.size (w2.heap.size + 1) P (mi : Int) 1 W h (Nat.le_succ _) 1 mi rfl rfl (by omega) (by omega) hl)
  have N_sz := Lib.hid (fun W P (h : Wr w2.heap.size (w2.heap.size + 1) W P) (hl : P.length ≤ 1000000000) => wnumber_at w2.heap.size (w2.heap.size + 1) P (sz : Int) 4 W h (Nat.le_succ _) 4 sz rfl rfl (by omega) (by omega) hl)
  have N_su := Lib.hid (fun W P (h : Wr w2.heap.size (w2.heap.size + 1) W P) (hl : P.length ≤ 1000000000) => wnumber_at w2.heap.size (w2.heap.size + 1) P (su : Int) 4 W h (Nat.le_succ _) 4 su rfl rfl (by omega) (by omega) hl)
  have N_n1 := Lib.hid (fun W P (h : Wr w2.heap.size (w2.heap.size + 1) W P) (hl : P.length ≤ 1000000000) => wnumber_at w2.heap.size (w2.heap.size + 1) P (n1 : Int) 1 W h (Nat.le_succ _) 1 n1 rfl rfl (by omega) (by omega) hl)
  have N_n2 := Lib.hid (fun W P (h : Wr w2.heap.size (w2.heap.size + 1) W P) (hl : P.length ≤ 1000000000) => wnumber_at w2.heap.size (w2.heap.size + 1) P (n2 : Int) 1 W h (Nat.le_succ _) 1 n2 rfl rfl (by omega) (by omega) hl)
  have N_n3 := Lib.hid (fun W P (h : Wr w2.heap.size (w2.heap.size + 1) W P) (hl : P.length ≤ 1000000000) => wnumber_at w2.heap.size (w2.heap.size + 1) P (n3 : Int) 1 W h (Nat.le_succ _) 1 n3 rfl rfl (by omega) (by omega) hl)
  have S3 : strsV [U.data.toList, V.data.toList, R.data.toList] = [.string U, .string V, .string R] := by simp [strsV]
  have hS := HS.out
  have TX3 := Lib.hid (fun W P (h : Wr w2.heap.size (w2.heap.size + 1) W P) (hl : P.length ≤ 100000000) => wtexts_any w2.heap.size (w2.heap.size + 1) P (some ⟨W.heap.size, 0, none⟩) 3 3 [U.data.toList, V.data.toList, R.data.toList] (W.alloc (.cells #[.string U, .string V, .string R] 9)) (h.below ((Below.refl _ _).alloc (Nat.le_refl _) _)) (Nat.le_succ _)
    (fun W' _ ht => by rw [S3]; exact (ht.row (RowAt.new W 9 [.string U, .string V, .string R]) (by decide) (by decide)).slice (size := 1) (n := 3) (c := 3) rfl (Nat.le_refl _) (by simp [maxLen])) (by omega) (by simp only [List.flatMap_cons, List.flatMap_nil, List.length_append, textB_size, data_len, List.length_nil]; omega))
  have TXN := Lib.hid (fun W P (hB : Below w2.heap.size w2 W) (h : Wr w2.heap.size (w2.heap.size + 1) W P) (hl : P.length + (L.flatMap textB).length ≤ 1000000000) => wtexts_any w2.heap.size (w2.heap.size + 1) P A1 n1 c1 L W h (Nat.le_succ _) (fun W' hW _ => KI1.out W' (hB.trans hW)) hn1 hl)
  clear S3 hS Hin1 Hin2 Hin3 KC1
  go_wp2_with (first
    | (go_at_call 34; (with_reducible refine (N_st.out _ _ H0.out (by omega)).mono ?_); rintro e v1_ ⟨rfl, hw1, hb1, ht1⟩; have B1 := Lib.hid (B0.out.trans hb1); obtain ⟨P1, hP1⟩ : ∃ P, [69] ++ numB 2 st = P := ⟨_, rfl⟩; rw [hP1] at hw1; have H1 := Lib.hid hw1; have hp1 : P1.length ≤ 3 := (by rw [← hP1, List.length_append, numB_length]; omega); have HP1 := Lib.hid hP1; clear hw1 hb1 ht1 hP1; clear e5; have e7 := (KC.out _ B1.out).cell (j := 7) rfl; have tok1 : True := trivial)
    | (have _t := tok1; go_at_call 34; (with_reducible refine (N_mi.out _ _ H1.out (by omega)).mono ?_); rintro e v2_ ⟨rfl, hw2, hb2, ht2⟩; have B2 := Lib.hid (B1.out.trans hb2); obtain ⟨P2, hP2⟩ : ∃ P, P1 ++ numB 1 mi = P := ⟨_, rfl⟩; rw [hP2] at hw2; have H2 := Lib.hid hw2; have hp2 : P2.length ≤ 4 := (by rw [← hP2, List.length_append, numB_length]; omega); have HP2 := Lib.hid hP2; clear hw2 hb2 ht2 hP2; clear e7; have e9 := (KC.out _ B2.out).cell (j := 9) rfl; have e10 := (KC.out _ B2.out).cell (j := 10) rfl; have e11 := (KC.out _ B2.out).cell (j := 11) rfl; have tok2 : True := trivial))
  have B2x : Hid (Below w2.heap.size w2 (v2_.alloc (.cells #[.int .i64 as_, .int .i64 go_, .int .i64 or_] 3))) := Lib.hid (B2.out.alloc B2.out.size _)
  have H2x : Hid (Wr w2.heap.size (w2.heap.size + 1) (v2_.alloc (.cells #[.int .i64 as_, .int .i64 go_, .int .i64 or_] 3)) P2) := Lib.hid (H2.out.below ((Below.refl _ _).alloc (Nat.le_refl _) _))
  have R2x : Hid (RowAt (v2_.alloc (.cells #[.int .i64 as_, .int .i64 go_, .int .i64 or_] 3)) v2_.heap.size 3 ([as_, go_, or_].map fun n : Nat => Value.int .i64 n)) := Lib.hid (RowAt.new v2_ 3 [.int .i64 as_, .int .i64 go_, .int .i64 or_])
  go_loopw [37] (fun i wr => ∃ (k : Nat) (O : List UInt8), i = .int .i64 k ∧ k ≤ 3 ∧ O = P2 ++ ([as_, go_, or_].take k).flatMap (numB 8) ∧ Wr w2.heap.size (w2.heap.size + 1) wr O ∧ Below w2.heap.size w2 wr ∧ RowAt wr v2_.heap.size 3 ([as_, go_, or_].map fun n : Nat => Value.int .i64 n)) (fun i _ => 3 - (intOf i).toNat)
  case atStart => exact ⟨0, _, rfl, by omega, (List.append_nil _).symm, H2x.out, B2x.out, R2x.out⟩
  case round =>
    obtain ⟨k, P3, rfl, hk, hP, hw, hbel, hrow⟩ := hrel
    have HP3 := Lib.hid hP
    have H3 := Lib.hid hw
    have B3 := Lib.hid hbel
    have R3 := Lib.hid hrow
    have tok3 : True := trivial
    have hp3 : P3.length ≤ 28 := by
      have hcs : k = 0 ∨ k = 1 ∨ k = 2 ∨ k = 3 := by omega
      have := congrArg List.length hP
      rw [List.length_append] at this
      rcases hcs with h | h | h | h <;> (rw [h] at this; simp [numB_length] at this; omega)
    clear hP hw hbel hrow
    by_cases hlt : k < 3
    · obtain ⟨x, hx⟩ : ∃ x, [as_, go_, or_][k]? = some x := ⟨_, List.getElem?_eq_getElem (by simpa using hlt)⟩
      have hxl : x ≤ 9223372036854775807 := by
        have hm := List.mem_of_getElem? hx
        simp only [List.mem_cons, List.not_mem_nil, or_false] at hm
        rcases hm with rfl | rfl | rfl <;> assumption
      have c0 := R3.out.cell (j := k) (u := .int .i64 x) (by rw [List.getElem?_map, hx]; rfl)
      have N_x := Lib.hid (fun W P (h : Wr w2.heap.size (w2.heap.size + 1) W P) (hl : P.length ≤ 1000000000) => wnumber_at w2.heap.size (w2.heap.size + 1) P (x : Int) 8 W h (Nat.le_succ _) 8 x rfl rfl (by omega) (by omega) hl)
      have HN := Lib.hid (flat_snoc (numB 8) hx)
      clear hx
      go_wp2_with (first
        | (go_at_call 34; (with_reducible refine (N_x.out _ _ H3.out (by omega)).mono ?_); rintro e v4_ ⟨rfl, hw, hb, ht⟩; have H4 := Lib.hid hw; have B4 := Lib.hid (B3.out.trans hb); have R4 := Lib.hid (ht.row R3.out (by decide) (by decide)); clear hw hb ht))
      go_roundw
      case rel => exact ⟨k + 1, _, by go_num, by omega, by rw [HN.out, HP3.out, List.append_assoc], H4.out, B4.out, R4.out⟩
      case measure => simp [intOf]; omega
    · have hk3 : k = 3 := by omega
      have HP3 : Hid (P3 = P2 ++ (numB 8 as_ ++ (numB 8 go_ ++ numB 8 or_))) := Lib.hid (by rw [HP3.out, hk3]; simp)
      clear hk3
      have e12 := (KC.out _ B3.out).cell (j := 12) rfl
      go_wp2_with (first
        | (have _t := tok3; go_at_call 34; (with_reducible refine (N_sz.out _ _ H3.out (by omega)).mono ?_); rintro e v4_ ⟨rfl, hw4, hb4, ht4⟩; have B4 := Lib.hid (B3.out.trans hb4); obtain ⟨P4, hP4⟩ : ∃ P, P3 ++ numB 4 sz = P := ⟨_, rfl⟩; rw [hP4] at hw4; have H4 := Lib.hid hw4; have hp4 : P4.length ≤ 32 := (by rw [← hP4, List.length_append, numB_length]; omega); have HP4 := Lib.hid hP4; clear hw4 hb4 ht4 hP4; clear e12; have e13 := (KC.out _ B4.out).cell (j := 13) rfl; have tok4 : True := trivial)
        | (have _t := tok4; go_at_call 34; (with_reducible refine (N_su.out _ _ H4.out (by omega)).mono ?_); rintro e v5_ ⟨rfl, hw5, hb5, ht5⟩; have B5 := Lib.hid (B4.out.trans hb5); obtain ⟨P5, hP5⟩ : ∃ P, P4 ++ numB 4 su = P := ⟨_, rfl⟩; rw [hP5] at hw5; have H5 := Lib.hid hw5; have hp5 : P5.length ≤ 36 := (by rw [← hP5, List.length_append, numB_length]; omega); have HP5 := Lib.hid hP5; clear hw5 hb5 ht5 hP5; clear e13; have e0 := (KC.out _ B5.out).cell (j := 0) rfl; have e2 := (KC.out _ B5.out).cell (j := 2) rfl; have e6 := (KC.out _ B5.out).cell (j := 6) rfl; have tok5 : True := trivial)
        | (have _t := tok5; go_at_call 35; (with_reducible refine (TX3.out _ _ H5.out (by omega)).mono ?_); rintro e v6_ ⟨rfl, hw6, hb6, ht6⟩; have B6 := Lib.hid (B5.out.trans (((Below.refl _ _).alloc (B5.out.size) _).trans hb6)); obtain ⟨P6, hP6⟩ : ∃ P, P5 ++ [U.data.toList, V.data.toList, R.data.toList].flatMap textB = P := ⟨_, rfl⟩; rw [hP6] at hw6; have H6 := Lib.hid hw6; have HQ6 : Hid (P6.length ≤ 36 + (U.size + V.size + R.size + 6)) := Lib.hid (by rw [← hP6, List.length_append]; simp only [List.flatMap_cons, List.flatMap_nil, List.length_append, textB_size, data_len, List.length_nil]; omega); have hp6 : P6.length ≤ 500000042 := (by have := HS.out; rw [← hP6, List.length_append]; simp only [List.flatMap_cons, List.flatMap_nil, List.length_append, textB_size, data_len, List.length_nil]; omega); have HP6 := Lib.hid hP6; clear hw6 hb6 ht6 hP6; clear e0 e2 e6; have e1 := (KC.out _ B6.out).cell (j := 1) rfl; have tok6 : True := trivial)
        | (have _t := tok6; go_at_call 34; (with_reducible refine (N_n1.out _ _ H6.out (by omega)).mono ?_); rintro e v7_ ⟨rfl, hw7, hb7, ht7⟩; have B7 := Lib.hid (B6.out.trans hb7); obtain ⟨P7, hP7⟩ : ∃ P, P6 ++ numB 1 n1 = P := ⟨_, rfl⟩; rw [hP7] at hw7; have H7 := Lib.hid hw7; have HQ7 : Hid (P7.length ≤ 37 + (U.size + V.size + R.size + 6)) := Lib.hid (by have := HQ6.out; rw [← hP7, List.length_append, numB_length]; omega); have hp7 : P7.length ≤ 500000043 := (by rw [← hP7, List.length_append, numB_length]; omega); have HP7 := Lib.hid hP7; clear hw7 hb7 ht7 hP7; clear e1; have e1 := (KC.out _ B7.out).cell (j := 1) rfl; have tok7 : True := trivial)
        | (have _t := tok7; go_at_call 35; (with_reducible refine (TXN.out _ _ B7.out H7.out (by have := HS.out; have := HQ7.out; omega)).mono ?_); rintro e v8_ ⟨rfl, hw8, hb8, ht8⟩; have B8 := Lib.hid (B7.out.trans hb8); obtain ⟨P8, hP8⟩ : ∃ P, P7 ++ L.flatMap textB = P := ⟨_, rfl⟩; rw [hP8] at hw8; have H8 := Lib.hid hw8; have HQ8 : Hid (P8.length ≤ 37 + (U.size + V.size + R.size + 6) + (L.flatMap textB).length) := Lib.hid (by have := HQ7.out; rw [← hP8, List.length_append]; omega); have hp8 : P8.length ≤ 600000000 := (by have := HS.out; have := HQ7.out; rw [← hP8, List.length_append]; omega); have HP8 := Lib.hid hP8; clear hw8 hb8 ht8 hP8; clear e1; have e8 := (KC.out _ B8.out).cell (j := 8) rfl; have tok8 : True := trivial)
        | (have _t := tok8; go_at_call 34; (with_reducible refine (N_n2.out _ _ H8.out (by omega)).mono ?_); rintro e v9_ ⟨rfl, hw9, hb9, ht9⟩; have B9 := Lib.hid (B8.out.trans hb9); obtain ⟨P9, hP9⟩ : ∃ P, P8 ++ numB 1 n2 = P := ⟨_, rfl⟩; rw [hP9] at hw9; have H9 := Lib.hid hw9; have HQ9 : Hid (P9.length ≤ 38 + (U.size + V.size + R.size + 6) + (L.flatMap textB).length) := Lib.hid (by have := HQ8.out; rw [← hP9, List.length_append, numB_length]; omega); have hp9 : P9.length ≤ 600000001 := (by rw [← hP9, List.length_append, numB_length]; omega); have HP9 := Lib.hid hP9; clear hw9 hb9 ht9 hP9; clear e8; have e8 := (KC.out _ B9.out).cell (j := 8) rfl; have tok9 : True := trivial))
      go_loopw [81] (fun i wr => ∃ (k : Nat) (O : List UInt8), i = .int .i64 k ∧ k ≤ n2 ∧ O = P9 ++ (F.take k).flatMap fieldB ∧ Wr w2.heap.size (w2.heap.size + 1) wr O ∧ Below w2.heap.size w2 wr) (fun i _ => n2 - (intOf i).toNat)
      case atStart => exact ⟨0, _, rfl, by omega, (List.append_nil _).symm, H9.out, B9.out⟩
      case round =>
        obtain ⟨k, P10, rfl, hk, hP, hw, hbel⟩ := hrel
        have HP10 := Lib.hid hP
        have H10 := Lib.hid hw
        have B10 := Lib.hid hbel
        have tok10 : True := trivial
        have hpl := congrArg List.length hP
        rw [List.length_append] at hpl
        clear hP hw hbel
        by_cases hlt : k < n2
        · obtain ⟨f, hsk⟩ : ∃ s, F[k]? = some s := ⟨_, List.getElem?_eq_getElem (by rw [HL2.out]; exact hlt)⟩
          obtain ⟨b, off, rfl, hb, c0, c1⟩ := fld_at (KI2.out _ B10.out) hsk
          have hsn := flat_snoc fieldB hsk
          have hft := flat_take_le fieldB F (k + 1)
          rw [hsn, List.length_append, fieldB, List.length_append, textB_size, textB_size] at hft
          have hS := HS.out
          have S2 : strsV [f.1, f.2] = [.string ⟨f.1.toArray⟩, .string ⟨f.2.toArray⟩] := rfl
          have hz : P10.length + ([f.1, f.2].flatMap textB).length ≤ 1000000000 := by
            simp only [List.flatMap_cons, List.flatMap_nil, List.length_append, textB_size, List.length_nil]
            have := HQ9.out
            omega
          obtain ⟨Sa, hSa⟩ : ∃ S : ByteArray, (⟨f.1.toArray⟩ : ByteArray) = S := ⟨_, rfl⟩
          obtain ⟨Sb, hSb⟩ : ∃ S : ByteArray, (⟨f.2.toArray⟩ : ByteArray) = S := ⟨_, rfl⟩
          rw [hSa] at c0 S2
          rw [hSb] at c1 S2
          have TX2 := Lib.hid (wtexts_any w2.heap.size (w2.heap.size + 1) P10 (some ⟨wr.heap.size + 1, 0, none⟩) 2 2 [f.1, f.2] ((wr.alloc (.cells #[.string Sa, .string Sb] 58)).alloc (.cells #[.string Sa, .string Sb] 9)) (H10.out.below (((Below.refl _ _).alloc (Nat.le_refl _) _).alloc (by simp) _)) (Nat.le_succ _)
        (fun W' _ ht => by
          have hr := RowAt.new (wr.alloc (.cells #[.string Sa, .string Sb] 58)) 9 [.string Sa, .string Sb]
          rw [World.size_alloc] at hr
          rw [S2]; exact (ht.row hr (by decide) (by decide)).slice (size := 1) (n := 2) (c := 2) rfl (Nat.le_refl _) (by simp [maxLen])) (by omega) hz)
          have HN : Hid (P9 ++ (F.take (k + 1)).flatMap fieldB = P10 ++ [f.1, f.2].flatMap textB) := Lib.hid (by rw [hsn, HP10.out]; simp [fieldB])
          have hBw := B10.out.size
          clear hsn hft hS S2 hSa hSb hsk hz hpl
          go_wp2_with (first
            | (go_at_call 35; (with_reducible refine TX2.out.mono ?_); rintro e v11_ ⟨rfl, hw, hb, ht⟩; have H11 := Lib.hid hw; have B11 := Lib.hid (B10.out.trans ((((Below.refl _ _).alloc hBw _).alloc (by simp; omega) _).trans hb)); clear hw hb ht))
          go_roundw
          case rel => exact ⟨k + 1, _, by go_num, by omega, by rw [HN.out], H11.out, B11.out⟩
          case measure => simp [intOf]; omega
        · obtain rfl : n2 = k := by omega
          rw [List.take_of_length_le (by rw [HL2.out]; exact Nat.le_refl _)] at HP10 hpl
          have hp10 : P10.length ≤ 700000000 := by have := HS.out; have := HQ9.out; omega
          have e14 := (KC.out _ B10.out).cell (j := 14) rfl
          clear hpl
          go_wp2_with (first
            | (have _t := tok10; go_at_call 34; (with_reducible refine (N_n3.out _ _ H10.out (by omega)).mono ?_); rintro e v11_ ⟨rfl, hw11, hb11, ht11⟩; have B11 := Lib.hid (B10.out.trans hb11); obtain ⟨P11, hP11⟩ : ∃ P, P10 ++ numB 1 n3 = P := ⟨_, rfl⟩; rw [hP11] at hw11; have H11 := Lib.hid hw11; have hp11 : P11.length ≤ 700000001 := (by rw [← hP11, List.length_append, numB_length]; omega); have HP11 := Lib.hid hP11; clear hw11 hb11 ht11 hP11; clear e14; have e14 := (KC.out _ B11.out).cell (j := 14) rfl; have tok11 : True := trivial))
          go_loopw [101] (fun i wr => ∃ (k : Nat) (O : List UInt8), i = .int .i64 k ∧ k ≤ n3 ∧ O = P11 ++ (X.take k).flatMap extB ∧ Wr w2.heap.size (w2.heap.size + 1) wr O ∧ Below w2.heap.size w2 wr) (fun i _ => n3 - (intOf i).toNat)
          case atStart => exact ⟨0, _, rfl, by omega, (List.append_nil _).symm, H11.out, B11.out⟩
          case round =>
            obtain ⟨k, P12, rfl, hk, hP, hw, hbel⟩ := hrel
            have HP12 := Lib.hid hP
            have H12 := Lib.hid hw
            have B12 := Lib.hid hbel
            have tok12 : True := trivial
            have hpl := congrArg List.length hP
            rw [List.length_append] at hpl
            have hXk := hXl.out k
            have hp12 : P12.length ≤ 800000000 := by omega
            clear hP hw hbel hpl hXk
            by_cases hlt : k < n3
            · obtain ⟨x, hsk⟩ : ∃ s, X[k]? = some s := ⟨_, List.getElem?_eq_getElem (by rw [HL3.out]; exact hlt)⟩
              obtain ⟨b, off, rfl, hb, c0, c1⟩ := ext_at (KI3.out _ B12.out) hsk
              have hsn := flat_snoc extB hsk
              obtain ⟨h1, h2, h3, h4⟩ := HX.out x (List.mem_of_getElem? hsk)
              obtain ⟨p, hp⟩ := Int.eq_ofNat_of_zero_le h1
              obtain ⟨q, hq⟩ := Int.eq_ofNat_of_zero_le h3
              rw [hp] at c0
              rw [hq] at c1
              have N_p := Lib.hid (fun W P (h : Wr w2.heap.size (w2.heap.size + 1) W P) (hl : P.length ≤ 1000000000) => wnumber_at w2.heap.size (w2.heap.size + 1) P (p : Int) 4 W h (Nat.le_succ _) 4 p rfl rfl (by omega) (by omega) hl)
              have N_q := Lib.hid (fun W P (h : Wr w2.heap.size (w2.heap.size + 1) W P) (hl : P.length ≤ 1000000000) => wnumber_at w2.heap.size (w2.heap.size + 1) P (q : Int) 4 W h (Nat.le_succ _) 4 q rfl rfl (by omega) (by omega) hl)
              have HN : Hid (P11 ++ (X.take (k + 1)).flatMap extB = (P12 ++ numB 4 p) ++ numB 4 q) := Lib.hid (by rw [hsn, HP12.out]; simp [extB, hp, hq])
              have hBw := B12.out.size
              have HA : Hid (Wr w2.heap.size (w2.heap.size + 1) (wr.alloc (.cells #[.int .i64 p, .int .i64 q] 60)) P12) := Lib.hid (H12.out.below ((Below.refl _ _).alloc (Nat.le_refl _) _))
              have BA : Hid (Below w2.heap.size w2 (wr.alloc (.cells #[.int .i64 p, .int .i64 q] 60))) := Lib.hid (B12.out.alloc hBw _)
              have RA := Lib.hid (RowAt.new wr 60 [.int .i64 p, .int .i64 q])
              clear hsn hsk h1 h2 h3 h4 hp hq
              go_wp2_with (first
                | (go_at_call 34; (with_reducible refine (N_p.out _ _ HA.out (by omega)).mono ?_); rintro e v13_ ⟨rfl, hw, hb, ht⟩; have H13 := Lib.hid hw; have B13 := Lib.hid (BA.out.trans hb); have f1 := (ht.row RA.out (by decide) (by decide)).cell (j := 1) rfl; have hp13 : (P12 ++ numB 4 p).length ≤ 800000004 := (by rw [List.length_append, numB_length]; omega); clear hw hb ht)
                | (go_at_call 34; (with_reducible refine (N_q.out _ _ H13.out (by omega)).mono ?_); rintro e v14_ ⟨rfl, hw, hb, ht⟩; have H14 := Lib.hid hw; have B14 := Lib.hid (B13.out.trans hb); clear hw hb ht))
              go_roundw
              case rel => exact ⟨k + 1, _, by go_num, by omega, by rw [HN.out], H14.out, B14.out⟩
              case measure => simp [intOf]; omega
            · obtain rfl : n3 = k := by omega
              rw [List.take_of_length_le (by rw [HL3.out]; exact Nat.le_refl _)] at HP12
              have e : TT = P12 := by
                rw [HT.out, HP12.out, ← HP11.out, HP10.out, ← HP9.out, ← HP8.out, ← HP7.out, ← HP6.out, ← HP5.out, ← HP4.out, HP3.out, ← HP2.out, ← HP1.out]
                simp only [List.append_assoc, List.flatMap_cons, List.flatMap_nil, List.append_nil]
              obtain ⟨v, r, ho⟩ := H12.out
              have c0 := r.cell (j := 0) rfl
              obtain ⟨Az, cz, rfl, _⟩ := own_slice ho
              have HO := Lib.hid ho
              have HE := Lib.hid e
              have hBZ : Hid (Below w.heap.size w wr) := Lib.hid (BW.out.trans ((D0.out.trans (B12.out.mono hgt)).mono BW.out.size))
              obtain ⟨m, hm⟩ : ∃ m, P12.length = m := ⟨_, rfl⟩
              rw [hm] at c0 HO
              have HM := Lib.hid hm
              clear r ho e hm
              by_cases h8 : 8000 < m
              · have h8I : (8000 : Int) < (m : Int) := by omega
                go_wp2
                go_ret2
                refine ⟨⟨fun _ => rfl, fun h => ?_⟩, hBZ.out⟩
                rw [HE.out, HM.out] at h
                omega
              · have h8I : ¬ (8000 : Int) < (m : Int) := by omega
                go_wp2
                go_ret2
                refine ⟨⟨fun h => ?_, fun _ => ⟨_, rfl, ?_⟩⟩, hBZ.out⟩
                · rw [HE.out, HM.out] at h
                  omega
                · rw [HE.out, HM.out]
                  exact ⟨HO.out.1, HO.out.2.imp id (fun ⟨g, cap, cur, h1, h2, h3⟩ => ⟨g, cap, cur, h1, Nat.le_trans (Nat.le_trans BW.out.size hgt) h2, h3⟩)⟩
end Go.Proofs.YtkodeeneljkgeaaDoor
