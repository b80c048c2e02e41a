/- Mz: several texts, one behind the other. -/
import Derived.Test.YtniiadhhefgmcaaGreatDoorLz
import Derived.Test.YtniiadhhefgmcaaGreatDoorFq
import Derived.Test.YtniiadhhefgmcaaGreatDoorOct4
import Derived.Test.YtniiadhhefgmcaaGreatDoorOg
import Derived.Test.YtniiadhhefgmcaaGreatDoorMs
import Derived.Test.YtniiadhhefgmcaaGreatDoorShelf2
import Derived.Test.YtniiadhhefgmcaaGreatDoorKt
import Derived.Lib.SlicesCompact
import Derived.Laws.OwnMore
/- Layer 8: how long what a list is cut into can be (plain); a response without a body, has a message a field, by the code. Condition: texts within 10^9 octets. -/
namespace IH
theorem splitF_mem : ∀ (f : Nat) (l x : List UInt8), x ∈ splitF f l → x.length ≤ l.length
  | 0, l, x, h => by simp [splitF] at h
  | f + 1, l, x, h => by
    unfold splitF at h
    split at h
    · cases h
    · rcases List.mem_append.1 h with h | h
      · unfold emit at h
        split at h
        · cases h
        · rw [List.mem_singleton] at h
          subst h
          have := trim_length (l.take (comma false false l))
          rw [List.length_take] at this
          omega
      · have := splitF_mem f _ _ h
        rw [List.length_drop] at this
        omega
theorem mem_sum : ∀ (L : List (List UInt8)) (x : List UInt8), x ∈ L → x.length ≤ (L.map List.length).sum
  | [], x, h => by cases h
  | y :: L, x, h => by
    rw [List.map_cons, List.sum_cons]
    rcases List.mem_cons.1 h with rfl | h
    · omega
    · have := mem_sum L x h; omega
theorem splitL_mem {L : List (List UInt8)} {x : List UInt8} (h : x ∈ splitL L) : x.length ≤ (L.map List.length).sum := by
  unfold splitL at h
  obtain ⟨y, hy, hx⟩ := List.mem_flatMap.1 h
  exact Nat.le_trans (splitF_mem _ _ _ hx) (mem_sum L y hy)
theorem get_sum (s : List UInt8) : ∀ L : List Fld, ((getL L s).map List.length).sum + 2 ≤ sizeL L
  | [] => by simp [getL, sizeL]
  | f :: L => by
    have ih := get_sum s L
    unfold getL sizeL at *
    rw [List.filter_cons]
    split
    · simp only [List.map_cons, List.sum_cons]; omega
    · simp only [List.map_cons, List.sum_cons]; omega
end IH
namespace Go.Proofs.YtniiadhhefgmcaaGreatDoor
open Go.RowKit IH
set_option maxRecDepth 100000
structure FldB (L : List Fld) (n : Nat) : Prop where
  n : n ≤ 1000000
  f : smallF 1000000000 L
  z : sizeL L ≤ 1000000000
theorem FldB.get {L : List Fld} {n : Nat} (h : FldB L n) (s : List UInt8) : total (getL L s) ≤ 1000000000 := by
  have h1 := get_sum s L
  have h2 := h.z
  unfold total
  omega
theorem FldB.split {L : List Fld} {n : Nat} (h : FldB L n) {s x : List UInt8} (hx : x ∈ splitL (getL L s)) : x.length ≤ 1000000000 := by
  have h1 := splitL_mem hx
  have h2 := h.get s
  unfold total at h2
  omega
set_option maxHeartbeats 4000000 in
theorem mbare_any (st : Int) (M : ByteArray) (w : World) :
    Calls Tryz.prog 109 #[.int .i64 st, .string M] w fun e w' => e = .returned (.bool (bareM st M.data.toList)) ∧ w = w' := by
  have q0 : (M.data.toList == headN) = (M.toList == [72, 69, 65, 68]) := by rw [ByteArray.toList_eq]; rfl
  have q1 : decide (st = 204) = (st == 204) := by rw [Bool.eq_iff_iff]; simp
  have q2 : decide (st = 304) = (st == 304) := by rw [Bool.eq_iff_iff]; simp
  unfold bareM
  rw [q0, q1, q2]
  clear q0 q1 q2
  obtain ⟨b0, h0⟩ : ∃ b, (M.toList == [72, 69, 65, 68]) = b := ⟨_, rfl⟩
  obtain ⟨b2, h2⟩ : ∃ b, (st == 204) = b := ⟨_, rfl⟩
  obtain ⟨b3, h3⟩ : ∃ b, (st == 304) = b := ⟨_, rfl⟩
  rw [h0, h2, h3]
  by_cases h1 : st < 200
  all_goals
    cases b0 <;> cases b2
    all_goals
      go_enter Tryz.func109, Tryz.ntmps109
      go_wp2
      go_ret
      exact ⟨ret_bool (by first | (simp [h1]; done) | (simp; intro h; omega)), rfl⟩
set_option maxHeartbeats 4000000 in
theorem mhas_any (C : List Value) (A : Option Addr) (n c : Nat) (L : List Fld) (h5 : C[5]? = some (.slice A n c)) (S : ByteArray) (w : World) (hin : SliceIn w w.heap.size 2 A n c (fldsV L)) (hb : FldB L n) (hz : S.size ≤ 1000000000) :
    Calls Tryz.prog 110 #[.agg C.toArray, .string S] w fun e w' => e = .returned (.bool (decide (getL L S.data.toList ≠ []))) ∧ Below w.heap.size w w' := by
  obtain ⟨w1, hw1⟩ : ∃ W, w.alloc (.cells C.toArray 27) = W := ⟨_, rfl⟩
  have B1 : Below w.heap.size w w1 := by rw [← hw1]; exact (Below.refl _ _).alloc (Nat.le_refl _) _
  have R1 : RowAt w1 w.heap.size 27 C := by rw [← hw1]; exact RowAt.new w 27 C
  have c5 := R1.cell (j := 5) h5
  have G := Get_any A n c L S w1 ((hin.below B1).more B1.size) hb.n hb.f hz
  obtain ⟨X, hX⟩ : ∃ X, getL L S.data.toList = X := ⟨_, rfl⟩
  rw [hX] at G ⊢
  have HB := Lib.hid B1
  replace G := Lib.hid G
  have hne : decide (X ≠ []) = decide (0 < X.length) := by
    rw [decide_eq_decide]
    cases X with
    | nil => simp
    | cons a r => simp
  rw [hne]
  clear hin hb hX B1 R1 h5 hne
  go_enter Tryz.func110, Tryz.ntmps110
  go_wp2_with (go_at_call 95; (with_reducible refine G.out.mono ?_); rintro x2 w2 ⟨v, rfl, ho, hb2⟩; obtain ⟨A2, c2, rfl, _⟩ := own_slice ho; have B2 := Lib.hid (below_step HB.out hb2); clear hb2 ho)
  go_ret
  exact ⟨ret_bool (by simp), B2.out⟩
end Go.Proofs.YtniiadhhefgmcaaGreatDoor

/- Layer 8: how a message is framed, by the code. Condition: its fields' own (FldB). Printed by mkmes2.py. -/
namespace IH
def codedR (mi : Int) (L : List Fld) : Int × Int := if mi = 0 ∨ getL L clN ≠ [] ∨ (splitL (getL L teN)).length ≠ 1 ∨ (splitL (getL L teN)).map lower ≠ [chunkedN] then (0, 10) else (2, 0)
def sizedR (L : List Fld) : Int × Int × Int := match splitL (getL L clN) with
  | [] => (0, 0, 10)
  | x :: l => if (l.all fun y => y == x) = false then (0, 0, 10) else if (numR 10 1048576 x).2 ≠ 0 then (0, 0, (numR 10 1048576 x).2) else (1, (numR 10 1048576 x).1, 0)
theorem framing_eq (s : Sta) (L : List Fld) (m : List UInt8) : framingL s L m = if s.status ≠ 0 ∧ bareM s.status m = true then (0, 0, 0) else if getL L teN ≠ [] then ((codedR s.minor L).1, 0, (codedR s.minor L).2) else if getL L clN ≠ [] then sizedR L else if s.status = 0 then (0, 0, 0) else (0, 0, 10) := by
  unfold framingL codedR sizedR
  split
  · rfl
  · split
    · split <;> rfl
    · rfl
open Go
theorem compact_one {x : List UInt8} {l : List (List UInt8)} : (Lib.compact (x :: l)).length ≤ 1 ↔ ∀ y ∈ l, y = x := by
  obtain ⟨d, hd⟩ : ∃ d, (x :: l).toArray = d := ⟨_, rfl⟩
  have hg : ∀ j, j ≤ l.length → ∃ h : j < (x :: l).length, d[j]! = (x :: l)[j] := fun j hj => by
    have h : j < (x :: l).length := by rw [List.length_cons]; omega
    refine ⟨h, ?_⟩
    rw [← hd]
    have h2 : j < (x :: l).toArray.size := by simpa using h
    rw [getElem!_pos (x :: l).toArray j h2]
    simp
  have hlen : (Lib.compact (x :: l)).length = 1 + ((List.range l.length).filter (fun j => Lib.keeps d (j + 1))).length := by
    unfold Lib.compact Lib.compactUpTo
    rw [hd, List.length_map, List.length_cons, List.range_succ_eq_map, List.filter_cons, if_pos (Lib.keeps_lt_one _ 0 (by omega)), List.length_cons, List.filter_map, List.length_map]
    rw [Nat.add_comm]
    rfl
  have hiff : (Lib.compact (x :: l)).length ≤ 1 ↔ ∀ j, j < l.length → d[j + 1]! = d[j]! := by
    rw [hlen]
    constructor
    · intro h j hj
      have h0 : (List.range l.length).filter (fun j => Lib.keeps d (j + 1)) = [] := List.eq_nil_of_length_eq_zero (by omega)
      have := List.filter_eq_nil_iff.1 h0 j (List.mem_range.2 hj)
      simpa [Lib.keeps] using this
    · intro h
      have h0 : (List.range l.length).filter (fun j => Lib.keeps d (j + 1)) = [] := List.filter_eq_nil_iff.2 (fun j hj => by
        have := h j (List.mem_range.1 hj)
        simp [Lib.keeps, this])
      rw [h0]
      simp
  rw [hiff]
  constructor
  · intro h
    have key : ∀ j, j ≤ l.length → d[j]! = x := by
      intro j
      induction j with
      | zero => intro _; obtain ⟨_, e⟩ := hg 0 (by omega); rw [e]; rfl
      | succ j ih => intro hj; rw [h j (by omega), ih (by omega)]
    intro y hy
    obtain ⟨j, hj, rfl⟩ := List.mem_iff_getElem.1 hy
    obtain ⟨_, e⟩ := hg (j + 1) (by omega)
    have := key (j + 1) (by omega)
    rw [e] at this
    simpa using this
  · intro h j hj
    have key : ∀ j, j ≤ l.length → d[j]! = x := by
      intro j hj
      obtain ⟨hl, e⟩ := hg j hj
      rw [e]
      cases j with
      | zero => rfl
      | succ j =>
        rw [List.getElem_cons_succ]
        exact h _ (List.getElem_mem _)
    rw [key (j + 1) (by omega), key j (by omega)]
end IH
namespace Go.Proofs.YtniiadhhefgmcaaGreatDoor
open Go.RowKit IH
set_option maxRecDepth 100000
theorem str_one {W : World} {A : Option Addr} {c B : Nat} {x : List UInt8} (h : SliceIn W B 1 A 1 c (strsV [x])) : ∃ b o, A = some ⟨b, o, none⟩ ∧ b < B ∧ W.cell? ⟨b, o, none⟩ = some (.string ⟨x.toArray⟩) := by
  obtain ⟨b, o, e, hb, hc⟩ := h.2.2.2 (by omega)
  exact ⟨b, o, e, hb, hc 0 _ rfl⟩
/-- Where a list's texts lie. -/
theorem str_first {W : World} {A : Option Addr} {n c B : Nat} {x : List UInt8} {l : List (List UInt8)} (h : SliceIn W B 1 A n c (strsV (x :: l))) : ∃ b o, A = some ⟨b, o, none⟩ ∧ b < B ∧ W.cell? ⟨b, o, none⟩ = some (.string ⟨x.toArray⟩) := by
  have hn : 0 < n := by have := h.1; rw [strsV_length, List.length_cons] at this; omega
  obtain ⟨b, o, e, hb, hc⟩ := h.2.2.2 hn
  exact ⟨b, o, e, hb, hc 0 _ rfl⟩
set_option maxHeartbeats 16000000 in
theorem mcoded_any (C : List Value) (A : Option Addr) (n c : Nat) (L : List Fld) (mi : Int) (h4 : C[4]? = some (.int .i64 mi)) (h5 : C[5]? = some (.slice A n c)) (w : World) (hin : SliceIn w w.heap.size 2 A n c (fldsV L)) (hb : FldB L n) :
    Calls Tryz.prog 111 #[.agg C.toArray] w fun e w' => e = .returned (.tuple #[.int .i64 (codedR mi L).1, .int .i64 0, .int .i64 (codedR mi L).2]) ∧ Below w.heap.size w w' := by
  obtain ⟨w1, hw1⟩ : ∃ W, w.alloc (.cells C.toArray 27) = W := ⟨_, rfl⟩
  have B1 : Hid (Below w.heap.size w w1) := Lib.hid (by rw [← hw1]; exact (Below.refl _ _).alloc (Nat.le_refl _) _)
  have R1 : Hid (RowAt w1 w.heap.size 27 C) := Lib.hid (by rw [← hw1]; exact RowAt.new w 27 C)
  have GT := fun W (hW : Below w.heap.size w W) => Get_any A n c L ⟨#[116, 114, 97, 110, 115, 102, 101, 114, 45, 101, 110, 99, 111, 100, 105, 110, 103]⟩ W ((hin.below hW).more hW.size) hb.n hb.f (by decide)
  have GC := fun W (hW : Below w.heap.size w W) => Get_any A n c L ⟨#[99, 111, 110, 116, 101, 110, 116, 45, 108, 101, 110, 103, 116, 104]⟩ W ((hin.below hW).more hW.size) hb.n hb.f (by decide)
  rw [show (⟨#[116, 114, 97, 110, 115, 102, 101, 114, 45, 101, 110, 99, 111, 100, 105, 110, 103]⟩ : ByteArray).data.toList = teN from rfl] at GT
  rw [show (⟨#[99, 111, 110, 116, 101, 110, 116, 45, 108, 101, 110, 103, 116, 104]⟩ : ByteArray).data.toList = clN from rfl] at GC
  have ht := hb.get teN
  have hsp : ∀ x ∈ splitL (getL L teN), x.length ≤ 1000000000 := fun x hx => hb.split hx
  obtain ⟨R, hR⟩ : ∃ R, codedR mi L = R := ⟨_, rfl⟩
  rw [hR]
  have HR : Hid (R = if mi = 0 ∨ getL L clN ≠ [] ∨ (splitL (getL L teN)).length ≠ 1 ∨ (splitL (getL L teN)).map lower ≠ [chunkedN] then (0, 10) else (2, 0)) := Lib.hid hR.symm
  obtain ⟨X, hX⟩ : ∃ X, getL L teN = X := ⟨_, rfl⟩
  obtain ⟨Y, hY⟩ : ∃ X, getL L clN = X := ⟨_, rfl⟩
  rw [hX] at GT ht hsp HR
  rw [hY] at GC HR
  have SP := fun W A' c' (hs : SliceIn W W.heap.size 1 A' X.length c' (strsV X)) => Split_any A' X.length c' X W hs ht
  obtain ⟨Q, hQ⟩ : ∃ Q, splitL X = Q := ⟨_, rfl⟩
  rw [hQ] at SP hsp HR
  replace GT := Lib.hid GT
  replace GC := Lib.hid GC
  replace SP := Lib.hid SP
  have H4 := Lib.hid h4
  have H5 := Lib.hid h5
  have d4 := R1.out.cell (j := 4) h4
  have d5 := R1.out.cell (j := 5) h5
  clear hin hb hR hX hY hQ ht h4 h5
  have tok1 : True := trivial
  by_cases hmi : mi = 0
  · have e0 : (mi == 0) = true := by rw [beq_iff_eq]; exact hmi
    have HT : Hid (R = (0, 10)) := Lib.hid (by rw [HR.out, if_pos (.inl hmi)])
    clear hmi hsp
    go_enter Tryz.func111, Tryz.ntmps111
    go_wp2_with (first
      | (have _t := tok1; go_at_call 95; (with_reducible refine (GT.out _ B1.out).mono ?_); rintro x2 w2 ⟨v2, rfl, ho2, hb2⟩; obtain ⟨A2, c2, rfl, hs2⟩ := own_slice ho2; have B2 := Lib.hid (below_step B1.out hb2); have R2 := Lib.hid (R1.out.below hb2 R1.out.lt); have S2 := Lib.hid hs2; clear tok1 d4 d5 hb2 ho2 hs2; have tok2 : True := trivial)
      | (have _t := tok2; go_at_call 94; (with_reducible refine (SP.out _ _ _ S2.out).mono ?_); rintro x3 w3 ⟨v3, rfl, ho3, hb3⟩; obtain ⟨A3, c3, rfl, hs3⟩ := own_slice ho3; have B3 := Lib.hid (below_step B2.out hb3); have R3 := Lib.hid (R2.out.below hb3 R2.out.lt); have S3 := Lib.hid hs3; have e4 := R3.out.cell (j := 4) H4.out; have e5 := R3.out.cell (j := 5) H5.out; clear tok2 hb3 ho3 hs3; have tok3 : True := trivial))
    go_ret3
    exact ⟨by rw [HT.out]; rfl, B3.out⟩
  · have e0 : (mi == 0) = false := by rw [beq_eq_false_iff_ne]; exact hmi
    by_cases hy : Y ≠ []
    · have y0 : 0 < Y.length := List.length_pos_iff.2 hy
      have HT : Hid (R = (0, 10)) := Lib.hid (by rw [HR.out, if_pos (.inr (.inl hy))])
      clear hmi hsp hy
      go_enter Tryz.func111, Tryz.ntmps111
      go_wp2_with (first
        | (have _t := tok1; go_at_call 95; (with_reducible refine (GT.out _ B1.out).mono ?_); rintro x2 w2 ⟨v2, rfl, ho2, hb2⟩; obtain ⟨A2, c2, rfl, hs2⟩ := own_slice ho2; have B2 := Lib.hid (below_step B1.out hb2); have R2 := Lib.hid (R1.out.below hb2 R1.out.lt); have S2 := Lib.hid hs2; clear tok1 d4 d5 hb2 ho2 hs2; have tok2 : True := trivial)
        | (have _t := tok2; go_at_call 94; (with_reducible refine (SP.out _ _ _ S2.out).mono ?_); rintro x3 w3 ⟨v3, rfl, ho3, hb3⟩; obtain ⟨A3, c3, rfl, hs3⟩ := own_slice ho3; have B3 := Lib.hid (below_step B2.out hb3); have R3 := Lib.hid (R2.out.below hb3 R2.out.lt); have S3 := Lib.hid hs3; have e4 := R3.out.cell (j := 4) H4.out; have e5 := R3.out.cell (j := 5) H5.out; clear tok2 hb3 ho3 hs3; have tok3 : True := trivial)
        | (have _t := tok3; go_at_call 95; (with_reducible refine (GC.out _ B3.out).mono ?_); rintro x4 w4 ⟨v4, rfl, ho4, hb4⟩; obtain ⟨A4, c4, rfl, hs4⟩ := own_slice ho4; have B4 := Lib.hid (below_step B3.out hb4); have S4 := Lib.hid (S3.out.below hb4); clear tok3 hb4 ho4 hs4 e4 e5))
      go_ret3
      exact ⟨by rw [HT.out]; rfl, B4.out⟩
    · have y0 : ¬ 0 < Y.length := by (have h : Y = [] := by simpa using hy); rw [h]; simp
      by_cases hq : Q.length = 1
      · match Q, hq with
        | [x], _ =>
          have hx := hsp x (by simp)
          have LW := fun w => Lower_any ⟨x.toArray⟩ (by rw [size_mk]; exact hx) w
          obtain ⟨Sx, hSx⟩ : ∃ S : ByteArray, (⟨x.toArray⟩ : ByteArray) = S := ⟨_, rfl⟩
          obtain ⟨Z, hZ⟩ : ∃ S : ByteArray, (⟨(lower x).toArray⟩ : ByteArray) = S := ⟨_, rfl⟩
          have dSx : Sx.data.toList = x := by rw [← hSx]
          have q0 : (Z.toList == [99, 104, 117, 110, 107, 101, 100]) = decide (lower x = chunkedN) := by rw [lit_eq, ← hZ]; rfl
          rw [hSx, dSx, hZ] at LW
          have HSx := Lib.hid hSx
          replace LW := Lib.hid LW
          clear hx hSx hZ dSx hsp
          by_cases hl : lower x = chunkedN
          · have z0 : (Z.toList == [99, 104, 117, 110, 107, 101, 100]) = true := by rw [q0]; exact decide_eq_true hl
            have z1 : (Z.toList != [99, 104, 117, 110, 107, 101, 100]) = false := by rw [bne, z0]; rfl
            have HT : Hid (R = (2, 0)) := Lib.hid (by rw [HR.out, if_neg (by rintro (h | h | h | h); exact hmi h; exact hy h; exact h rfl; exact h (by rw [List.map_singleton, hl]))])
            clear hmi hy hl q0
            go_enter Tryz.func111, Tryz.ntmps111
            go_wp2_with (first
              | (have _t := tok1; go_at_call 95; (with_reducible refine (GT.out _ B1.out).mono ?_); rintro x2 w2 ⟨v2, rfl, ho2, hb2⟩; obtain ⟨A2, c2, rfl, hs2⟩ := own_slice ho2; have B2 := Lib.hid (below_step B1.out hb2); have R2 := Lib.hid (R1.out.below hb2 R1.out.lt); have S2 := Lib.hid hs2; clear tok1 d4 d5 hb2 ho2 hs2; have tok2 : True := trivial)
              | (have _t := tok2; go_at_call 94; (with_reducible refine (SP.out _ _ _ S2.out).mono ?_); rintro x3 w3 ⟨v3, rfl, ho3, hb3⟩; obtain ⟨A3, c3, rfl, hs3⟩ := own_slice ho3; have B3 := Lib.hid (below_step B2.out hb3); have R3 := Lib.hid (R2.out.below hb3 R2.out.lt); have S3 := Lib.hid hs3; have e4 := R3.out.cell (j := 4) H4.out; have e5 := R3.out.cell (j := 5) H5.out; clear tok2 hb3 ho3 hs3; have tok3 : True := trivial)
              | (have _t := tok3; go_at_call 95; (with_reducible refine (GC.out _ B3.out).mono ?_); rintro x4 w4 ⟨v4, rfl, ho4, hb4⟩; obtain ⟨A4, c4, rfl, hs4⟩ := own_slice ho4; have B4 := Lib.hid (below_step B3.out hb4); have S4 := Lib.hid (S3.out.below hb4); clear tok3 hb4 ho4 hs4 e4 e5; obtain ⟨bq, oq, hA3, _, hcq⟩ := str_one S4.out; subst hA3; rw [HSx.out] at hcq)
              | (go_at_call 65; (with_reducible refine (LW.out _).mono ?_); rintro x5 w5 ⟨rfl, hb5⟩; have B5 := Lib.hid (below_step B4.out hb5); clear hb5))
            go_ret3
            exact ⟨by rw [HT.out]; rfl, B5.out⟩
          · have z0 : (Z.toList == [99, 104, 117, 110, 107, 101, 100]) = false := by rw [q0]; exact decide_eq_false hl
            have z1 : (Z.toList != [99, 104, 117, 110, 107, 101, 100]) = true := by rw [bne, z0]; rfl
            have HT : Hid (R = (0, 10)) := Lib.hid (by rw [HR.out, if_pos (.inr (.inr (.inr (by rw [List.map_singleton]; intro h; exact hl (by simpa using h)))))])
            clear hmi hy hl q0
            go_enter Tryz.func111, Tryz.ntmps111
            go_wp2_with (first
              | (have _t := tok1; go_at_call 95; (with_reducible refine (GT.out _ B1.out).mono ?_); rintro x2 w2 ⟨v2, rfl, ho2, hb2⟩; obtain ⟨A2, c2, rfl, hs2⟩ := own_slice ho2; have B2 := Lib.hid (below_step B1.out hb2); have R2 := Lib.hid (R1.out.below hb2 R1.out.lt); have S2 := Lib.hid hs2; clear tok1 d4 d5 hb2 ho2 hs2; have tok2 : True := trivial)
              | (have _t := tok2; go_at_call 94; (with_reducible refine (SP.out _ _ _ S2.out).mono ?_); rintro x3 w3 ⟨v3, rfl, ho3, hb3⟩; obtain ⟨A3, c3, rfl, hs3⟩ := own_slice ho3; have B3 := Lib.hid (below_step B2.out hb3); have R3 := Lib.hid (R2.out.below hb3 R2.out.lt); have S3 := Lib.hid hs3; have e4 := R3.out.cell (j := 4) H4.out; have e5 := R3.out.cell (j := 5) H5.out; clear tok2 hb3 ho3 hs3; have tok3 : True := trivial)
              | (have _t := tok3; go_at_call 95; (with_reducible refine (GC.out _ B3.out).mono ?_); rintro x4 w4 ⟨v4, rfl, ho4, hb4⟩; obtain ⟨A4, c4, rfl, hs4⟩ := own_slice ho4; have B4 := Lib.hid (below_step B3.out hb4); have S4 := Lib.hid (S3.out.below hb4); clear tok3 hb4 ho4 hs4 e4 e5; obtain ⟨bq, oq, hA3, _, hcq⟩ := str_one S4.out; subst hA3; rw [HSx.out] at hcq)
              | (go_at_call 65; (with_reducible refine (LW.out _).mono ?_); rintro x5 w5 ⟨rfl, hb5⟩; have B5 := Lib.hid (below_step B4.out hb5); clear hb5))
            go_ret3
            exact ⟨by rw [HT.out]; rfl, B5.out⟩
      · have q1 : ((Q.length : Int) != 1) = true := by rw [bne_iff_ne]; omega
        have HT : Hid (R = (0, 10)) := Lib.hid (by rw [HR.out, if_pos (.inr (.inr (.inl hq)))])
        obtain ⟨ql, hql⟩ : ∃ k, Q.length = k := ⟨_, rfl⟩
        rw [hql] at q1 SP
        clear hmi hy hq hsp hql
        go_enter Tryz.func111, Tryz.ntmps111
        go_wp2_with (first
          | (have _t := tok1; go_at_call 95; (with_reducible refine (GT.out _ B1.out).mono ?_); rintro x2 w2 ⟨v2, rfl, ho2, hb2⟩; obtain ⟨A2, c2, rfl, hs2⟩ := own_slice ho2; have B2 := Lib.hid (below_step B1.out hb2); have R2 := Lib.hid (R1.out.below hb2 R1.out.lt); have S2 := Lib.hid hs2; clear tok1 d4 d5 hb2 ho2 hs2; have tok2 : True := trivial)
          | (have _t := tok2; go_at_call 94; (with_reducible refine (SP.out _ _ _ S2.out).mono ?_); rintro x3 w3 ⟨v3, rfl, ho3, hb3⟩; obtain ⟨A3, c3, rfl, hs3⟩ := own_slice ho3; have B3 := Lib.hid (below_step B2.out hb3); have R3 := Lib.hid (R2.out.below hb3 R2.out.lt); have S3 := Lib.hid hs3; have e4 := R3.out.cell (j := 4) H4.out; have e5 := R3.out.cell (j := 5) H5.out; clear tok2 hb3 ho3 hs3; have tok3 : True := trivial)
          | (have _t := tok3; go_at_call 95; (with_reducible refine (GC.out _ B3.out).mono ?_); rintro x4 w4 ⟨v4, rfl, ho4, hb4⟩; obtain ⟨A4, c4, rfl, hs4⟩ := own_slice ho4; have B4 := Lib.hid (below_step B3.out hb4); have S4 := Lib.hid (S3.out.below hb4); clear tok3 hb4 ho4 hs4 e4 e5))
        go_ret3
        exact ⟨by rw [HT.out]; rfl, B4.out⟩
theorem strs_clone (x : List UInt8) (l : List (List UInt8)) (n c : Nat) (A : Option Addr) (W : World) (h : SliceIn W W.heap.size 1 A n c (strsV (x :: l))) (hn : n ≤ 1000000000) :
    Calls Tryz.prog 134 #[.slice A n c] W fun e w' => ∃ v, e = .returned v ∧ w'.ownsRow W.heap.size 9 1 v n (strsV (x :: l)) ∧ v ≠ .slice none 0 0 ∧ Below W.heap.size W w' := by
  have hl : n = (x :: l).length := by have := h.1; rw [strsV_length] at this; omega
  obtain ⟨b, o, rfl, _, hc⟩ := h.2.2.2 (by rw [hl, List.length_cons]; omega)
  have k := Tryz.slices_Clone_string b o n c ((x :: l).map fun y => (⟨y.toArray⟩ : ByteArray)) W (by rw [List.length_map, ← hl]; exact Nat.le_refl _) (by omega) (fun j hj => by
    rw [List.length_map] at hj
    have h1 : (strsV (x :: l))[j]? = some (.string ⟨((x :: l)[j]).toArray⟩) := by rw [strsV_get, List.getElem?_eq_getElem hj]; rfl
    rw [hc j _ h1]
    congr 2
    rw [List.getD_eq_getElem?_getD, List.getElem?_map, List.getElem?_eq_getElem hj]
    rfl)
  rw [List.take_of_length_le (by rw [List.length_map, hl]; exact Nat.le_refl _), List.map_map] at k
  exact k
theorem strs_compact (x : List UInt8) (l : List (List UInt8)) (base n : Nat) (v : Value) (W : World) (h : W.ownsRow base 9 1 v n (strsV (x :: l))) (hv : v ≠ .slice none 0 0) (hn : n ≤ 1000000000) :
    Calls Tryz.prog 133 #[v] W fun e w' => ∃ k A c, e = .returned (.slice A k c) ∧ (1 < k ↔ (l.all fun y => y == x) = false) ∧ Below base W w' := by
  have hl : n = (x :: l).length := by have := h.1; rw [strsV_length] at this; omega
  have h' := h
  rcases h.2 with ⟨h2, _⟩ | ⟨g, cap, cur, rfl, hb, hh, hnc, hcm, hcs, htk⟩
  · exact absurd h2 hv
  · have hc := h.cells (g := g) rfl
    have k := Tryz.slices_Compact_string_cells g 0 n cap (fun i => ⟨((x :: l).getD i []).toArray⟩) W (by omega) hnc (fun i hi => by
      have hi' : i < (x :: l).length := by omega
      have h1 : (strsV (x :: l))[i]? = some (.string ⟨((x :: l)[i]).toArray⟩) := by rw [strsV_get, List.getElem?_eq_getElem hi']; rfl
      have := hc i _ h1
      rw [add_plain] at this
      rw [this]
      congr 2
      rw [List.getD_eq_getElem?_getD, List.getElem?_eq_getElem hi']
      rfl) (fun j _ => by rw [Nat.zero_add]; exact h'.frozenAt j)
    refine k.mono ?_
    rintro e w' ⟨rfl, q, rfl⟩
    have hs : Lib.strsOf (fun i => (⟨((x :: l).getD i []).toArray⟩ : ByteArray)) n = x :: l := by
      unfold Lib.strsOf
      apply List.ext_getElem
      · rw [List.length_map, List.length_range, hl]
      · intro i h1 h2
        rw [List.getElem_map, List.getElem_range]
        simp only [List.getD_eq_getElem?_getD, List.getElem?_eq_getElem h2, Option.getD_some]
    refine ⟨_, _, _, rfl, ?_, ?_⟩
    · rw [hs]
      have hq := compact_one (x := x) (l := l)
      rw [← Bool.not_eq_true, List.all_eq_true]
      simp only [beq_iff_eq]
      constructor
      · intro h1 h2
        have := hq.2 h2
        omega
      · intro h1
        rcases Nat.lt_or_ge 1 (Lib.compact (x :: l)).length with h2 | h2
        · exact h2
        · exact absurd (hq.1 h2) h1
    · exact (Only.setCells g _ 0 _).below (below_drewN (Below.refl _ _) q) hb
set_option maxHeartbeats 16000000 in
theorem msized_any (C : List Value) (A : Option Addr) (n c : Nat) (L : List Fld) (h5 : C[5]? = some (.slice A n c)) (w : World) (hin : SliceIn w w.heap.size 2 A n c (fldsV L)) (hb : FldB L n) :
    Calls Tryz.prog 112 #[.agg C.toArray] w fun e w' => e = .returned (.tuple #[.int .i64 (sizedR L).1, .int .i64 (sizedR L).2.1, .int .i64 (sizedR L).2.2]) ∧ Below w.heap.size w w' := by
  obtain ⟨w1, hw1⟩ : ∃ W, w.alloc (.cells C.toArray 27) = W := ⟨_, rfl⟩
  have B1 : Hid (Below w.heap.size w w1) := Lib.hid (by rw [← hw1]; exact (Below.refl _ _).alloc (Nat.le_refl _) _)
  have R1 : Hid (RowAt w1 w.heap.size 27 C) := Lib.hid (by rw [← hw1]; exact RowAt.new w 27 C)
  have GC := Get_any A n c L ⟨#[99, 111, 110, 116, 101, 110, 116, 45, 108, 101, 110, 103, 116, 104]⟩ w1 ((hin.below B1.out).more B1.out.size) hb.n hb.f (by decide)
  rw [show (⟨#[99, 111, 110, 116, 101, 110, 116, 45, 108, 101, 110, 103, 116, 104]⟩ : ByteArray).data.toList = clN from rfl] at GC
  have ht := hb.get clN
  have hsp : ∀ x ∈ splitL (getL L clN), x.length ≤ 1000000000 := fun x hx => hb.split hx
  have hlen : (splitL (getL L clN)).length ≤ 1000000000 := Nat.le_trans (splitL_length _) ht
  obtain ⟨R, hR⟩ : ∃ R, sizedR L = R := ⟨_, rfl⟩
  rw [hR]
  unfold sizedR at hR
  obtain ⟨Y, hY⟩ : ∃ X, getL L clN = X := ⟨_, rfl⟩
  rw [hY] at GC hR ht hsp hlen
  have SP := fun W A' c' (hs : SliceIn W W.heap.size 1 A' Y.length c' (strsV Y)) => Split_any A' Y.length c' Y W hs ht
  have d5 := R1.out.cell (j := 5) h5
  obtain ⟨Q, hQ⟩ : ∃ Q, splitL Y = Q := ⟨_, rfl⟩
  rw [hQ] at SP hR hsp hlen
  replace GC := Lib.hid GC
  replace SP := Lib.hid SP
  clear hin hb hY hQ ht h5
  cases Q with
  | nil =>
    have HT : Hid (R = (0, 0, 10)) := Lib.hid hR.symm
    clear hR hsp hlen
    go_enter Tryz.func112, Tryz.ntmps112
    go_wp2_with (first
      | (go_at_call 95; (with_reducible refine GC.out.mono ?_); rintro x2 w2 ⟨v2, rfl, ho2, hb2⟩; obtain ⟨A2, c2, rfl, hs2⟩ := own_slice ho2; have B2 := Lib.hid (below_step B1.out hb2); have S2 := Lib.hid hs2; clear d5 hb2 ho2 hs2)
      | (go_at_call 94; (with_reducible refine (SP.out _ _ _ S2.out).mono ?_); rintro x3 w3 ⟨v3, rfl, ho3, hb3⟩; obtain ⟨A3, c3, rfl, hs3⟩ := own_slice ho3; have B3 := Lib.hid (below_step B2.out hb3); have S3 := Lib.hid hs3; clear hb3 ho3 hs3))
    go_ret3
    exact ⟨by rw [HT.out]; rfl, B3.out⟩
  | cons x l =>
    have hx := hsp x (by simp)
    have NU := fun w => Number_any ⟨x.toArray⟩ (by rw [size_mk]; exact hx) 1048576 (by omega) (by omega) w
    obtain ⟨Sx, hSx⟩ : ∃ S : ByteArray, (⟨x.toArray⟩ : ByteArray) = S := ⟨_, rfl⟩
    have dSx : Sx.data.toList = x := by rw [← hSx]
    rw [hSx, dSx] at NU
    obtain ⟨nv, ne, hN⟩ : ∃ p q, numR 10 1048576 x = (p, q) := ⟨_, _, rfl⟩
    rw [hN] at NU
    simp only [hN] at NU hR
    have HSx := Lib.hid hSx
    obtain ⟨k0, hk0⟩ : ∃ k, (x :: l).length = k := ⟨_, rfl⟩
    have kpos : 0 < k0 := by rw [← hk0, List.length_cons]; omega
    have CL := Lib.hid (fun (A : Option Addr) (c : Nat) (W : World) (h : SliceIn W W.heap.size 1 A k0 c (strsV (x :: l))) => strs_clone x l k0 c A W h (by omega))
    have CP := Lib.hid (fun (base : Nat) (v : Value) (W : World) (h : W.ownsRow base 9 1 v k0 (strsV (x :: l))) (hv : v ≠ .slice none 0 0) => strs_compact x l base k0 v W h hv (by omega))
    rw [hk0] at SP
    have z0 : ((k0 : Int) == 0) = false := by rw [beq_eq_false_iff_ne]; omega
    replace NU := Lib.hid NU
    clear hx hsp hlen hSx dSx hk0
    cases ha : l.all (fun y => y == x) with
    | false =>
      rw [ha, if_pos rfl] at hR
      have HT : Hid (R = (0, 0, 10)) := Lib.hid hR.symm
      have HA := Lib.hid ha
      clear hR ha
      go_enter Tryz.func112, Tryz.ntmps112
      go_wp2_with (first
        | (go_at_call 95; (with_reducible refine GC.out.mono ?_); rintro x2 w2 ⟨v2, rfl, ho2, hb2⟩; obtain ⟨A2, c2, rfl, hs2⟩ := own_slice ho2; have B2 := Lib.hid (below_step B1.out hb2); have S2 := Lib.hid hs2; clear d5 hb2 ho2 hs2)
        | (go_at_call 94; (with_reducible refine (SP.out _ _ _ S2.out).mono ?_); rintro x3 w3 ⟨v3, rfl, ho3, hb3⟩; obtain ⟨A3, c3, rfl, hs3⟩ := own_slice ho3; have B3 := Lib.hid (below_step B2.out hb3); have S3 := Lib.hid hs3; clear hb3 ho3 hs3; obtain ⟨bq, oq, hA3, hbq, hcq⟩ := str_first S3.out; subst hA3; rw [HSx.out] at hcq; replace hbq := Lib.hid hbq; have HCq := Lib.hid hcq)
        | (go_at_call 134; (with_reducible refine (CL.out _ _ _ S3.out).mono ?_); rintro x4 w4 ⟨v4, rfl, ho4, hv4, hb4⟩; have B4 := Lib.hid (below_step B3.out hb4); have O4 := Lib.hid ho4; have V4 := Lib.hid hv4; have hc4 := Lib.hid ((hb4.cell (p := ⟨bq, oq, none⟩) hbq.out).trans HCq.out); have Z4 := Lib.hid B3.out.size; clear hb4 ho4 hv4 hcq)
        | (go_at_call 133; (with_reducible refine (CP.out _ _ _ O4.out V4.out).mono ?_); rintro x5 w5 ⟨k5, A5, c5, rfl, hk5, hb5⟩; have B5 := Lib.hid (B4.out.trans (hb5.mono Z4.out)); have hc5 := (hb5.cell (p := ⟨bq, oq, none⟩) hbq.out).trans hc4.out; have K5 : 1 < k5 := hk5.2 HA.out; clear hb5 hk5))
      go_ret3
      exact ⟨by rw [HT.out]; rfl, B5.out⟩
    | true =>
      rw [ha, if_neg (by simp)] at hR
      have HA := Lib.hid ha
      by_cases hne : ne = 0
      · subst hne
        rw [if_neg (by simp)] at hR
        have HT : Hid (R = (1, nv, 0)) := Lib.hid hR.symm
        clear hR ha
        go_enter Tryz.func112, Tryz.ntmps112
        go_wp2_with (first
          | (go_at_call 95; (with_reducible refine GC.out.mono ?_); rintro x2 w2 ⟨v2, rfl, ho2, hb2⟩; obtain ⟨A2, c2, rfl, hs2⟩ := own_slice ho2; have B2 := Lib.hid (below_step B1.out hb2); have S2 := Lib.hid hs2; clear d5 hb2 ho2 hs2)
          | (go_at_call 94; (with_reducible refine (SP.out _ _ _ S2.out).mono ?_); rintro x3 w3 ⟨v3, rfl, ho3, hb3⟩; obtain ⟨A3, c3, rfl, hs3⟩ := own_slice ho3; have B3 := Lib.hid (below_step B2.out hb3); have S3 := Lib.hid hs3; clear hb3 ho3 hs3; obtain ⟨bq, oq, hA3, hbq, hcq⟩ := str_first S3.out; subst hA3; rw [HSx.out] at hcq; replace hbq := Lib.hid hbq; have HCq := Lib.hid hcq)
          | (go_at_call 134; (with_reducible refine (CL.out _ _ _ S3.out).mono ?_); rintro x4 w4 ⟨v4, rfl, ho4, hv4, hb4⟩; have B4 := Lib.hid (below_step B3.out hb4); have O4 := Lib.hid ho4; have V4 := Lib.hid hv4; have hc4 := Lib.hid ((hb4.cell (p := ⟨bq, oq, none⟩) hbq.out).trans HCq.out); have Z4 := Lib.hid B3.out.size; clear hb4 ho4 hv4 hcq)
          | (go_at_call 133; (with_reducible refine (CP.out _ _ _ O4.out V4.out).mono ?_); rintro x5 w5 ⟨k5, A5, c5, rfl, hk5, hb5⟩; have B5 := Lib.hid (B4.out.trans (hb5.mono Z4.out)); have hc5 := (hb5.cell (p := ⟨bq, oq, none⟩) hbq.out).trans hc4.out; have K5 : ¬ 1 < k5 := (fun h => by have := hk5.1 h; rw [HA.out] at this; cases this); clear hb5 hk5)
          | (go_at_call 135; (with_reducible refine (NU.out _).mono ?_); rintro x6 w6 ⟨rfl, hb6⟩; have B6 := Lib.hid (below_step B5.out hb6); clear hb6))
        go_ret3
        exact ⟨by rw [HT.out]; rfl, B6.out⟩
      · have nen : (ne != 0) = true := by rw [bne_iff_ne]; exact hne
        rw [if_pos hne] at hR
        have HT : Hid (R = (0, 0, ne)) := Lib.hid hR.symm
        clear hR ha hne
        go_enter Tryz.func112, Tryz.ntmps112
        go_wp2_with (first
          | (go_at_call 95; (with_reducible refine GC.out.mono ?_); rintro x2 w2 ⟨v2, rfl, ho2, hb2⟩; obtain ⟨A2, c2, rfl, hs2⟩ := own_slice ho2; have B2 := Lib.hid (below_step B1.out hb2); have S2 := Lib.hid hs2; clear d5 hb2 ho2 hs2)
          | (go_at_call 94; (with_reducible refine (SP.out _ _ _ S2.out).mono ?_); rintro x3 w3 ⟨v3, rfl, ho3, hb3⟩; obtain ⟨A3, c3, rfl, hs3⟩ := own_slice ho3; have B3 := Lib.hid (below_step B2.out hb3); have S3 := Lib.hid hs3; clear hb3 ho3 hs3; obtain ⟨bq, oq, hA3, hbq, hcq⟩ := str_first S3.out; subst hA3; rw [HSx.out] at hcq; replace hbq := Lib.hid hbq; have HCq := Lib.hid hcq)
          | (go_at_call 134; (with_reducible refine (CL.out _ _ _ S3.out).mono ?_); rintro x4 w4 ⟨v4, rfl, ho4, hv4, hb4⟩; have B4 := Lib.hid (below_step B3.out hb4); have O4 := Lib.hid ho4; have V4 := Lib.hid hv4; have hc4 := Lib.hid ((hb4.cell (p := ⟨bq, oq, none⟩) hbq.out).trans HCq.out); have Z4 := Lib.hid B3.out.size; clear hb4 ho4 hv4 hcq)
          | (go_at_call 133; (with_reducible refine (CP.out _ _ _ O4.out V4.out).mono ?_); rintro x5 w5 ⟨k5, A5, c5, rfl, hk5, hb5⟩; have B5 := Lib.hid (B4.out.trans (hb5.mono Z4.out)); have hc5 := (hb5.cell (p := ⟨bq, oq, none⟩) hbq.out).trans hc4.out; have K5 : ¬ 1 < k5 := (fun h => by have := hk5.1 h; rw [HA.out] at this; cases this); clear hb5 hk5)
          | (go_at_call 135; (with_reducible refine (NU.out _).mono ?_); rintro x6 w6 ⟨rfl, hb6⟩; have B6 := Lib.hid (below_step B5.out hb6); clear hb6))
        go_ret3
        exact ⟨by rw [HT.out]; rfl, B6.out⟩
def msgC (s : Sta) (F B : Value) : List Value := staC s ++ [F, B]
set_option maxHeartbeats 16000000 in
theorem mframing_any (s : Sta) (A : Option Addr) (n c : Nat) (L : List Fld) (Bd : Value) (M : ByteArray) (w : World) (hin : SliceIn w w.heap.size 2 A n c (fldsV L)) (hb : FldB L n) :
    Calls Tryz.prog 75 #[.agg (msgC s (.slice A n c) Bd).toArray, .string M] w fun e w' => e = .returned (.tuple #[.int .i64 (framingL s L M.data.toList).1, .int .i64 (framingL s L M.data.toList).2.1, .int .i64 (framingL s L M.data.toList).2.2]) ∧ Below w.heap.size w w' := by
  obtain ⟨C, hC⟩ : ∃ C, msgC s (.slice A n c) Bd = C := ⟨_, rfl⟩
  have h2 : C[2]? = some (.int .i64 s.status) := by rw [← hC]; rfl
  have h4 : C[4]? = some (.int .i64 s.minor) := by rw [← hC]; rfl
  have h5 : C[5]? = some (.slice A n c) := by rw [← hC]; rfl
  have HCi : Hid ((Tryz.prog.info? 27).map (·.size) = some C.length) := Lib.hid (by rw [show C.length = 7 by rw [← hC]; rfl]; kernel_rfl)
  rw [hC]
  obtain ⟨R, hR⟩ : ∃ R, framingL s L M.data.toList = R := ⟨_, rfl⟩
  rw [hR]
  rw [framing_eq] at hR
  obtain ⟨w1, hw1⟩ : ∃ W, w.alloc (.cells C.toArray 27) = W := ⟨_, rfl⟩
  have B1 : Hid (Below w.heap.size w w1) := Lib.hid (by rw [← hw1]; exact (Below.refl _ _).alloc (Nat.le_refl _) _)
  have R1 : Hid (RowAt w1 w.heap.size 27 C) := Lib.hid (by rw [← hw1]; exact RowAt.new w 27 C)
  have BA := Lib.hid (fun w => mbare_any s.status M w)
  have HT := fun W (hW : Below w.heap.size w W) => mhas_any C A n c L h5 ⟨#[116, 114, 97, 110, 115, 102, 101, 114, 45, 101, 110, 99, 111, 100, 105, 110, 103]⟩ W ((hin.below hW).more hW.size) hb (by decide)
  have HC := fun W (hW : Below w.heap.size w W) => mhas_any C A n c L h5 ⟨#[99, 111, 110, 116, 101, 110, 116, 45, 108, 101, 110, 103, 116, 104]⟩ W ((hin.below hW).more hW.size) hb (by decide)
  have CO := fun W (hW : Below w.heap.size w W) => mcoded_any C A n c L s.minor h4 h5 W ((hin.below hW).more hW.size) hb
  have SI := fun W (hW : Below w.heap.size w W) => msized_any C A n c L h5 W ((hin.below hW).more hW.size) hb
  rw [show (⟨#[116, 114, 97, 110, 115, 102, 101, 114, 45, 101, 110, 99, 111, 100, 105, 110, 103]⟩ : ByteArray).data.toList = teN from rfl] at HT
  rw [show (⟨#[99, 111, 110, 116, 101, 110, 116, 45, 108, 101, 110, 103, 116, 104]⟩ : ByteArray).data.toList = clN from rfl] at HC
  obtain ⟨st, hst⟩ : ∃ x, s.status = x := ⟨_, rfl⟩
  rw [hst] at BA hR h2
  obtain ⟨bb, hbb⟩ : ∃ x, bareM st M.data.toList = x := ⟨_, rfl⟩
  rw [hbb] at BA hR
  obtain ⟨x1, x2, hco⟩ : ∃ p q, codedR s.minor L = (p, q) := ⟨_, _, rfl⟩
  obtain ⟨y1, y2, y3, hsi⟩ : ∃ p q r, sizedR L = (p, q, r) := ⟨_, _, _, rfl⟩
  rw [hco] at CO hR
  rw [hsi] at SI hR
  simp only at CO SI hR
  have H2 := Lib.hid h2
  have d2 := R1.out.cell (j := 2) h2
  replace CO := Lib.hid CO
  replace SI := Lib.hid SI
  have tok1 : True := trivial
  clear hC h2 h4 h5 hin hb hbb hco hsi hst
  by_cases hz : st = 0
  · have s0 : (st == 0) = true := by rw [beq_iff_eq]; exact hz
    have s1 : (st != 0) = false := by rw [bne, s0]; rfl
    rw [if_neg (fun h => h.1 hz)] at hR
    by_cases ht : getL L teN ≠ []
    · rw [if_pos ht] at hR
      rw [decide_eq_true ht] at HT
      clear ht
      have HR : Hid (R = (x1, 0, x2)) := Lib.hid hR.symm
      replace HT := Lib.hid HT
      replace HC := Lib.hid HC
      clear hR hz
      go_enter Tryz.func75, Tryz.ntmps75
      go_wp2_with (first
        | (refine wpList_load_g (by first | exact wanted_un rfl) 27 _ rfl w.heap.size 0 rfl C _ (rangeOf R1.out) Tryz.underlying27 rfl HCi.out ?_)
        | (have _t := tok1; go_at_call 110; (with_reducible refine (HT.out _ B1.out).mono ?_); rintro x2 w2 ⟨rfl, hb2⟩; replace B1 := Lib.hid (below_step B1.out hb2); replace R1 := Lib.hid (R1.out.below hb2 R1.out.lt); replace d2 := R1.out.cell (j := 2) H2.out; clear hb2 tok1; have tok2 : True := trivial)
        | (go_at_call 111; (with_reducible refine (CO.out _ B1.out).mono ?_); rintro x4 w4 ⟨rfl, hb4⟩; replace B1 := Lib.hid (below_step B1.out hb4); clear hb4))
      go_ret3
      exact ⟨by rw [HR.out]; rfl, B1.out⟩
    · rw [if_neg ht] at hR
      rw [decide_eq_false ht] at HT
      by_cases hc : getL L clN ≠ []
      · rw [if_pos hc] at hR
        rw [decide_eq_true hc] at HC
        clear ht hc
        have HR : Hid (R = (y1, y2, y3)) := Lib.hid hR.symm
        replace HT := Lib.hid HT
        replace HC := Lib.hid HC
        clear hR hz
        go_enter Tryz.func75, Tryz.ntmps75
        go_wp2_with (first
          | (refine wpList_load_g (by first | exact wanted_un rfl) 27 _ rfl w.heap.size 0 rfl C _ (rangeOf R1.out) Tryz.underlying27 rfl HCi.out ?_)
          | (have _t := tok1; go_at_call 110; (with_reducible refine (HT.out _ B1.out).mono ?_); rintro x2 w2 ⟨rfl, hb2⟩; replace B1 := Lib.hid (below_step B1.out hb2); replace R1 := Lib.hid (R1.out.below hb2 R1.out.lt); replace d2 := R1.out.cell (j := 2) H2.out; clear hb2 tok1; have tok2 : True := trivial)
          | (have _t := tok2; go_at_call 110; (with_reducible refine (HC.out _ B1.out).mono ?_); rintro x3 w3 ⟨rfl, hb3⟩; replace B1 := Lib.hid (below_step B1.out hb3); replace R1 := Lib.hid (R1.out.below hb3 R1.out.lt); replace d2 := R1.out.cell (j := 2) H2.out; clear hb3)
          | (go_at_call 112; (with_reducible refine (SI.out _ B1.out).mono ?_); rintro x5 w5 ⟨rfl, hb5⟩; replace B1 := Lib.hid (below_step B1.out hb5); clear hb5))
        go_ret3
        exact ⟨by rw [HR.out]; rfl, B1.out⟩
      · rw [if_neg hc] at hR
        rw [decide_eq_false hc] at HC
        rw [if_pos hz] at hR
        clear ht hc
        have HR : Hid (R = (0, 0, 0)) := Lib.hid hR.symm
        replace HT := Lib.hid HT
        replace HC := Lib.hid HC
        clear hR hz
        go_enter Tryz.func75, Tryz.ntmps75
        go_wp2_with (first
          | (refine wpList_load_g (by first | exact wanted_un rfl) 27 _ rfl w.heap.size 0 rfl C _ (rangeOf R1.out) Tryz.underlying27 rfl HCi.out ?_)
          | (have _t := tok1; go_at_call 110; (with_reducible refine (HT.out _ B1.out).mono ?_); rintro x2 w2 ⟨rfl, hb2⟩; replace B1 := Lib.hid (below_step B1.out hb2); replace R1 := Lib.hid (R1.out.below hb2 R1.out.lt); replace d2 := R1.out.cell (j := 2) H2.out; clear hb2 tok1; have tok2 : True := trivial)
          | (have _t := tok2; go_at_call 110; (with_reducible refine (HC.out _ B1.out).mono ?_); rintro x3 w3 ⟨rfl, hb3⟩; replace B1 := Lib.hid (below_step B1.out hb3); replace R1 := Lib.hid (R1.out.below hb3 R1.out.lt); replace d2 := R1.out.cell (j := 2) H2.out; clear hb3))
        go_ret3
        exact ⟨by rw [HR.out]; rfl, B1.out⟩
  · have s0 : (st == 0) = false := by rw [beq_eq_false_iff_ne]; exact hz
    have s1 : (st != 0) = true := by rw [bne, s0]; rfl
    cases bb with
    | true =>
      rw [if_pos ⟨hz, rfl⟩] at hR
      skip
      have HR : Hid (R = (0, 0, 0)) := Lib.hid hR.symm
      replace HT := Lib.hid HT
      replace HC := Lib.hid HC
      clear hR hz
      go_enter Tryz.func75, Tryz.ntmps75
      go_wp2_with (first
        | (go_at_call 109; (with_reducible refine (BA.out _).mono ?_); rintro x9 w9 ⟨rfl, rfl⟩))
      go_ret3
      exact ⟨by rw [HR.out]; rfl, B1.out⟩
    | false =>
      rw [if_neg (fun h => by cases h.2)] at hR
      by_cases ht : getL L teN ≠ []
      · rw [if_pos ht] at hR
        rw [decide_eq_true ht] at HT
        clear ht
        have HR : Hid (R = (x1, 0, x2)) := Lib.hid hR.symm
        replace HT := Lib.hid HT
        replace HC := Lib.hid HC
        clear hR hz
        go_enter Tryz.func75, Tryz.ntmps75
        go_wp2_with (first
          | (refine wpList_load_g (by first | exact wanted_un rfl) 27 _ rfl w.heap.size 0 rfl C _ (rangeOf R1.out) Tryz.underlying27 rfl HCi.out ?_)
          | (go_at_call 109; (with_reducible refine (BA.out _).mono ?_); rintro x9 w9 ⟨rfl, rfl⟩)
          | (have _t := tok1; go_at_call 110; (with_reducible refine (HT.out _ B1.out).mono ?_); rintro x2 w2 ⟨rfl, hb2⟩; replace B1 := Lib.hid (below_step B1.out hb2); replace R1 := Lib.hid (R1.out.below hb2 R1.out.lt); replace d2 := R1.out.cell (j := 2) H2.out; clear hb2 tok1; have tok2 : True := trivial)
          | (go_at_call 111; (with_reducible refine (CO.out _ B1.out).mono ?_); rintro x4 w4 ⟨rfl, hb4⟩; replace B1 := Lib.hid (below_step B1.out hb4); clear hb4))
        go_ret3
        exact ⟨by rw [HR.out]; rfl, B1.out⟩
      · rw [if_neg ht] at hR
        rw [decide_eq_false ht] at HT
        by_cases hc : getL L clN ≠ []
        · rw [if_pos hc] at hR
          rw [decide_eq_true hc] at HC
          clear ht hc
          have HR : Hid (R = (y1, y2, y3)) := Lib.hid hR.symm
          replace HT := Lib.hid HT
          replace HC := Lib.hid HC
          clear hR hz
          go_enter Tryz.func75, Tryz.ntmps75
          go_wp2_with (first
            | (refine wpList_load_g (by first | exact wanted_un rfl) 27 _ rfl w.heap.size 0 rfl C _ (rangeOf R1.out) Tryz.underlying27 rfl HCi.out ?_)
            | (go_at_call 109; (with_reducible refine (BA.out _).mono ?_); rintro x9 w9 ⟨rfl, rfl⟩)
            | (have _t := tok1; go_at_call 110; (with_reducible refine (HT.out _ B1.out).mono ?_); rintro x2 w2 ⟨rfl, hb2⟩; replace B1 := Lib.hid (below_step B1.out hb2); replace R1 := Lib.hid (R1.out.below hb2 R1.out.lt); replace d2 := R1.out.cell (j := 2) H2.out; clear hb2 tok1; have tok2 : True := trivial)
            | (have _t := tok2; go_at_call 110; (with_reducible refine (HC.out _ B1.out).mono ?_); rintro x3 w3 ⟨rfl, hb3⟩; replace B1 := Lib.hid (below_step B1.out hb3); replace R1 := Lib.hid (R1.out.below hb3 R1.out.lt); replace d2 := R1.out.cell (j := 2) H2.out; clear hb3)
            | (go_at_call 112; (with_reducible refine (SI.out _ B1.out).mono ?_); rintro x5 w5 ⟨rfl, hb5⟩; replace B1 := Lib.hid (below_step B1.out hb5); clear hb5))
          go_ret3
          exact ⟨by rw [HR.out]; rfl, B1.out⟩
        · rw [if_neg hc] at hR
          rw [decide_eq_false hc] at HC
          rw [if_neg hz] at hR
          clear ht hc
          have HR : Hid (R = (0, 0, 10)) := Lib.hid hR.symm
          replace HT := Lib.hid HT
          replace HC := Lib.hid HC
          clear hR hz
          go_enter Tryz.func75, Tryz.ntmps75
          go_wp2_with (first
            | (refine wpList_load_g (by first | exact wanted_un rfl) 27 _ rfl w.heap.size 0 rfl C _ (rangeOf R1.out) Tryz.underlying27 rfl HCi.out ?_)
            | (go_at_call 109; (with_reducible refine (BA.out _).mono ?_); rintro x9 w9 ⟨rfl, rfl⟩)
            | (have _t := tok1; go_at_call 110; (with_reducible refine (HT.out _ B1.out).mono ?_); rintro x2 w2 ⟨rfl, hb2⟩; replace B1 := Lib.hid (below_step B1.out hb2); replace R1 := Lib.hid (R1.out.below hb2 R1.out.lt); replace d2 := R1.out.cell (j := 2) H2.out; clear hb2 tok1; have tok2 : True := trivial)
            | (have _t := tok2; go_at_call 110; (with_reducible refine (HC.out _ B1.out).mono ?_); rintro x3 w3 ⟨rfl, hb3⟩; replace B1 := Lib.hid (below_step B1.out hb3); replace R1 := Lib.hid (R1.out.below hb3 R1.out.lt); replace d2 := R1.out.cell (j := 2) H2.out; clear hb3))
          go_ret3
          exact ⟨by rw [HR.out]; rfl, B1.out⟩
end Go.Proofs.YtniiadhhefgmcaaGreatDoor
