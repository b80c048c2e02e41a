/- Walk of layer 28: one reply, read from its line, by the code. Condition: the world's shape; lines within 10^8 octets. -/
import Derived.Test.YtaddefjkjlkjnaaDoorAcc15
import Derived.Test.YtaddefjkjlkjnaaDoorAcc17
import Derived.Test.YtaddefjkjlkjnaaDoorKt
import Derived.Test.YtaddefjkjlkjnaaDoorScr4
namespace Go.Proofs.YtaddefjkjlkjnaaDoor
open Go.RowKit IH
set_option maxRecDepth 100000
def zero28 : Reply := ⟨0, 0, 0, 0, [], [], [], 0, 0⟩
/-- One reply, of its line without the end. -/
def one28 (s : List UInt8) : Option Reply := match cutN 8 s with
  | none => none
  | some p => if right28 (told28 p) = true ∧ line28 (told28 p) = s ++ [10] then some (told28 p) else none
theorem told_one (t : Reply) : ∀ u ∈ toldCells t, u.oneCell' = true := by
  intro u hu
  simp only [toldCells, List.mem_cons, List.not_mem_nil, or_false] at hu
  rcases hu with rfl | rfl | rfl | rfl | rfl | rfl | rfl | rfl | rfl <;> rfl
theorem row_new28 {B : Nat} {w W : World} (_ : Hid (Below B w W)) (e : TypeId) (cs : List Value) : RowAt (W.alloc (.cells cs.toArray e)) W.heap.size e cs := RowAt.new W e cs
theorem nine_one {a b c d g h : Int} {x y z : ByteArray} : ∀ u ∈ ([.int .i64 a, .int .i64 b, .int .i64 c, .int .i64 d, .string x, .string y, .string z, .int .i64 g, .int .i64 h] : List Value), u.oneCell' = true := by
  intro u hu
  simp only [List.mem_cons, List.not_mem_nil, or_false] at hu
  rcases hu with rfl | rfl | rfl | rfl | rfl | rfl | rfl | rfl | rfl <;> rfl
theorem list9 {α : Type} {l : List α} (h : l.length = 9) : ∃ a b c d e f g i j, l = [a, b, c, d, e, f, g, i, j] := by
  match l, h with
  | [a, b, c, d, e, f, g, i, j], _ => exact ⟨a, b, c, d, e, f, g, i, j, rfl⟩
theorem cutN_len : ∀ (k : Nat) {s : List UInt8} {p : List (List UInt8)}, cutN k s = some p → ∀ x ∈ p, x.length ≤ s.length
  | 0, s, p, h => by
    simp only [cutN, Option.some.injEq] at h
    subst h
    simp
  | k + 1, s, p, h => by
    unfold cutN at h
    have h1 := (List.takeWhile_prefix (l := s) (fun x : UInt8 => x != 32)).length_le
    have h2 := (List.dropWhile_suffix (l := s) (fun x : UInt8 => x != 32)).length_le
    split at h
    · cases h
    · rename_i c r hr
      rw [hr] at h2
      obtain ⟨q, hq, rfl⟩ := Option.map_eq_some_iff.1 h
      intro x hx
      rcases List.mem_cons.1 hx with rfl | hx
      · exact h1
      · have := cutN_len k hq x hx
        simp at h2
        omega
theorem unq27_err : ∀ (f : Nat) (acc : List UInt8) (k : Nat) (l : List UInt8), (unq27 f acc k l).2.2 ≠ 0 → (unq27 f acc k l).1 = []
  | 0, _, _, _, _ => rfl
  | f + 1, acc, k, l, h => by
    unfold unq27 at h ⊢
    cases l with
    | nil => rfl
    | cons c r =>
      simp only at h ⊢
      split at h
      · simp at h
      · rename_i hc
        rw [if_neg hc]
        cases ho : octOf (c :: r) with
        | none => rfl
        | some d =>
          rw [ho] at h
          exact unq27_err f _ _ _ h
theorem unquote27_len (s : List UInt8) : (unquote27 s).1.length ≤ s.length := by
  by_cases he : (unquote27 s).2.2 = 0
  · obtain ⟨r, h1, _⟩ := unquote27_inv (s := s) (b := (unquote27 s).1) (n := (unquote27 s).2.1) (by rw [← he])
    have h2 := congrArg List.length h1
    have h3 : (unquote27 s).1.length ≤ (quote27 (unquote27 s).1).length := by
      generalize (unquote27 s).1 = b
      unfold quote27
      have : b.length ≤ (b.flatMap code).length := by
        induction b with
        | nil => simp
        | cons c b ih =>
          have := (code_length c).1
          rw [List.flatMap_cons, List.length_append, List.length_cons]; omega
      simp only [List.length_cons, List.length_append, List.length_nil]; omega
    rw [List.length_append] at h2
    omega
  · have : (unquote27 s).1 = [] := by
      unfold unquote27 at he ⊢
      cases s with
      | nil => rfl
      | cons c r =>
        simp only at he ⊢
        split at he
        · rename_i hc
          rw [if_pos hc]
          exact unq27_err _ _ _ _ he
        · rename_i hc
          rw [if_neg hc]
    rw [this]; simp
set_option maxHeartbeats 16000000 in
theorem read28_any (s : ByteArray) (hs : s.size ≤ 100000000) (w : World) (hsh : w.ShapedOpen Tryd.prog) :
    Calls Tryd.prog 81 #[.string s] w fun e w' => e = .returned (.tuple #[.agg (toldCells ((one28 s.data.toList).getD zero28)).toArray, .int .i64 (if (one28 s.data.toList).isSome then 0 else 10)]) ∧ Below w.heap.size w w' := by
  obtain ⟨g0, hg0⟩ : ∃ g0, w.heap.size = g0 := ⟨_, rfl⟩
  obtain ⟨wa, hwa⟩ : ∃ wa, w.alloc (.cells (toldCells zero28).toArray 48) = wa := ⟨_, rfl⟩
  have hza : wa.heap.size = g0 + 1 := by rw [← hwa]; simp [hg0]
  have BA : Hid (Below g0 w wa) := Lib.hid (by rw [← hwa, ← hg0]; exact (Below.refl _ _).alloc (Nat.le_refl _) _)
  have RZ : Hid (RowAt wa g0 48 (toldCells zero28)) := Lib.hid (by rw [← hwa, ← hg0]; exact RowAt.new w _ _)
  have SN := Lib.hid (SplitN9_any s wa (shaped_below hsh (by rw [hg0]; exact BA.out)) (by omega))
  rw [show (toldCells zero28).toArray = #[.int .i64 0, .int .i64 0, .int .i64 0, .int .i64 0, .string ⟨#[]⟩, .string ⟨#[]⟩, .string ⟨#[]⟩, .int .i64 0, .int .i64 0] from rfl] at hwa
  rw [hg0]
  clear hsh
  obtain ⟨U, hU⟩ : ∃ U, one28 s.data.toList = U := ⟨_, rfl⟩
  rw [hU]
  have HU := Lib.hid hU
  clear hU
  obtain ⟨y, hy⟩ : ∃ y : Int, (if U.isSome then 0 else 10) = y := ⟨_, rfl⟩
  rw [hy]
  have HY := Lib.hid hy
  clear hy
  have hg1 : g0 < wa.heap.size := by omega
  go_enter Tryd.func81, Tryd.ntmps81
  go_upto_region 2 with (go_at_call 123; refine SN.out.mono ?_; rintro e w2 ⟨L, c, rfl, hrow, hb2, hor⟩)
  have B2 := Lib.hid hb2
  have RZ2 := Lib.hid (RZ.out.below hb2 hg1)
  rw [hza] at hrow
  have HRW := Lib.hid hrow
  have hgs := hrow.lt
  clear hrow hb2 hwa SN RZ
  rcases hor with ⟨hcut, hl⟩ | ⟨hcut, hl⟩
  · obtain ⟨p0, p1, p2, p3, p4, p5, p6, p7, p8, rfl⟩ := list9 hl
    have hpl := cutN_len 8 hcut
    rw [data_len] at hpl
    have HT : Hid (told28 [p0, p1, p2, p3, p4, p5, p6, p7, p8] = { moment := said28 p0, conn := said28 p1, kind := kind28 p2, method := bare28 p3, uri := bare28 p4, status := said28 p5, age := said28 p6, lines := said28 p7, key := (unquote27 p8).1 }) := Lib.hid rfl
    obtain ⟨P0, hP0⟩ : ∃ X : ByteArray, (⟨p0.toArray⟩ : ByteArray) = X := ⟨_, rfl⟩
    have l0 : P0.data.toList = p0 := by rw [← hP0]
    have s0 : P0.size ≤ 100000000 := by rw [← hP0, size_mk]; have := hpl p0 (by simp); omega
    have c0 := HRW.out.cell (j := 0) (u := .string P0) (by simp [strsV, hP0])
    obtain ⟨P1, hP1⟩ : ∃ X : ByteArray, (⟨p1.toArray⟩ : ByteArray) = X := ⟨_, rfl⟩
    have l1 : P1.data.toList = p1 := by rw [← hP1]
    have s1 : P1.size ≤ 100000000 := by rw [← hP1, size_mk]; have := hpl p1 (by simp); omega
    have c1 := HRW.out.cell (j := 1) (u := .string P1) (by simp [strsV, hP1])
    obtain ⟨P2, hP2⟩ : ∃ X : ByteArray, (⟨p2.toArray⟩ : ByteArray) = X := ⟨_, rfl⟩
    have l2 : P2.data.toList = p2 := by rw [← hP2]
    have s2 : P2.size ≤ 100000000 := by rw [← hP2, size_mk]; have := hpl p2 (by simp); omega
    have c2 := HRW.out.cell (j := 2) (u := .string P2) (by simp [strsV, hP2])
    obtain ⟨P3, hP3⟩ : ∃ X : ByteArray, (⟨p3.toArray⟩ : ByteArray) = X := ⟨_, rfl⟩
    have l3 : P3.data.toList = p3 := by rw [← hP3]
    have s3 : P3.size ≤ 100000000 := by rw [← hP3, size_mk]; have := hpl p3 (by simp); omega
    have c3 := HRW.out.cell (j := 3) (u := .string P3) (by simp [strsV, hP3])
    obtain ⟨P4, hP4⟩ : ∃ X : ByteArray, (⟨p4.toArray⟩ : ByteArray) = X := ⟨_, rfl⟩
    have l4 : P4.data.toList = p4 := by rw [← hP4]
    have s4 : P4.size ≤ 100000000 := by rw [← hP4, size_mk]; have := hpl p4 (by simp); omega
    have c4 := HRW.out.cell (j := 4) (u := .string P4) (by simp [strsV, hP4])
    obtain ⟨P5, hP5⟩ : ∃ X : ByteArray, (⟨p5.toArray⟩ : ByteArray) = X := ⟨_, rfl⟩
    have l5 : P5.data.toList = p5 := by rw [← hP5]
    have s5 : P5.size ≤ 100000000 := by rw [← hP5, size_mk]; have := hpl p5 (by simp); omega
    have c5 := HRW.out.cell (j := 5) (u := .string P5) (by simp [strsV, hP5])
    obtain ⟨P6, hP6⟩ : ∃ X : ByteArray, (⟨p6.toArray⟩ : ByteArray) = X := ⟨_, rfl⟩
    have l6 : P6.data.toList = p6 := by rw [← hP6]
    have s6 : P6.size ≤ 100000000 := by rw [← hP6, size_mk]; have := hpl p6 (by simp); omega
    have c6 := HRW.out.cell (j := 6) (u := .string P6) (by simp [strsV, hP6])
    obtain ⟨P7, hP7⟩ : ∃ X : ByteArray, (⟨p7.toArray⟩ : ByteArray) = X := ⟨_, rfl⟩
    have l7 : P7.data.toList = p7 := by rw [← hP7]
    have s7 : P7.size ≤ 100000000 := by rw [← hP7, size_mk]; have := hpl p7 (by simp); omega
    have c7 := HRW.out.cell (j := 7) (u := .string P7) (by simp [strsV, hP7])
    obtain ⟨P8, hP8⟩ : ∃ X : ByteArray, (⟨p8.toArray⟩ : ByteArray) = X := ⟨_, rfl⟩
    have l8 : P8.data.toList = p8 := by rw [← hP8]
    have s8 : P8.size ≤ 100000000 := by rw [← hP8, size_mk]; have := hpl p8 (by simp); omega
    have c8 := HRW.out.cell (j := 8) (u := .string P8) (by simp [strsV, hP8])
    have D0 := fun w => said28_any P0 (by omega) w
    rw [l0] at D0
    replace D0 := Lib.hid D0
    have D1 := fun w => said28_any P1 (by omega) w
    rw [l1] at D1
    replace D1 := Lib.hid D1
    have D5 := fun w => said28_any P5 (by omega) w
    rw [l5] at D5
    replace D5 := Lib.hid D5
    have D6 := fun w => said28_any P6 (by omega) w
    rw [l6] at D6
    replace D6 := Lib.hid D6
    have D7 := fun w => said28_any P7 (by omega) w
    rw [l7] at D7
    replace D7 := Lib.hid D7
    have D2 := fun w => kind28_any P2 w
    rw [l2] at D2
    replace D2 := Lib.hid D2
    have D3 := fun w => bare28_any P3 w
    rw [l3] at D3
    have D4 := fun w => bare28_any P4 w
    rw [l4] at D4
    obtain ⟨M, hM⟩ : ∃ X : ByteArray, (⟨(bare28 p3).toArray⟩ : ByteArray) = X := ⟨_, rfl⟩
    obtain ⟨R, hR⟩ : ∃ X : ByteArray, (⟨(bare28 p4).toArray⟩ : ByteArray) = X := ⟨_, rfl⟩
    rw [hM] at D3
    rw [hR] at D4
    replace D3 := Lib.hid D3
    replace D4 := Lib.hid D4
    have D8 := fun w => Unquote27_any P8 (by omega) w
    rw [l8] at D8
    replace D8 := Lib.hid D8
    have hk8 := unquote27_len p8
    have hm3 : (bare28 p3).length ≤ 100000000 := by
      have := hpl p3 (by simp)
      unfold bare28
      split
      · simp
      · omega
    have hm4 : (bare28 p4).length ≤ 100000000 := by
      have := hpl p4 (by simp)
      unfold bare28
      split
      · simp
      · omega
    have hp8 := hpl p8 (by simp)
    obtain ⟨TT, hTT⟩ : ∃ T, told28 [p0, p1, p2, p3, p4, p5, p6, p7, p8] = T := ⟨_, rfl⟩
    obtain ⟨K, hK⟩ : ∃ X : ByteArray, (⟨(unquote27 p8).1.toArray⟩ : ByteArray) = X := ⟨_, rfl⟩
    have htc : toldCells TT = [.int .i64 (said28 p1), .int .i64 (kind28 p2), .int .i64 (said28 p0), .int .i64 (said28 p7), .string M, .string R, .string K, .int .i64 (said28 p5), .int .i64 (said28 p6)] := by rw [← hTT, ← hM, ← hR, ← hK]; rfl
    have hu : U = if right28 TT = true ∧ line28 TT = s.data.toList ++ [10] then some TT else none := by rw [← HU.out, ← hTT]; unfold one28; rw [hcut]
    have RT := fun W => right_any TT W (by rw [← hTT]; exact Nat.le_trans hm3 (by omega)) (by rw [← hTT]; exact Nat.le_trans hm4 (by omega)) (by rw [← hTT]; show (unquote27 p8).1.length ≤ _; omega)
    have LT := fun W (h : right28 TT = true) => line_any TT W (right28_fits h).1 (by have := (right28_fits h).2.1; omega) (by have := (right28_fits h).2.2.1; omega) (by have := (right28_fits h).2.2.2; omega)
    rw [htc] at RT LT
    have HTC := Lib.hid htc
    have Hu := Lib.hid hu
    replace RT := Lib.hid RT
    replace LT := Lib.hid LT
    obtain ⟨kb, hkb⟩ : ∃ b, (unquote27 p8).1 = b := ⟨_, rfl⟩
    obtain ⟨kn, hkn⟩ : ∃ b, (unquote27 p8).2.1 = b := ⟨_, rfl⟩
    obtain ⟨ke, hke⟩ : ∃ b, (unquote27 p8).2.2 = b := ⟨_, rfl⟩
    rw [hkb, hkn, hke] at D8
    rw [hkb] at hK
    have HK := Lib.hid hK
    clear hk8 hm3 hm4 hp8 hTT hK htc hu hkb hkn hke HT hcut hl hM hR
    clear hpl hP0 hP1 hP2 hP3 hP4 hP5 hP6 hP7 hP8 l0 l1 l2 l3 l4 l5 l6 l7 l8
    generalize said28 p0 = n0 at *
    generalize said28 p1 = n1 at *
    generalize kind28 p2 = n2 at *
    generalize said28 p5 = n5 at *
    generalize said28 p6 = n6 at *
    generalize said28 p7 = n7 at *
    go_upto_region 4 with fail
    go_cut [5] from 15 to 47 (fun s5 wx => ∃ g, s5 = .pointer (some ⟨g, 0, none⟩) ∧ w2.heap.size ≤ g ∧ RowAt wx g 48 [.int .i64 n1, .int .i64 n2, .int .i64 n0, .int .i64 n7, .string M, .string R, .string ⟨#[]⟩, .int .i64 n5, .int .i64 n6] ∧ Below w2.heap.size w2 wx)
    case first =>
      refine wp_region_tree (fun W => Below w2.heap.size w2 W) (.take 0 (.take 1 (.take 2 (.take 4 (.take 5 (.take 6 (.take 8 (.take 9 (.take 10 (.take 12 (.take 13 (.take 14 (.take 16 (.take 17 (.take 18 (.take 20 (.take 21 (.take 22 (.take 24 (.take 25 (.take 26 (.take 28 (.take 29 (.take 30 (.node (.fork 3 (.node (.fork 7 (.node (.fork 11 (.node (.fork 15 (.node (.fork 19 (.node (.fork 23 (.node (.fork 27 (.node (.fork 31 (.take 32 (.node (.fork 33 (.node (.fork 34 (.done) (.stop))) (.stop)))) (.fork 33 (.node (.fork 31 (.take 32 (.node (.fork 34 (.done) (.stop)))) (.stop))) (.stop)))) (.fork 33 (.node (.fork 27 (.node (.fork 31 (.take 32 (.node (.fork 34 (.done) (.stop)))) (.stop))) (.stop))) (.stop)))) (.fork 33 (.node (.fork 23 (.node (.fork 27 (.node (.fork 31 (.take 32 (.node (.fork 34 (.done) (.stop)))) (.stop))) (.stop))) (.stop))) (.stop)))) (.fork 33 (.node (.fork 19 (.node (.fork 23 (.node (.fork 27 (.node (.fork 31 (.take 32 (.node (.fork 34 (.done) (.stop)))) (.stop))) (.stop))) (.stop))) (.stop))) (.stop)))) (.fork 33 (.node (.fork 15 (.node (.fork 19 (.node (.fork 23 (.node (.fork 27 (.node (.fork 31 (.take 32 (.node (.fork 34 (.done) (.stop)))) (.stop))) (.stop))) (.stop))) (.stop))) (.stop))) (.stop)))) (.fork 33 (.node (.fork 11 (.node (.fork 15 (.node (.fork 19 (.node (.fork 23 (.node (.fork 27 (.node (.fork 31 (.take 32 (.node (.fork 34 (.done) (.stop)))) (.stop))) (.stop))) (.stop))) (.stop))) (.stop))) (.stop))) (.stop)))) (.fork 33 (.node (.fork 7 (.node (.fork 11 (.node (.fork 15 (.node (.fork 19 (.node (.fork 23 (.node (.fork 27 (.node (.fork 31 (.take 32 (.node (.fork 34 (.done) (.stop)))) (.stop))) (.stop))) (.stop))) (.stop))) (.stop))) (.stop))) (.stop))) (.stop)))) (.fork 33 (.node (.fork 3 (.node (.fork 7 (.node (.fork 11 (.node (.fork 15 (.node (.fork 19 (.node (.fork 23 (.node (.fork 27 (.node (.fork 31 (.take 32 (.node (.fork 34 (.done) (.stop)))) (.stop))) (.stop))) (.stop))) (.stop))) (.stop))) (.stop))) (.stop))) (.stop))) (.stop)))))))))))))))))))))))))))) (by kernel_rfl) (by kernel_rfl) (of_decide_eq_true (by kernel_rfl)) rfl (by kernel_rfl) (below_drewN (Below.refl _ _) 1) ?_
      intro w1 hH
      iterate 24
        refine tree_take (v := ?_) rfl (by rfl) ?_ ?_
        rotate_left
        · intro w2 hSw
          have x0 := (hSw.cell (p := ⟨g0 + 1, 0, none⟩) hgs).trans c0
          have x1 := (hSw.cell (p := ⟨g0 + 1, 1, none⟩) hgs).trans c1
          have x2 := (hSw.cell (p := ⟨g0 + 1, 2, none⟩) hgs).trans c2
          have x3 := (hSw.cell (p := ⟨g0 + 1, 3, none⟩) hgs).trans c3
          have x4 := (hSw.cell (p := ⟨g0 + 1, 4, none⟩) hgs).trans c4
          have x5 := (hSw.cell (p := ⟨g0 + 1, 5, none⟩) hgs).trans c5
          have x6 := (hSw.cell (p := ⟨g0 + 1, 6, none⟩) hgs).trans c6
          have x7 := (hSw.cell (p := ⟨g0 + 1, 7, none⟩) hgs).trans c7
          clear hSw
          go_simp
          try with_reducible rfl
        try simp only [Act.put, List.setIfInBounds_toArray, List.set_cons_zero, List.set_cons_succ]
      refine tree_node ?_
      refine tree_move rfl (by rfl) (fun K hK => ?_) ?_
      · go_simp
        (with_reducible refine (D0.out _).mono ?_)
        rintro e w5 ⟨rfl, hb5⟩
        refine hK.out _ _ (below_step hH.out hb5) ?_
        try (replace FB := Lib.hid (FB.out.below hb5 FB.out.lt))
        clear hH hK hb5 K
        intro hH
        try simp only [Act.put, List.setIfInBounds_toArray, List.set_cons_zero, List.set_cons_succ]
        refine tree_node ?_
        refine tree_move rfl (by rfl) (fun K hK => ?_) ?_
        · go_simp
          (with_reducible refine (D1.out _).mono ?_)
          rintro e w5 ⟨rfl, hb5⟩
          refine hK.out _ _ (below_step hH.out hb5) ?_
          try (replace FB := Lib.hid (FB.out.below hb5 FB.out.lt))
          clear hH hK hb5 K
          intro hH
          try simp only [Act.put, List.setIfInBounds_toArray, List.set_cons_zero, List.set_cons_succ]
          refine tree_node ?_
          refine tree_move rfl (by rfl) (fun K hK => ?_) ?_
          · go_simp
            (with_reducible refine (D2.out _).mono ?_)
            rintro e w5 ⟨rfl, rfl⟩
            refine hK.out _ _ (hH.out) ?_
            clear hH hK K
            intro hH
            try simp only [Act.put, List.setIfInBounds_toArray, List.set_cons_zero, List.set_cons_succ]
            refine tree_node ?_
            refine tree_move rfl (by rfl) (fun K hK => ?_) ?_
            · go_simp
              (with_reducible refine (D3.out _).mono ?_)
              rintro e w5 ⟨rfl, rfl⟩
              refine hK.out _ _ (hH.out) ?_
              clear hH hK K
              intro hH
              try simp only [Act.put, List.setIfInBounds_toArray, List.set_cons_zero, List.set_cons_succ]
              refine tree_node ?_
              refine tree_move rfl (by rfl) (fun K hK => ?_) ?_
              · go_simp
                (with_reducible refine (D4.out _).mono ?_)
                rintro e w5 ⟨rfl, rfl⟩
                refine hK.out _ _ (hH.out) ?_
                clear hH hK K
                intro hH
                try simp only [Act.put, List.setIfInBounds_toArray, List.set_cons_zero, List.set_cons_succ]
                refine tree_node ?_
                refine tree_move rfl (by rfl) (fun K hK => ?_) ?_
                · go_simp
                  (with_reducible refine (D5.out _).mono ?_)
                  rintro e w5 ⟨rfl, hb5⟩
                  refine hK.out _ _ (below_step hH.out hb5) ?_
                  try (replace FB := Lib.hid (FB.out.below hb5 FB.out.lt))
                  clear hH hK hb5 K
                  intro hH
                  try simp only [Act.put, List.setIfInBounds_toArray, List.set_cons_zero, List.set_cons_succ]
                  refine tree_node ?_
                  refine tree_move rfl (by rfl) (fun K hK => ?_) ?_
                  · go_simp
                    (with_reducible refine (D6.out _).mono ?_)
                    rintro e w5 ⟨rfl, hb5⟩
                    refine hK.out _ _ (below_step hH.out hb5) ?_
                    try (replace FB := Lib.hid (FB.out.below hb5 FB.out.lt))
                    clear hH hK hb5 K
                    intro hH
                    try simp only [Act.put, List.setIfInBounds_toArray, List.set_cons_zero, List.set_cons_succ]
                    refine tree_node ?_
                    refine tree_move rfl (by rfl) (fun K hK => ?_) ?_
                    · go_simp
                      (with_reducible refine (D7.out _).mono ?_)
                      rintro e w5 ⟨rfl, hb5⟩
                      refine hK.out _ _ (below_step hH.out hb5) ?_
                      try (replace FB := Lib.hid (FB.out.below hb5 FB.out.lt))
                      clear hH hK hb5 K
                      intro hH
                      try simp only [Act.put, List.setIfInBounds_toArray, List.set_cons_zero, List.set_cons_succ]
                      iterate 1
                        refine tree_take (v := ?_) rfl (by rfl) ?_ ?_
                        rotate_left
                        · intro w2 hSw
                          have x0 := (hSw.cell (p := ⟨g0 + 1, 0, none⟩) hgs).trans c0
                          have x1 := (hSw.cell (p := ⟨g0 + 1, 1, none⟩) hgs).trans c1
                          have x2 := (hSw.cell (p := ⟨g0 + 1, 2, none⟩) hgs).trans c2
                          have x3 := (hSw.cell (p := ⟨g0 + 1, 3, none⟩) hgs).trans c3
                          have x4 := (hSw.cell (p := ⟨g0 + 1, 4, none⟩) hgs).trans c4
                          have x5 := (hSw.cell (p := ⟨g0 + 1, 5, none⟩) hgs).trans c5
                          have x6 := (hSw.cell (p := ⟨g0 + 1, 6, none⟩) hgs).trans c6
                          have x7 := (hSw.cell (p := ⟨g0 + 1, 7, none⟩) hgs).trans c7
                          clear hSw
                          go_simp
                          try with_reducible rfl
                        try simp only [Act.put, List.setIfInBounds_toArray, List.set_cons_zero, List.set_cons_succ]
                      refine tree_node ?_
                      refine tree_move rfl (by rfl) (fun K hK => ?_) ?_
                      · go_simp
                        refine hK.out _ _ (hH.out.alloc hH.out.size _) ?_
                        have HG := Lib.hid hH.out.size
                        have FB := Lib.hid (row_new28 hH 48 (toldCells zero28))
                        clear hH hK K
                        intro hH
                        try simp only [Act.put, List.setIfInBounds_toArray, List.set_cons_zero, List.set_cons_succ]
                        refine tree_node ?_
                        refine tree_move rfl (by rfl) (fun K hK => ?_) ?_
                        · refine wp_store_row 48 _ _ rfl _ _ [.int .i64 n1, .int .i64 n2, .int .i64 n0, .int .i64 n7, .string M, .string R, .string ⟨#[]⟩, .int .i64 n5, .int .i64 n6] (toldCells zero28) rfl rfl FB.out rfl (by kernel_rfl) nine_one ?_
                          intro w7 hr7 ho7
                          refine hK.out _ _ (ho7.below hH.out HG.out) ?_
                          have FR := Lib.hid hr7
                          have HG2 := HG.out
                          clear hK K hr7 ho7 FB HG
                          intro hH
                          try simp only [Act.put]
                          refine tree_done ?_
                          go_wp2_with fail
                          go_meet
                          exact ⟨_, rfl, HG2, FR.out, hH.out⟩
                        exact tree_stop
                      exact tree_stop
                    refine tree_move rfl (by rfl) (fun K hK => ?_) ?_
                    · go_simp
                      refine hK.out _ _ (hH.out.alloc hH.out.size _) ?_
                      have HG := Lib.hid hH.out.size
                      have FB := Lib.hid (row_new28 hH 48 (toldCells zero28))
                      clear hH hK K
                      intro hH
                      try simp only [Act.put, List.setIfInBounds_toArray, List.set_cons_zero, List.set_cons_succ]
                      refine tree_node ?_
                      refine tree_move rfl (by rfl) (fun K hK => ?_) ?_
                      · go_simp
                        (with_reducible refine (D7.out _).mono ?_)
                        rintro e w5 ⟨rfl, hb5⟩
                        refine hK.out _ _ (below_step hH.out hb5) ?_
                        try (replace FB := Lib.hid (FB.out.below hb5 FB.out.lt))
                        clear hH hK hb5 K
                        intro hH
                        try simp only [Act.put, List.setIfInBounds_toArray, List.set_cons_zero, List.set_cons_succ]
                        iterate 1
                          refine tree_take (v := ?_) rfl (by rfl) ?_ ?_
                          rotate_left
                          · intro w2 hSw
                            have x0 := (hSw.cell (p := ⟨g0 + 1, 0, none⟩) hgs).trans c0
                            have x1 := (hSw.cell (p := ⟨g0 + 1, 1, none⟩) hgs).trans c1
                            have x2 := (hSw.cell (p := ⟨g0 + 1, 2, none⟩) hgs).trans c2
                            have x3 := (hSw.cell (p := ⟨g0 + 1, 3, none⟩) hgs).trans c3
                            have x4 := (hSw.cell (p := ⟨g0 + 1, 4, none⟩) hgs).trans c4
                            have x5 := (hSw.cell (p := ⟨g0 + 1, 5, none⟩) hgs).trans c5
                            have x6 := (hSw.cell (p := ⟨g0 + 1, 6, none⟩) hgs).trans c6
                            have x7 := (hSw.cell (p := ⟨g0 + 1, 7, none⟩) hgs).trans c7
                            clear hSw
                            go_simp
                            try with_reducible rfl
                          try simp only [Act.put, List.setIfInBounds_toArray, List.set_cons_zero, List.set_cons_succ]
                        refine tree_node ?_
                        refine tree_move rfl (by rfl) (fun K hK => ?_) ?_
                        · refine wp_store_row 48 _ _ rfl _ _ [.int .i64 n1, .int .i64 n2, .int .i64 n0, .int .i64 n7, .string M, .string R, .string ⟨#[]⟩, .int .i64 n5, .int .i64 n6] (toldCells zero28) rfl rfl FB.out rfl (by kernel_rfl) nine_one ?_
                          intro w7 hr7 ho7
                          refine hK.out _ _ (ho7.below hH.out HG.out) ?_
                          have FR := Lib.hid hr7
                          have HG2 := HG.out
                          clear hK K hr7 ho7 FB HG
                          intro hH
                          try simp only [Act.put]
                          refine tree_done ?_
                          go_wp2_with fail
                          go_meet
                          exact ⟨_, rfl, HG2, FR.out, hH.out⟩
                        exact tree_stop
                      exact tree_stop
                    exact tree_stop
                  refine tree_move rfl (by rfl) (fun K hK => ?_) ?_
                  · go_simp
                    refine hK.out _ _ (hH.out.alloc hH.out.size _) ?_
                    have HG := Lib.hid hH.out.size
                    have FB := Lib.hid (row_new28 hH 48 (toldCells zero28))
                    clear hH hK K
                    intro hH
                    try simp only [Act.put, List.setIfInBounds_toArray, List.set_cons_zero, List.set_cons_succ]
                    refine tree_node ?_
                    refine tree_move rfl (by rfl) (fun K hK => ?_) ?_
                    · go_simp
                      (with_reducible refine (D6.out _).mono ?_)
                      rintro e w5 ⟨rfl, hb5⟩
                      refine hK.out _ _ (below_step hH.out hb5) ?_
                      try (replace FB := Lib.hid (FB.out.below hb5 FB.out.lt))
                      clear hH hK hb5 K
                      intro hH
                      try simp only [Act.put, List.setIfInBounds_toArray, List.set_cons_zero, List.set_cons_succ]
                      refine tree_node ?_
                      refine tree_move rfl (by rfl) (fun K hK => ?_) ?_
                      · go_simp
                        (with_reducible refine (D7.out _).mono ?_)
                        rintro e w5 ⟨rfl, hb5⟩
                        refine hK.out _ _ (below_step hH.out hb5) ?_
                        try (replace FB := Lib.hid (FB.out.below hb5 FB.out.lt))
                        clear hH hK hb5 K
                        intro hH
                        try simp only [Act.put, List.setIfInBounds_toArray, List.set_cons_zero, List.set_cons_succ]
                        iterate 1
                          refine tree_take (v := ?_) rfl (by rfl) ?_ ?_
                          rotate_left
                          · intro w2 hSw
                            have x0 := (hSw.cell (p := ⟨g0 + 1, 0, none⟩) hgs).trans c0
                            have x1 := (hSw.cell (p := ⟨g0 + 1, 1, none⟩) hgs).trans c1
                            have x2 := (hSw.cell (p := ⟨g0 + 1, 2, none⟩) hgs).trans c2
                            have x3 := (hSw.cell (p := ⟨g0 + 1, 3, none⟩) hgs).trans c3
                            have x4 := (hSw.cell (p := ⟨g0 + 1, 4, none⟩) hgs).trans c4
                            have x5 := (hSw.cell (p := ⟨g0 + 1, 5, none⟩) hgs).trans c5
                            have x6 := (hSw.cell (p := ⟨g0 + 1, 6, none⟩) hgs).trans c6
                            have x7 := (hSw.cell (p := ⟨g0 + 1, 7, none⟩) hgs).trans c7
                            clear hSw
                            go_simp
                            try with_reducible rfl
                          try simp only [Act.put, List.setIfInBounds_toArray, List.set_cons_zero, List.set_cons_succ]
                        refine tree_node ?_
                        refine tree_move rfl (by rfl) (fun K hK => ?_) ?_
                        · refine wp_store_row 48 _ _ rfl _ _ [.int .i64 n1, .int .i64 n2, .int .i64 n0, .int .i64 n7, .string M, .string R, .string ⟨#[]⟩, .int .i64 n5, .int .i64 n6] (toldCells zero28) rfl rfl FB.out rfl (by kernel_rfl) nine_one ?_
                          intro w7 hr7 ho7
                          refine hK.out _ _ (ho7.below hH.out HG.out) ?_
                          have FR := Lib.hid hr7
                          have HG2 := HG.out
                          clear hK K hr7 ho7 FB HG
                          intro hH
                          try simp only [Act.put]
                          refine tree_done ?_
                          go_wp2_with fail
                          go_meet
                          exact ⟨_, rfl, HG2, FR.out, hH.out⟩
                        exact tree_stop
                      exact tree_stop
                    exact tree_stop
                  exact tree_stop
                refine tree_move rfl (by rfl) (fun K hK => ?_) ?_
                · go_simp
                  refine hK.out _ _ (hH.out.alloc hH.out.size _) ?_
                  have HG := Lib.hid hH.out.size
                  have FB := Lib.hid (row_new28 hH 48 (toldCells zero28))
                  clear hH hK K
                  intro hH
                  try simp only [Act.put, List.setIfInBounds_toArray, List.set_cons_zero, List.set_cons_succ]
                  refine tree_node ?_
                  refine tree_move rfl (by rfl) (fun K hK => ?_) ?_
                  · go_simp
                    (with_reducible refine (D5.out _).mono ?_)
                    rintro e w5 ⟨rfl, hb5⟩
                    refine hK.out _ _ (below_step hH.out hb5) ?_
                    try (replace FB := Lib.hid (FB.out.below hb5 FB.out.lt))
                    clear hH hK hb5 K
                    intro hH
                    try simp only [Act.put, List.setIfInBounds_toArray, List.set_cons_zero, List.set_cons_succ]
                    refine tree_node ?_
                    refine tree_move rfl (by rfl) (fun K hK => ?_) ?_
                    · go_simp
                      (with_reducible refine (D6.out _).mono ?_)
                      rintro e w5 ⟨rfl, hb5⟩
                      refine hK.out _ _ (below_step hH.out hb5) ?_
                      try (replace FB := Lib.hid (FB.out.below hb5 FB.out.lt))
                      clear hH hK hb5 K
                      intro hH
                      try simp only [Act.put, List.setIfInBounds_toArray, List.set_cons_zero, List.set_cons_succ]
                      refine tree_node ?_
                      refine tree_move rfl (by rfl) (fun K hK => ?_) ?_
                      · go_simp
                        (with_reducible refine (D7.out _).mono ?_)
                        rintro e w5 ⟨rfl, hb5⟩
                        refine hK.out _ _ (below_step hH.out hb5) ?_
                        try (replace FB := Lib.hid (FB.out.below hb5 FB.out.lt))
                        clear hH hK hb5 K
                        intro hH
                        try simp only [Act.put, List.setIfInBounds_toArray, List.set_cons_zero, List.set_cons_succ]
                        iterate 1
                          refine tree_take (v := ?_) rfl (by rfl) ?_ ?_
                          rotate_left
                          · intro w2 hSw
                            have x0 := (hSw.cell (p := ⟨g0 + 1, 0, none⟩) hgs).trans c0
                            have x1 := (hSw.cell (p := ⟨g0 + 1, 1, none⟩) hgs).trans c1
                            have x2 := (hSw.cell (p := ⟨g0 + 1, 2, none⟩) hgs).trans c2
                            have x3 := (hSw.cell (p := ⟨g0 + 1, 3, none⟩) hgs).trans c3
                            have x4 := (hSw.cell (p := ⟨g0 + 1, 4, none⟩) hgs).trans c4
                            have x5 := (hSw.cell (p := ⟨g0 + 1, 5, none⟩) hgs).trans c5
                            have x6 := (hSw.cell (p := ⟨g0 + 1, 6, none⟩) hgs).trans c6
                            have x7 := (hSw.cell (p := ⟨g0 + 1, 7, none⟩) hgs).trans c7
                            clear hSw
                            go_simp
                            try with_reducible rfl
                          try simp only [Act.put, List.setIfInBounds_toArray, List.set_cons_zero, List.set_cons_succ]
                        refine tree_node ?_
                        refine tree_move rfl (by rfl) (fun K hK => ?_) ?_
                        · refine wp_store_row 48 _ _ rfl _ _ [.int .i64 n1, .int .i64 n2, .int .i64 n0, .int .i64 n7, .string M, .string R, .string ⟨#[]⟩, .int .i64 n5, .int .i64 n6] (toldCells zero28) rfl rfl FB.out rfl (by kernel_rfl) nine_one ?_
                          intro w7 hr7 ho7
                          refine hK.out _ _ (ho7.below hH.out HG.out) ?_
                          have FR := Lib.hid hr7
                          have HG2 := HG.out
                          clear hK K hr7 ho7 FB HG
                          intro hH
                          try simp only [Act.put]
                          refine tree_done ?_
                          go_wp2_with fail
                          go_meet
                          exact ⟨_, rfl, HG2, FR.out, hH.out⟩
                        exact tree_stop
                      exact tree_stop
                    exact tree_stop
                  exact tree_stop
                exact tree_stop
              refine tree_move rfl (by rfl) (fun K hK => ?_) ?_
              · go_simp
                refine hK.out _ _ (hH.out.alloc hH.out.size _) ?_
                have HG := Lib.hid hH.out.size
                have FB := Lib.hid (row_new28 hH 48 (toldCells zero28))
                clear hH hK K
                intro hH
                try simp only [Act.put, List.setIfInBounds_toArray, List.set_cons_zero, List.set_cons_succ]
                refine tree_node ?_
                refine tree_move rfl (by rfl) (fun K hK => ?_) ?_
                · go_simp
                  (with_reducible refine (D4.out _).mono ?_)
                  rintro e w5 ⟨rfl, rfl⟩
                  refine hK.out _ _ (hH.out) ?_
                  clear hH hK K
                  intro hH
                  try simp only [Act.put, List.setIfInBounds_toArray, List.set_cons_zero, List.set_cons_succ]
                  refine tree_node ?_
                  refine tree_move rfl (by rfl) (fun K hK => ?_) ?_
                  · go_simp
                    (with_reducible refine (D5.out _).mono ?_)
                    rintro e w5 ⟨rfl, hb5⟩
                    refine hK.out _ _ (below_step hH.out hb5) ?_
                    try (replace FB := Lib.hid (FB.out.below hb5 FB.out.lt))
                    clear hH hK hb5 K
                    intro hH
                    try simp only [Act.put, List.setIfInBounds_toArray, List.set_cons_zero, List.set_cons_succ]
                    refine tree_node ?_
                    refine tree_move rfl (by rfl) (fun K hK => ?_) ?_
                    · go_simp
                      (with_reducible refine (D6.out _).mono ?_)
                      rintro e w5 ⟨rfl, hb5⟩
                      refine hK.out _ _ (below_step hH.out hb5) ?_
                      try (replace FB := Lib.hid (FB.out.below hb5 FB.out.lt))
                      clear hH hK hb5 K
                      intro hH
                      try simp only [Act.put, List.setIfInBounds_toArray, List.set_cons_zero, List.set_cons_succ]
                      refine tree_node ?_
                      refine tree_move rfl (by rfl) (fun K hK => ?_) ?_
                      · go_simp
                        (with_reducible refine (D7.out _).mono ?_)
                        rintro e w5 ⟨rfl, hb5⟩
                        refine hK.out _ _ (below_step hH.out hb5) ?_
                        try (replace FB := Lib.hid (FB.out.below hb5 FB.out.lt))
                        clear hH hK hb5 K
                        intro hH
                        try simp only [Act.put, List.setIfInBounds_toArray, List.set_cons_zero, List.set_cons_succ]
                        iterate 1
                          refine tree_take (v := ?_) rfl (by rfl) ?_ ?_
                          rotate_left
                          · intro w2 hSw
                            have x0 := (hSw.cell (p := ⟨g0 + 1, 0, none⟩) hgs).trans c0
                            have x1 := (hSw.cell (p := ⟨g0 + 1, 1, none⟩) hgs).trans c1
                            have x2 := (hSw.cell (p := ⟨g0 + 1, 2, none⟩) hgs).trans c2
                            have x3 := (hSw.cell (p := ⟨g0 + 1, 3, none⟩) hgs).trans c3
                            have x4 := (hSw.cell (p := ⟨g0 + 1, 4, none⟩) hgs).trans c4
                            have x5 := (hSw.cell (p := ⟨g0 + 1, 5, none⟩) hgs).trans c5
                            have x6 := (hSw.cell (p := ⟨g0 + 1, 6, none⟩) hgs).trans c6
                            have x7 := (hSw.cell (p := ⟨g0 + 1, 7, none⟩) hgs).trans c7
                            clear hSw
                            go_simp
                            try with_reducible rfl
                          try simp only [Act.put, List.setIfInBounds_toArray, List.set_cons_zero, List.set_cons_succ]
                        refine tree_node ?_
                        refine tree_move rfl (by rfl) (fun K hK => ?_) ?_
                        · refine wp_store_row 48 _ _ rfl _ _ [.int .i64 n1, .int .i64 n2, .int .i64 n0, .int .i64 n7, .string M, .string R, .string ⟨#[]⟩, .int .i64 n5, .int .i64 n6] (toldCells zero28) rfl rfl FB.out rfl (by kernel_rfl) nine_one ?_
                          intro w7 hr7 ho7
                          refine hK.out _ _ (ho7.below hH.out HG.out) ?_
                          have FR := Lib.hid hr7
                          have HG2 := HG.out
                          clear hK K hr7 ho7 FB HG
                          intro hH
                          try simp only [Act.put]
                          refine tree_done ?_
                          go_wp2_with fail
                          go_meet
                          exact ⟨_, rfl, HG2, FR.out, hH.out⟩
                        exact tree_stop
                      exact tree_stop
                    exact tree_stop
                  exact tree_stop
                exact tree_stop
              exact tree_stop
            refine tree_move rfl (by rfl) (fun K hK => ?_) ?_
            · go_simp
              refine hK.out _ _ (hH.out.alloc hH.out.size _) ?_
              have HG := Lib.hid hH.out.size
              have FB := Lib.hid (row_new28 hH 48 (toldCells zero28))
              clear hH hK K
              intro hH
              try simp only [Act.put, List.setIfInBounds_toArray, List.set_cons_zero, List.set_cons_succ]
              refine tree_node ?_
              refine tree_move rfl (by rfl) (fun K hK => ?_) ?_
              · go_simp
                (with_reducible refine (D3.out _).mono ?_)
                rintro e w5 ⟨rfl, rfl⟩
                refine hK.out _ _ (hH.out) ?_
                clear hH hK K
                intro hH
                try simp only [Act.put, List.setIfInBounds_toArray, List.set_cons_zero, List.set_cons_succ]
                refine tree_node ?_
                refine tree_move rfl (by rfl) (fun K hK => ?_) ?_
                · go_simp
                  (with_reducible refine (D4.out _).mono ?_)
                  rintro e w5 ⟨rfl, rfl⟩
                  refine hK.out _ _ (hH.out) ?_
                  clear hH hK K
                  intro hH
                  try simp only [Act.put, List.setIfInBounds_toArray, List.set_cons_zero, List.set_cons_succ]
                  refine tree_node ?_
                  refine tree_move rfl (by rfl) (fun K hK => ?_) ?_
                  · go_simp
                    (with_reducible refine (D5.out _).mono ?_)
                    rintro e w5 ⟨rfl, hb5⟩
                    refine hK.out _ _ (below_step hH.out hb5) ?_
                    try (replace FB := Lib.hid (FB.out.below hb5 FB.out.lt))
                    clear hH hK hb5 K
                    intro hH
                    try simp only [Act.put, List.setIfInBounds_toArray, List.set_cons_zero, List.set_cons_succ]
                    refine tree_node ?_
                    refine tree_move rfl (by rfl) (fun K hK => ?_) ?_
                    · go_simp
                      (with_reducible refine (D6.out _).mono ?_)
                      rintro e w5 ⟨rfl, hb5⟩
                      refine hK.out _ _ (below_step hH.out hb5) ?_
                      try (replace FB := Lib.hid (FB.out.below hb5 FB.out.lt))
                      clear hH hK hb5 K
                      intro hH
                      try simp only [Act.put, List.setIfInBounds_toArray, List.set_cons_zero, List.set_cons_succ]
                      refine tree_node ?_
                      refine tree_move rfl (by rfl) (fun K hK => ?_) ?_
                      · go_simp
                        (with_reducible refine (D7.out _).mono ?_)
                        rintro e w5 ⟨rfl, hb5⟩
                        refine hK.out _ _ (below_step hH.out hb5) ?_
                        try (replace FB := Lib.hid (FB.out.below hb5 FB.out.lt))
                        clear hH hK hb5 K
                        intro hH
                        try simp only [Act.put, List.setIfInBounds_toArray, List.set_cons_zero, List.set_cons_succ]
                        iterate 1
                          refine tree_take (v := ?_) rfl (by rfl) ?_ ?_
                          rotate_left
                          · intro w2 hSw
                            have x0 := (hSw.cell (p := ⟨g0 + 1, 0, none⟩) hgs).trans c0
                            have x1 := (hSw.cell (p := ⟨g0 + 1, 1, none⟩) hgs).trans c1
                            have x2 := (hSw.cell (p := ⟨g0 + 1, 2, none⟩) hgs).trans c2
                            have x3 := (hSw.cell (p := ⟨g0 + 1, 3, none⟩) hgs).trans c3
                            have x4 := (hSw.cell (p := ⟨g0 + 1, 4, none⟩) hgs).trans c4
                            have x5 := (hSw.cell (p := ⟨g0 + 1, 5, none⟩) hgs).trans c5
                            have x6 := (hSw.cell (p := ⟨g0 + 1, 6, none⟩) hgs).trans c6
                            have x7 := (hSw.cell (p := ⟨g0 + 1, 7, none⟩) hgs).trans c7
                            clear hSw
                            go_simp
                            try with_reducible rfl
                          try simp only [Act.put, List.setIfInBounds_toArray, List.set_cons_zero, List.set_cons_succ]
                        refine tree_node ?_
                        refine tree_move rfl (by rfl) (fun K hK => ?_) ?_
                        · refine wp_store_row 48 _ _ rfl _ _ [.int .i64 n1, .int .i64 n2, .int .i64 n0, .int .i64 n7, .string M, .string R, .string ⟨#[]⟩, .int .i64 n5, .int .i64 n6] (toldCells zero28) rfl rfl FB.out rfl (by kernel_rfl) nine_one ?_
                          intro w7 hr7 ho7
                          refine hK.out _ _ (ho7.below hH.out HG.out) ?_
                          have FR := Lib.hid hr7
                          have HG2 := HG.out
                          clear hK K hr7 ho7 FB HG
                          intro hH
                          try simp only [Act.put]
                          refine tree_done ?_
                          go_wp2_with fail
                          go_meet
                          exact ⟨_, rfl, HG2, FR.out, hH.out⟩
                        exact tree_stop
                      exact tree_stop
                    exact tree_stop
                  exact tree_stop
                exact tree_stop
              exact tree_stop
            exact tree_stop
          refine tree_move rfl (by rfl) (fun K hK => ?_) ?_
          · go_simp
            refine hK.out _ _ (hH.out.alloc hH.out.size _) ?_
            have HG := Lib.hid hH.out.size
            have FB := Lib.hid (row_new28 hH 48 (toldCells zero28))
            clear hH hK K
            intro hH
            try simp only [Act.put, List.setIfInBounds_toArray, List.set_cons_zero, List.set_cons_succ]
            refine tree_node ?_
            refine tree_move rfl (by rfl) (fun K hK => ?_) ?_
            · go_simp
              (with_reducible refine (D2.out _).mono ?_)
              rintro e w5 ⟨rfl, rfl⟩
              refine hK.out _ _ (hH.out) ?_
              clear hH hK K
              intro hH
              try simp only [Act.put, List.setIfInBounds_toArray, List.set_cons_zero, List.set_cons_succ]
              refine tree_node ?_
              refine tree_move rfl (by rfl) (fun K hK => ?_) ?_
              · go_simp
                (with_reducible refine (D3.out _).mono ?_)
                rintro e w5 ⟨rfl, rfl⟩
                refine hK.out _ _ (hH.out) ?_
                clear hH hK K
                intro hH
                try simp only [Act.put, List.setIfInBounds_toArray, List.set_cons_zero, List.set_cons_succ]
                refine tree_node ?_
                refine tree_move rfl (by rfl) (fun K hK => ?_) ?_
                · go_simp
                  (with_reducible refine (D4.out _).mono ?_)
                  rintro e w5 ⟨rfl, rfl⟩
                  refine hK.out _ _ (hH.out) ?_
                  clear hH hK K
                  intro hH
                  try simp only [Act.put, List.setIfInBounds_toArray, List.set_cons_zero, List.set_cons_succ]
                  refine tree_node ?_
                  refine tree_move rfl (by rfl) (fun K hK => ?_) ?_
                  · go_simp
                    (with_reducible refine (D5.out _).mono ?_)
                    rintro e w5 ⟨rfl, hb5⟩
                    refine hK.out _ _ (below_step hH.out hb5) ?_
                    try (replace FB := Lib.hid (FB.out.below hb5 FB.out.lt))
                    clear hH hK hb5 K
                    intro hH
                    try simp only [Act.put, List.setIfInBounds_toArray, List.set_cons_zero, List.set_cons_succ]
                    refine tree_node ?_
                    refine tree_move rfl (by rfl) (fun K hK => ?_) ?_
                    · go_simp
                      (with_reducible refine (D6.out _).mono ?_)
                      rintro e w5 ⟨rfl, hb5⟩
                      refine hK.out _ _ (below_step hH.out hb5) ?_
                      try (replace FB := Lib.hid (FB.out.below hb5 FB.out.lt))
                      clear hH hK hb5 K
                      intro hH
                      try simp only [Act.put, List.setIfInBounds_toArray, List.set_cons_zero, List.set_cons_succ]
                      refine tree_node ?_
                      refine tree_move rfl (by rfl) (fun K hK => ?_) ?_
                      · go_simp
                        (with_reducible refine (D7.out _).mono ?_)
                        rintro e w5 ⟨rfl, hb5⟩
                        refine hK.out _ _ (below_step hH.out hb5) ?_
                        try (replace FB := Lib.hid (FB.out.below hb5 FB.out.lt))
                        clear hH hK hb5 K
                        intro hH
                        try simp only [Act.put, List.setIfInBounds_toArray, List.set_cons_zero, List.set_cons_succ]
                        iterate 1
                          refine tree_take (v := ?_) rfl (by rfl) ?_ ?_
                          rotate_left
                          · intro w2 hSw
                            have x0 := (hSw.cell (p := ⟨g0 + 1, 0, none⟩) hgs).trans c0
                            have x1 := (hSw.cell (p := ⟨g0 + 1, 1, none⟩) hgs).trans c1
                            have x2 := (hSw.cell (p := ⟨g0 + 1, 2, none⟩) hgs).trans c2
                            have x3 := (hSw.cell (p := ⟨g0 + 1, 3, none⟩) hgs).trans c3
                            have x4 := (hSw.cell (p := ⟨g0 + 1, 4, none⟩) hgs).trans c4
                            have x5 := (hSw.cell (p := ⟨g0 + 1, 5, none⟩) hgs).trans c5
                            have x6 := (hSw.cell (p := ⟨g0 + 1, 6, none⟩) hgs).trans c6
                            have x7 := (hSw.cell (p := ⟨g0 + 1, 7, none⟩) hgs).trans c7
                            clear hSw
                            go_simp
                            try with_reducible rfl
                          try simp only [Act.put, List.setIfInBounds_toArray, List.set_cons_zero, List.set_cons_succ]
                        refine tree_node ?_
                        refine tree_move rfl (by rfl) (fun K hK => ?_) ?_
                        · refine wp_store_row 48 _ _ rfl _ _ [.int .i64 n1, .int .i64 n2, .int .i64 n0, .int .i64 n7, .string M, .string R, .string ⟨#[]⟩, .int .i64 n5, .int .i64 n6] (toldCells zero28) rfl rfl FB.out rfl (by kernel_rfl) nine_one ?_
                          intro w7 hr7 ho7
                          refine hK.out _ _ (ho7.below hH.out HG.out) ?_
                          have FR := Lib.hid hr7
                          have HG2 := HG.out
                          clear hK K hr7 ho7 FB HG
                          intro hH
                          try simp only [Act.put]
                          refine tree_done ?_
                          go_wp2_with fail
                          go_meet
                          exact ⟨_, rfl, HG2, FR.out, hH.out⟩
                        exact tree_stop
                      exact tree_stop
                    exact tree_stop
                  exact tree_stop
                exact tree_stop
              exact tree_stop
            exact tree_stop
          exact tree_stop
        refine tree_move rfl (by rfl) (fun K hK => ?_) ?_
        · go_simp
          refine hK.out _ _ (hH.out.alloc hH.out.size _) ?_
          have HG := Lib.hid hH.out.size
          have FB := Lib.hid (row_new28 hH 48 (toldCells zero28))
          clear hH hK K
          intro hH
          try simp only [Act.put, List.setIfInBounds_toArray, List.set_cons_zero, List.set_cons_succ]
          refine tree_node ?_
          refine tree_move rfl (by rfl) (fun K hK => ?_) ?_
          · go_simp
            (with_reducible refine (D1.out _).mono ?_)
            rintro e w5 ⟨rfl, hb5⟩
            refine hK.out _ _ (below_step hH.out hb5) ?_
            try (replace FB := Lib.hid (FB.out.below hb5 FB.out.lt))
            clear hH hK hb5 K
            intro hH
            try simp only [Act.put, List.setIfInBounds_toArray, List.set_cons_zero, List.set_cons_succ]
            refine tree_node ?_
            refine tree_move rfl (by rfl) (fun K hK => ?_) ?_
            · go_simp
              (with_reducible refine (D2.out _).mono ?_)
              rintro e w5 ⟨rfl, rfl⟩
              refine hK.out _ _ (hH.out) ?_
              clear hH hK K
              intro hH
              try simp only [Act.put, List.setIfInBounds_toArray, List.set_cons_zero, List.set_cons_succ]
              refine tree_node ?_
              refine tree_move rfl (by rfl) (fun K hK => ?_) ?_
              · go_simp
                (with_reducible refine (D3.out _).mono ?_)
                rintro e w5 ⟨rfl, rfl⟩
                refine hK.out _ _ (hH.out) ?_
                clear hH hK K
                intro hH
                try simp only [Act.put, List.setIfInBounds_toArray, List.set_cons_zero, List.set_cons_succ]
                refine tree_node ?_
                refine tree_move rfl (by rfl) (fun K hK => ?_) ?_
                · go_simp
                  (with_reducible refine (D4.out _).mono ?_)
                  rintro e w5 ⟨rfl, rfl⟩
                  refine hK.out _ _ (hH.out) ?_
                  clear hH hK K
                  intro hH
                  try simp only [Act.put, List.setIfInBounds_toArray, List.set_cons_zero, List.set_cons_succ]
                  refine tree_node ?_
                  refine tree_move rfl (by rfl) (fun K hK => ?_) ?_
                  · go_simp
                    (with_reducible refine (D5.out _).mono ?_)
                    rintro e w5 ⟨rfl, hb5⟩
                    refine hK.out _ _ (below_step hH.out hb5) ?_
                    try (replace FB := Lib.hid (FB.out.below hb5 FB.out.lt))
                    clear hH hK hb5 K
                    intro hH
                    try simp only [Act.put, List.setIfInBounds_toArray, List.set_cons_zero, List.set_cons_succ]
                    refine tree_node ?_
                    refine tree_move rfl (by rfl) (fun K hK => ?_) ?_
                    · go_simp
                      (with_reducible refine (D6.out _).mono ?_)
                      rintro e w5 ⟨rfl, hb5⟩
                      refine hK.out _ _ (below_step hH.out hb5) ?_
                      try (replace FB := Lib.hid (FB.out.below hb5 FB.out.lt))
                      clear hH hK hb5 K
                      intro hH
                      try simp only [Act.put, List.setIfInBounds_toArray, List.set_cons_zero, List.set_cons_succ]
                      refine tree_node ?_
                      refine tree_move rfl (by rfl) (fun K hK => ?_) ?_
                      · go_simp
                        (with_reducible refine (D7.out _).mono ?_)
                        rintro e w5 ⟨rfl, hb5⟩
                        refine hK.out _ _ (below_step hH.out hb5) ?_
                        try (replace FB := Lib.hid (FB.out.below hb5 FB.out.lt))
                        clear hH hK hb5 K
                        intro hH
                        try simp only [Act.put, List.setIfInBounds_toArray, List.set_cons_zero, List.set_cons_succ]
                        iterate 1
                          refine tree_take (v := ?_) rfl (by rfl) ?_ ?_
                          rotate_left
                          · intro w2 hSw
                            have x0 := (hSw.cell (p := ⟨g0 + 1, 0, none⟩) hgs).trans c0
                            have x1 := (hSw.cell (p := ⟨g0 + 1, 1, none⟩) hgs).trans c1
                            have x2 := (hSw.cell (p := ⟨g0 + 1, 2, none⟩) hgs).trans c2
                            have x3 := (hSw.cell (p := ⟨g0 + 1, 3, none⟩) hgs).trans c3
                            have x4 := (hSw.cell (p := ⟨g0 + 1, 4, none⟩) hgs).trans c4
                            have x5 := (hSw.cell (p := ⟨g0 + 1, 5, none⟩) hgs).trans c5
                            have x6 := (hSw.cell (p := ⟨g0 + 1, 6, none⟩) hgs).trans c6
                            have x7 := (hSw.cell (p := ⟨g0 + 1, 7, none⟩) hgs).trans c7
                            clear hSw
                            go_simp
                            try with_reducible rfl
                          try simp only [Act.put, List.setIfInBounds_toArray, List.set_cons_zero, List.set_cons_succ]
                        refine tree_node ?_
                        refine tree_move rfl (by rfl) (fun K hK => ?_) ?_
                        · refine wp_store_row 48 _ _ rfl _ _ [.int .i64 n1, .int .i64 n2, .int .i64 n0, .int .i64 n7, .string M, .string R, .string ⟨#[]⟩, .int .i64 n5, .int .i64 n6] (toldCells zero28) rfl rfl FB.out rfl (by kernel_rfl) nine_one ?_
                          intro w7 hr7 ho7
                          refine hK.out _ _ (ho7.below hH.out HG.out) ?_
                          have FR := Lib.hid hr7
                          have HG2 := HG.out
                          clear hK K hr7 ho7 FB HG
                          intro hH
                          try simp only [Act.put]
                          refine tree_done ?_
                          go_wp2_with fail
                          go_meet
                          exact ⟨_, rfl, HG2, FR.out, hH.out⟩
                        exact tree_stop
                      exact tree_stop
                    exact tree_stop
                  exact tree_stop
                exact tree_stop
              exact tree_stop
            exact tree_stop
          exact tree_stop
        exact tree_stop
      refine tree_move rfl (by rfl) (fun K hK => ?_) ?_
      · go_simp
        refine hK.out _ _ (hH.out.alloc hH.out.size _) ?_
        have HG := Lib.hid hH.out.size
        have FB := Lib.hid (row_new28 hH 48 (toldCells zero28))
        clear hH hK K
        intro hH
        try simp only [Act.put, List.setIfInBounds_toArray, List.set_cons_zero, List.set_cons_succ]
        refine tree_node ?_
        refine tree_move rfl (by rfl) (fun K hK => ?_) ?_
        · go_simp
          (with_reducible refine (D0.out _).mono ?_)
          rintro e w5 ⟨rfl, hb5⟩
          refine hK.out _ _ (below_step hH.out hb5) ?_
          try (replace FB := Lib.hid (FB.out.below hb5 FB.out.lt))
          clear hH hK hb5 K
          intro hH
          try simp only [Act.put, List.setIfInBounds_toArray, List.set_cons_zero, List.set_cons_succ]
          refine tree_node ?_
          refine tree_move rfl (by rfl) (fun K hK => ?_) ?_
          · go_simp
            (with_reducible refine (D1.out _).mono ?_)
            rintro e w5 ⟨rfl, hb5⟩
            refine hK.out _ _ (below_step hH.out hb5) ?_
            try (replace FB := Lib.hid (FB.out.below hb5 FB.out.lt))
            clear hH hK hb5 K
            intro hH
            try simp only [Act.put, List.setIfInBounds_toArray, List.set_cons_zero, List.set_cons_succ]
            refine tree_node ?_
            refine tree_move rfl (by rfl) (fun K hK => ?_) ?_
            · go_simp
              (with_reducible refine (D2.out _).mono ?_)
              rintro e w5 ⟨rfl, rfl⟩
              refine hK.out _ _ (hH.out) ?_
              clear hH hK K
              intro hH
              try simp only [Act.put, List.setIfInBounds_toArray, List.set_cons_zero, List.set_cons_succ]
              refine tree_node ?_
              refine tree_move rfl (by rfl) (fun K hK => ?_) ?_
              · go_simp
                (with_reducible refine (D3.out _).mono ?_)
                rintro e w5 ⟨rfl, rfl⟩
                refine hK.out _ _ (hH.out) ?_
                clear hH hK K
                intro hH
                try simp only [Act.put, List.setIfInBounds_toArray, List.set_cons_zero, List.set_cons_succ]
                refine tree_node ?_
                refine tree_move rfl (by rfl) (fun K hK => ?_) ?_
                · go_simp
                  (with_reducible refine (D4.out _).mono ?_)
                  rintro e w5 ⟨rfl, rfl⟩
                  refine hK.out _ _ (hH.out) ?_
                  clear hH hK K
                  intro hH
                  try simp only [Act.put, List.setIfInBounds_toArray, List.set_cons_zero, List.set_cons_succ]
                  refine tree_node ?_
                  refine tree_move rfl (by rfl) (fun K hK => ?_) ?_
                  · go_simp
                    (with_reducible refine (D5.out _).mono ?_)
                    rintro e w5 ⟨rfl, hb5⟩
                    refine hK.out _ _ (below_step hH.out hb5) ?_
                    try (replace FB := Lib.hid (FB.out.below hb5 FB.out.lt))
                    clear hH hK hb5 K
                    intro hH
                    try simp only [Act.put, List.setIfInBounds_toArray, List.set_cons_zero, List.set_cons_succ]
                    refine tree_node ?_
                    refine tree_move rfl (by rfl) (fun K hK => ?_) ?_
                    · go_simp
                      (with_reducible refine (D6.out _).mono ?_)
                      rintro e w5 ⟨rfl, hb5⟩
                      refine hK.out _ _ (below_step hH.out hb5) ?_
                      try (replace FB := Lib.hid (FB.out.below hb5 FB.out.lt))
                      clear hH hK hb5 K
                      intro hH
                      try simp only [Act.put, List.setIfInBounds_toArray, List.set_cons_zero, List.set_cons_succ]
                      refine tree_node ?_
                      refine tree_move rfl (by rfl) (fun K hK => ?_) ?_
                      · go_simp
                        (with_reducible refine (D7.out _).mono ?_)
                        rintro e w5 ⟨rfl, hb5⟩
                        refine hK.out _ _ (below_step hH.out hb5) ?_
                        try (replace FB := Lib.hid (FB.out.below hb5 FB.out.lt))
                        clear hH hK hb5 K
                        intro hH
                        try simp only [Act.put, List.setIfInBounds_toArray, List.set_cons_zero, List.set_cons_succ]
                        iterate 1
                          refine tree_take (v := ?_) rfl (by rfl) ?_ ?_
                          rotate_left
                          · intro w2 hSw
                            have x0 := (hSw.cell (p := ⟨g0 + 1, 0, none⟩) hgs).trans c0
                            have x1 := (hSw.cell (p := ⟨g0 + 1, 1, none⟩) hgs).trans c1
                            have x2 := (hSw.cell (p := ⟨g0 + 1, 2, none⟩) hgs).trans c2
                            have x3 := (hSw.cell (p := ⟨g0 + 1, 3, none⟩) hgs).trans c3
                            have x4 := (hSw.cell (p := ⟨g0 + 1, 4, none⟩) hgs).trans c4
                            have x5 := (hSw.cell (p := ⟨g0 + 1, 5, none⟩) hgs).trans c5
                            have x6 := (hSw.cell (p := ⟨g0 + 1, 6, none⟩) hgs).trans c6
                            have x7 := (hSw.cell (p := ⟨g0 + 1, 7, none⟩) hgs).trans c7
                            clear hSw
                            go_simp
                            try with_reducible rfl
                          try simp only [Act.put, List.setIfInBounds_toArray, List.set_cons_zero, List.set_cons_succ]
                        refine tree_node ?_
                        refine tree_move rfl (by rfl) (fun K hK => ?_) ?_
                        · refine wp_store_row 48 _ _ rfl _ _ [.int .i64 n1, .int .i64 n2, .int .i64 n0, .int .i64 n7, .string M, .string R, .string ⟨#[]⟩, .int .i64 n5, .int .i64 n6] (toldCells zero28) rfl rfl FB.out rfl (by kernel_rfl) nine_one ?_
                          intro w7 hr7 ho7
                          refine hK.out _ _ (ho7.below hH.out HG.out) ?_
                          have FR := Lib.hid hr7
                          have HG2 := HG.out
                          clear hK K hr7 ho7 FB HG
                          intro hH
                          try simp only [Act.put]
                          refine tree_done ?_
                          go_wp2_with fail
                          go_meet
                          exact ⟨_, rfl, HG2, FR.out, hH.out⟩
                        exact tree_stop
                      exact tree_stop
                    exact tree_stop
                  exact tree_stop
                exact tree_stop
              exact tree_stop
            exact tree_stop
          exact tree_stop
        exact tree_stop
      exact tree_stop
    case rest =>
      obtain ⟨w3, rfl⟩ : ∃ W : World, W = wc := ⟨_, rfl⟩
      obtain ⟨g, rfl, hg2, hr3, hb3⟩ := hcut
      have x8 := (hb3.cell (p := ⟨g0 + 1, 8, none⟩) hgs).trans c8
      have R3 := Lib.hid hr3
      have B3 := Lib.hid hb3
      have RZ3 := Lib.hid (RZ2.out.below hb3 (by omega))
      clear c0 c1 c2 c3 c4 c5 c6 c7 c8 hr3 hb3 D0 D1 D2 D3 D4 D5 D6 D7
      go_upto_region 6 with (go_at_call 127; refine (D8.out _).mono ?_; rintro e w4 ⟨v4, rfl, ho4, hb4⟩)
      obtain ⟨A4, q4, rfl, hs4⟩ := own_slice ho4
      have hc1 := run_string_of (P := Tryd.prog) hs4 22 9 5 Tryd.underlying22 Tryd.underlying5 Tryd.underlying9
      rw [HK.out] at hc1
      have R4 := Lib.hid (R3.out.below hb4 R3.out.lt)
      have RZ4 := Lib.hid (RZ3.out.below hb4 RZ3.out.lt)
      have B4 := Lib.hid (B3.out.trans (hb4.mono B3.out.size))
      have f6 := R4.out.frozen (j := 6) (by show 6 < 9; omega)
      have e6 := R4.out.cell (j := 6) rfl
      clear x8 R3 RZ3 B3 ho4 hs4 hb4 D8
      go_upto_region 7 with fail
      obtain ⟨w5, hw5⟩ : ∃ W, w4.setCell ⟨g, 6, none⟩ (.string K) = W := ⟨_, rfl⟩
      rw [hw5]
      have R5 : Hid (RowAt w5 g 48 [.int .i64 n1, .int .i64 n2, .int .i64 n0, .int .i64 n7, .string M, .string R, .string K, .int .i64 n5, .int .i64 n6]) := Lib.hid (by rw [← hw5]; exact R4.out.set_ (j := 6) (by show 6 < 9; omega) (.string K))
      have RZ5 : Hid (RowAt w5 g0 48 (toldCells zero28)) := Lib.hid (by rw [← hw5]; exact RZ4.out.far (p := ⟨g, 6, none⟩) (by show g0 ≠ g; omega) _)
      have B5 : Hid (Below g0 w w5) := Lib.hid (by rw [← hw5]; exact ((BA.out.trans (B2.out.mono (by omega))).trans (B4.out.mono (by omega))).setCell (p := ⟨g, 6, none⟩) (by show g0 ≤ g; omega) _)
      clear hc1 hw5 f6 e6 R4 RZ4 B4
      have y0 := R5.out.cell (j := 0) rfl
      have y1 := R5.out.cell (j := 1) rfl
      have y2 := R5.out.cell (j := 2) rfl
      have y3 := R5.out.cell (j := 3) rfl
      have y4 := R5.out.cell (j := 4) rfl
      have y5 := R5.out.cell (j := 5) rfl
      have y6 := R5.out.cell (j := 6) rfl
      have y7 := R5.out.cell (j := 7) rfl
      have y8 := R5.out.cell (j := 8) rfl
      obtain ⟨rr, hrr⟩ : ∃ r, right28 TT = r := ⟨_, rfl⟩
      rw [hrr] at RT LT Hu
      cases rr with
      | false =>
        have hU : U = none := by rw [Hu.out, if_neg (by simp)]
        have HUN := Lib.hid hU
        clear hU hrr LT
        go_wp2_with (first
          | (go_at_call 75; refine (RT.out _).mono ?_; rintro e w6 ⟨rfl, hb6⟩; have RZ6 := Lib.hid (RZ5.out.below hb6 RZ5.out.lt); have B6 := Lib.hid (B5.out.trans (hb6.mono (by have := RZ5.out.lt; omega))); clear hb6)
          | (refine wpList_store_row rfl 48 _ _ rfl g0 48 (toldCells zero28) (toldCells zero28) rfl rfl RZ6.out rfl (by kernel_rfl) (told_one _) ?_; intro w9 hr9 ho9; have q0 := hr9.cell (j := 0) rfl; have q1 := hr9.cell (j := 1) rfl; have q2 := hr9.cell (j := 2) rfl; have q3 := hr9.cell (j := 3) rfl; have q4 := hr9.cell (j := 4) rfl; have q5 := hr9.cell (j := 5) rfl; have q6 := hr9.cell (j := 6) rfl; have q7 := hr9.cell (j := 7) rfl; have q8 := hr9.cell (j := 8) rfl))
        exact bodyPost_ret (v := .tuple #[.agg (toldCells zero28).toArray, .int .i64 10]) (by simp [results, Tryd.results81, go_sem, toldCells, zero28, q0, q1, q2, q3, q4, q5, q6, q7, q8]) rfl ⟨by rw [← HY.out, HUN.out]; rfl, ho9.below B6.out (Nat.le_refl _)⟩
      | true =>
        obtain ⟨Z, hZ⟩ : ∃ X : ByteArray, (⟨(line28 TT).toArray⟩ : ByteArray) = X := ⟨_, rfl⟩
        have lt2 := fun W => LT.out W rfl
        rw [hZ] at lt2
        have LT2 := Lib.hid lt2
        clear lt2 LT
        obtain ⟨tb, htb⟩ : ∃ b, (Z.toList == (s ++ (⟨#[10]⟩ : ByteArray)).toList) = b := ⟨_, rfl⟩
        have htn : (Z.toList != (s ++ (⟨#[10]⟩ : ByteArray)).toList) = !tb := by rw [← htb]; rfl
        have hdz : (line28 TT = s.data.toList ++ [10]) ↔ tb = true := by
          rw [← htb, ← hZ, beq_iff_eq, ByteArray.toList_eq, ByteArray.toList_eq]
          simp
        have hut : U = if tb then some TT else none := by
          rw [Hu.out]
          cases tb with
          | true => rw [if_pos ⟨rfl, hdz.2 rfl⟩]; rfl
          | false => rw [if_neg (fun h => by have := hdz.1 h.2; simp at this)]; rfl
        have HU2 := Lib.hid hut
        clear hut hdz hZ hrr Hu
        cases tb with
        | false =>
          have htn : (Z.toList != (s ++ (⟨#[10]⟩ : ByteArray)).toList) = true := htn
          go_wp2_with (first
          | (go_at_call 75; refine (RT.out _).mono ?_; rintro e w6 ⟨rfl, hb6⟩; have R6 := Lib.hid (R5.out.below hb6 R5.out.lt); have RZ6 := Lib.hid (RZ5.out.below hb6 RZ5.out.lt); have B6 := Lib.hid (B5.out.trans (hb6.mono (by have := RZ5.out.lt; omega))); have y0 := R6.out.cell (j := 0) rfl; have y1 := R6.out.cell (j := 1) rfl; have y2 := R6.out.cell (j := 2) rfl; have y3 := R6.out.cell (j := 3) rfl; have y4 := R6.out.cell (j := 4) rfl; have y5 := R6.out.cell (j := 5) rfl; have y6 := R6.out.cell (j := 6) rfl; have y7 := R6.out.cell (j := 7) rfl; have y8 := R6.out.cell (j := 8) rfl; clear hb6)
          | (go_at_call 77; refine (LT2.out _).mono ?_; rintro e w7 ⟨rfl, hb7⟩; have R7 := Lib.hid (R6.out.below hb7 R6.out.lt); have RZ7 := Lib.hid (RZ6.out.below hb7 RZ6.out.lt); have B7 := Lib.hid (B6.out.trans (hb7.mono (by have := RZ6.out.lt; omega))); have y0 := R7.out.cell (j := 0) rfl; have y1 := R7.out.cell (j := 1) rfl; have y2 := R7.out.cell (j := 2) rfl; have y3 := R7.out.cell (j := 3) rfl; have y4 := R7.out.cell (j := 4) rfl; have y5 := R7.out.cell (j := 5) rfl; have y6 := R7.out.cell (j := 6) rfl; have y7 := R7.out.cell (j := 7) rfl; have y8 := R7.out.cell (j := 8) rfl; clear hb7)
          | (refine wpList_store_row rfl 48 _ _ rfl g0 48 (toldCells zero28) (toldCells zero28) rfl rfl RZ7.out rfl (by kernel_rfl) (told_one _) ?_; intro w9 hr9 ho9; have q0 := hr9.cell (j := 0) rfl; have q1 := hr9.cell (j := 1) rfl; have q2 := hr9.cell (j := 2) rfl; have q3 := hr9.cell (j := 3) rfl; have q4 := hr9.cell (j := 4) rfl; have q5 := hr9.cell (j := 5) rfl; have q6 := hr9.cell (j := 6) rfl; have q7 := hr9.cell (j := 7) rfl; have q8 := hr9.cell (j := 8) rfl))
          exact bodyPost_ret (v := .tuple #[.agg (toldCells zero28).toArray, .int .i64 10]) (by simp [results, Tryd.results81, go_sem, toldCells, zero28, q0, q1, q2, q3, q4, q5, q6, q7, q8]) rfl ⟨by rw [← HY.out, HU2.out]; rfl, ho9.below B7.out (Nat.le_refl _)⟩
        | true =>
          have htn : (Z.toList != (s ++ (⟨#[10]⟩ : ByteArray)).toList) = false := htn
          go_wp2_with (first
          | (go_at_call 75; refine (RT.out _).mono ?_; rintro e w6 ⟨rfl, hb6⟩; have R6 := Lib.hid (R5.out.below hb6 R5.out.lt); have RZ6 := Lib.hid (RZ5.out.below hb6 RZ5.out.lt); have B6 := Lib.hid (B5.out.trans (hb6.mono (by have := RZ5.out.lt; omega))); have y0 := R6.out.cell (j := 0) rfl; have y1 := R6.out.cell (j := 1) rfl; have y2 := R6.out.cell (j := 2) rfl; have y3 := R6.out.cell (j := 3) rfl; have y4 := R6.out.cell (j := 4) rfl; have y5 := R6.out.cell (j := 5) rfl; have y6 := R6.out.cell (j := 6) rfl; have y7 := R6.out.cell (j := 7) rfl; have y8 := R6.out.cell (j := 8) rfl; clear hb6)
          | (go_at_call 77; refine (LT2.out _).mono ?_; rintro e w7 ⟨rfl, hb7⟩; have R7 := Lib.hid (R6.out.below hb7 R6.out.lt); have RZ7 := Lib.hid (RZ6.out.below hb7 RZ6.out.lt); have B7 := Lib.hid (B6.out.trans (hb7.mono (by have := RZ6.out.lt; omega))); have y0 := R7.out.cell (j := 0) rfl; have y1 := R7.out.cell (j := 1) rfl; have y2 := R7.out.cell (j := 2) rfl; have y3 := R7.out.cell (j := 3) rfl; have y4 := R7.out.cell (j := 4) rfl; have y5 := R7.out.cell (j := 5) rfl; have y6 := R7.out.cell (j := 6) rfl; have y7 := R7.out.cell (j := 7) rfl; have y8 := R7.out.cell (j := 8) rfl; clear hb7)
          | (refine wpList_store_row rfl 48 _ _ rfl g0 48 [.int .i64 n1, .int .i64 n2, .int .i64 n0, .int .i64 n7, .string M, .string R, .string K, .int .i64 n5, .int .i64 n6] (toldCells zero28) rfl rfl RZ7.out rfl (by kernel_rfl) nine_one ?_; intro w9 hr9 ho9; have q0 := hr9.cell (j := 0) rfl; have q1 := hr9.cell (j := 1) rfl; have q2 := hr9.cell (j := 2) rfl; have q3 := hr9.cell (j := 3) rfl; have q4 := hr9.cell (j := 4) rfl; have q5 := hr9.cell (j := 5) rfl; have q6 := hr9.cell (j := 6) rfl; have q7 := hr9.cell (j := 7) rfl; have q8 := hr9.cell (j := 8) rfl))
          exact bodyPost_ret (v := .tuple #[.agg (toldCells TT).toArray, .int .i64 0]) (by rw [HTC.out]; simp [results, Tryd.results81, go_sem, q0, q1, q2, q3, q4, q5, q6, q7, q8]) rfl ⟨by rw [← HY.out, HU2.out]; rfl, ho9.below B7.out (Nat.le_refl _)⟩
  · have hne : ((L.length : Int) == 9) = false := by rw [beq_eq_false_iff_ne]; omega
    have hne2 : ((L.length : Int) != 9) = true := by rw [bne_iff_ne]; omega
    have hu : U = none := by rw [← HU.out]; unfold one28; rw [hcut]
    have Hu := Lib.hid hu
    clear hcut hl hu
    go_wp2_with (refine wpList_store_row rfl 48 _ _ rfl g0 48 (toldCells zero28) (toldCells zero28) rfl rfl RZ2.out rfl (by kernel_rfl) (told_one _) ?_; intro w6 hr6 ho6; have q0 := hr6.cell (j := 0) rfl; have q1 := hr6.cell (j := 1) rfl; have q2 := hr6.cell (j := 2) rfl; have q3 := hr6.cell (j := 3) rfl; have q4 := hr6.cell (j := 4) rfl; have q5 := hr6.cell (j := 5) rfl; have q6 := hr6.cell (j := 6) rfl; have q7 := hr6.cell (j := 7) rfl; have q8 := hr6.cell (j := 8) rfl)
    exact bodyPost_ret (v := .tuple #[.agg (toldCells zero28).toArray, .int .i64 10]) (by simp [results, Tryd.results81, go_sem, toldCells, zero28, q0, q1, q2, q3, q4, q5, q6, q7, q8]) rfl ⟨by rw [← HY.out, Hu.out]; rfl, ho6.below (BA.out.trans (B2.out.mono (by omega))) (Nat.le_refl _)⟩
end Go.Proofs.YtaddefjkjlkjnaaDoor
