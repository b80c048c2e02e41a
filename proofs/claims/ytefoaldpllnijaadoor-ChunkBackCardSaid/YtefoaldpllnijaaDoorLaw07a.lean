/- Layer 7's laws: the document's example holds; ChunkDecodes, walked. Condition: the world's shape. -/
import Derived.Test.YtefoaldpllnijaaDoorChu10
import Derived.Test.YtefoaldpllnijaaDoorChu8
import Derived.Test.YtefoaldpllnijaaDoorKt
namespace Go.Proofs.YtefoaldpllnijaaDoor
open Go.RowKit IH
set_option maxRecDepth 100000
theorem ex7_enc : encL [[97, 98], [], [99]] = [50, 13, 10, 97, 98, 13, 10, 49, 13, 10, 99, 13, 10, 48, 13, 10, 13, 10] := by decide
theorem pieces3 {w : World} {B : Nat} {a b c : List UInt8} {A A' A'' : Option Addr} {n n' n'' k k' k'' : Nat} (h1 : SliceIn w B 1 A n k (bytesV a)) (h2 : SliceIn w B 1 A' n' k' (bytesV b)) (h3 : SliceIn w B 1 A'' n'' k'' (bytesV c)) :
    PiecesR w B [a, b, c] [.slice A n k, .slice A' n' k', .slice A'' n'' k''] := by
  refine ⟨rfl, fun i l hl => ?_⟩
  match i with
  | 0 => simp only [List.getElem?_cons_zero, Option.some.injEq] at hl; subst hl; exact ⟨_, _, _, rfl, h1⟩
  | 1 => simp only [List.getElem?_cons_succ, List.getElem?_cons_zero, Option.some.injEq] at hl; subst hl; exact ⟨_, _, _, rfl, h2⟩
  | 2 => simp only [List.getElem?_cons_succ, List.getElem?_cons_zero, Option.some.injEq] at hl; subst hl; exact ⟨_, _, _, rfl, h3⟩
  | k + 3 => simp at hl
set_option maxHeartbeats 4000000 in
theorem awake07_any (w : World) : Calls Tryd.prog 21 #[] w fun e w' => e = .returned (.bool true) ∧ Below w.heap.size w w' := by
  have k1 := Lib.run_convert_bytes_const (P := Tryd.prog) w 22 5 #[.int .u8 97, .int .u8 98] 2 2 Tryd.underlying22 Tryd.underlying5
  have k2 := Lib.run_convert_bytes_const (P := Tryd.prog) (w.alloc (.cells #[.int .u8 97, .int .u8 98] 5 (2, 3))) 22 5 #[.int .u8 99] 1 1 Tryd.underlying22 Tryd.underlying5
  have hs1 : (w.alloc (.cells #[.int .u8 97, .int .u8 98] 5 (2, 3))).heap.size = w.heap.size + 1 := by simp
  rw [hs1] at k2
  obtain ⟨w1, hw1⟩ : ∃ W, w.alloc (.cells #[.int .u8 97, .int .u8 98] 5 (2, 3)) = W := ⟨_, rfl⟩
  obtain ⟨w2, hw2⟩ : ∃ W, (w.alloc (.cells #[.int .u8 97, .int .u8 98] 5 (2, 3))).alloc (.cells #[.int .u8 99] 5 (1, 2)) = W := ⟨_, rfl⟩
  have z1 : w1.heap.size = w.heap.size + 1 := by rw [← hw1]; simp
  have z2 : w2.heap.size = w.heap.size + 2 := by rw [← hw2]; simp
  have r1 : RowAt w2 w.heap.size 5 (bytesV [97, 98]) := by rw [← hw2]; exact (RowAt.lit w 5 (bytesV [97, 98])).alloc _
  have r2 : RowAt w2 (w.heap.size + 1) 5 (bytesV [99]) := by
    have := RowAt.lit w1 5 (bytesV [99])
    rw [z1] at this
    rw [← hw2, hw1]; exact this
  have B2 : Below w.heap.size w w2 := by rw [← hw2]; exact ((Below.refl _ _).alloc (Nat.le_refl _) _).alloc (by simp) _
  have hV := RowAt.new w2 22 [.slice (some ⟨w.heap.size, 0, none⟩) 2 2, .slice none 0 0, .slice (some ⟨w.heap.size + 1, 0, none⟩) 1 1]
  have EN := enc_any (some ⟨w2.heap.size, 0, none⟩) 3 3 [[97, 98], [], [99]] _ _ (hV.slice (size := 1) (n := 3) (c := 3) rfl (Nat.le_refl _) (by simp [maxLen]))
    (pieces3 (((r1.alloc _).slice (size := 1) (n := 2) (c := 2) rfl (Nat.le_refl _) (by simp [maxLen]))) (SliceIn.none_ (Nat.zero_le _)) (((r2.alloc _).slice (size := 1) (n := 1) (c := 1) rfl (Nat.le_refl _) (by simp [maxLen])))) (by omega) (by decide)
  rw [ex7_enc, z2] at EN
  have B3 := Lib.hid (B2.alloc B2.size (.cells [.slice (some ⟨w.heap.size, 0, none⟩) 2 2, .slice none 0 0, .slice (some ⟨w.heap.size + 1, 0, none⟩) 1 1].toArray 22))
  rw [← hw2] at EN B3
  replace EN := Lib.hid EN
  clear hV r1 r2 B2 z1 z2 hw1 hw2 hs1 w1 w2
  go_enter Tryd.func21, Tryd.ntmps21
  go_wp2_with (go_at_call 27; refine EN.out.mono ?_; rintro e w5 ⟨v5, rfl, ho5, hb5⟩; obtain ⟨A5, c5, rfl, hs5⟩ := own_slice ho5; have B5 := Lib.hid (below_step B3.out hb5); have q1 : (convert 22 9 (.slice A5 18 c5)).run Tryd.prog w5 = .ok (.string ⟨#[50, 13, 10, 97, 98, 13, 10, 49, 13, 10, 99, 13, 10, 48, 13, 10, 13, 10]⟩) w5 := run_string_of (P := Tryd.prog) hs5 22 9 5 Tryd.underlying22 Tryd.underlying5 Tryd.underlying9; clear ho5 hs5 hb5)
  go_ret
  exact ⟨ret_bool (by simp), B5.out⟩
set_option maxHeartbeats 8000000 in
theorem cdecodes_walk (w : World) (hsh : w.ShapedOpen Tryd.prog) (A : Option Addr) (n c : Nat) (L : List UInt8) (hin : SliceIn w w.heap.size 1 A n c (bytesV L)) :
    Calls Tryd.prog 7 #[.slice A n c] w fun e w' => e = .returned (.bool true) ∧ Below w.heap.size w w' := by
  have AW := Lib.hid (fun w => awake07_any w)
  have Hsh := Lib.hid hsh
  have Hin := Lib.hid hin
  clear hsh hin
  by_cases h5 : 8000 < n
  · have h5I : (8000 : Int) < (n : Int) := by omega
    go_enter Tryd.func7, Tryd.ntmps7
    go_wp2_with fail
    refine (AW.out _).mono ?_
    rintro e w2 ⟨rfl, hb2⟩
    have B2 := Lib.hid hb2; clear hb2
    go_wp2_with fail
    refine (AW.out _).mono ?_
    rintro e w3 ⟨rfl, hb3⟩
    have B3 := Lib.hid (below_step B2.out hb3); clear hb3
    go_wp2
    go_ret
    exact ⟨rfl, B3.out⟩
  · have h5I : (n : Int) ≤ (8000 : Int) := by omega
    have DE := fun (g cap : Nat) (W : World) (hB : Below w.heap.size w W) (hg : g < W.heap.size) (hi : SliceIn W W.heap.size 1 (some ⟨g, 0, none⟩) n cap (bytesV L)) => decode_any g 0 n cap L W (shaped_below Hsh.out hB) hi hg (by omega)
    have TO := fun (W : World) (hB : Below w.heap.size w W) => told_any A n c L W ((Hin.out.below hB).more hB.size) (by omega)
    unfold decodeL at DE
    obtain ⟨R, hR⟩ : ∃ R, run Dec.new L = R := ⟨_, rfl⟩
    rw [hR] at DE TO
    obtain ⟨o, m, e, d⟩ := R
    simp only at DE TO
    have hways : (e ≠ 0) ∨ (e = 0 ∧ d.w ≠ 4) ∨ (e = 0 ∧ d.w = 4) := by omega
    have prep : ∀ W : World, Below w.heap.size w W → Hid (W.ownsRow W.heap.size 5 1 (.slice (some ⟨W.heap.size, 0, none⟩) 0 0) 0 []) → True := fun _ _ _ => trivial
    clear prep
    rcases hways with he | ⟨rfl, h4⟩ | ⟨rfl, h4⟩
    · rw [if_pos he] at DE
      have neb : (e != 0) = true := by rw [bne_iff_ne]; exact he
      have HDE := Lib.hid DE
      have HTO := Lib.hid TO
      clear DE TO hR h5 he
      go_enter Tryd.func7, Tryd.ntmps7
      go_wp2_with fail
      refine (AW.out _).mono ?_
      rintro e' w2 ⟨rfl, hb2⟩
      have B2 := Lib.hid hb2; clear hb2
      have hown := World.ownsRow_lit (base := w2.heap.size) (e := 5) (size := 1) w2 #[] 0 (Nat.le_refl _) (by simp [maxLen]) rfl
      have Hown := Lib.hid hown
      have Hin2 := Lib.hid ((Hin.out.below B2.out).alloc B2.out.size (.cells #[] 5))
      clear hown
      go_wp2_with (first
        | (at_builtin; refine wpList_appN u8_ty rfl _ _ rfl w2.heap.size _ 0 [] rfl Hown.out (by intro h; cases h) w.heap.size A n c (bytesV L) rfl Hin2.out (bytesV_one L) (by omega) (by simp only [maxLen]; omega) (by simp) ?_; intro g cap w3 hown' hgr; rw [Nat.zero_add, List.nil_append] at hown'; simp only [Nat.zero_add]; have B3 := Lib.hid ((B2.out.alloc B2.out.size (.cells #[] 5)).grown hgr (by have := B2.out.size; simp; omega) (fun q hq => by have := (Hown.out.lt q hq).1; have := B2.out.size; omega)); have D3 := Lib.hid (HDE.out g cap w3 B3.out (hown'.lt g rfl).2 (SliceIn.of_own hown')); clear hown' hgr)
        | (go_at_call 25; (with_reducible refine D3.out.mono ?_); rintro e' w4 ⟨v4, rfl, ho4, hb4⟩; have B4 := Lib.hid (below_step B3.out hb4); obtain ⟨A4, C4, rfl, hs4⟩ := own_slice ho4; clear ho4 hb4 hs4)
        | (go_at_call 24; (with_reducible refine (HTO.out w4 B4.out).mono ?_); rintro e' w5 ⟨v5, rfl, ho5, hb5⟩; have B5 := Lib.hid (below_step B4.out hb5); clear ho5 hb5))
      go_ret
      exact ⟨ret_bool (by simp), B5.out⟩
    · rw [if_neg (by simp), if_pos h4] at DE
      rw [show decide ((0 : Int) = 0 ∧ d.w = 4) = false by simp [h4]] at TO
      have HDE := Lib.hid DE
      have HTO := Lib.hid TO
      clear DE TO hR h5 h4
      go_enter Tryd.func7, Tryd.ntmps7
      go_wp2_with fail
      refine (AW.out _).mono ?_
      rintro e' w2 ⟨rfl, hb2⟩
      have B2 := Lib.hid hb2; clear hb2
      have hown := World.ownsRow_lit (base := w2.heap.size) (e := 5) (size := 1) w2 #[] 0 (Nat.le_refl _) (by simp [maxLen]) rfl
      have Hown := Lib.hid hown
      have Hin2 := Lib.hid ((Hin.out.below B2.out).alloc B2.out.size (.cells #[] 5))
      clear hown
      go_wp2_with (first
        | (at_builtin; refine wpList_appN u8_ty rfl _ _ rfl w2.heap.size _ 0 [] rfl Hown.out (by intro h; cases h) w.heap.size A n c (bytesV L) rfl Hin2.out (bytesV_one L) (by omega) (by simp only [maxLen]; omega) (by simp) ?_; intro g cap w3 hown' hgr; rw [Nat.zero_add, List.nil_append] at hown'; simp only [Nat.zero_add]; have B3 := Lib.hid ((B2.out.alloc B2.out.size (.cells #[] 5)).grown hgr (by have := B2.out.size; simp; omega) (fun q hq => by have := (Hown.out.lt q hq).1; have := B2.out.size; omega)); have D3 := Lib.hid (HDE.out g cap w3 B3.out (hown'.lt g rfl).2 (SliceIn.of_own hown')); clear hown' hgr)
        | (go_at_call 25; (with_reducible refine D3.out.mono ?_); rintro e' w4 ⟨v4, rfl, ho4, hb4⟩; have B4 := Lib.hid (below_step B3.out hb4); obtain ⟨A4, C4, rfl, hs4⟩ := own_slice ho4; clear ho4 hb4 hs4)
        | (go_at_call 24; (with_reducible refine (HTO.out w4 B4.out).mono ?_); rintro e' w5 ⟨v5, rfl, ho5, hb5⟩; have B5 := Lib.hid (below_step B4.out hb5); clear ho5 hb5))
      go_ret
      exact ⟨ret_bool (by simp), B5.out⟩
    · rw [if_neg (by simp), if_neg (by simp [h4])] at DE
      rw [show decide ((0 : Int) = 0 ∧ d.w = 4) = true by simp [h4]] at TO
      have HDE := Lib.hid DE
      have HTO := Lib.hid TO
      clear DE TO hR h5 h4
      go_enter Tryd.func7, Tryd.ntmps7
      go_wp2_with fail
      refine (AW.out _).mono ?_
      rintro e' w2 ⟨rfl, hb2⟩
      have B2 := Lib.hid hb2; clear hb2
      have hown := World.ownsRow_lit (base := w2.heap.size) (e := 5) (size := 1) w2 #[] 0 (Nat.le_refl _) (by simp [maxLen]) rfl
      have Hown := Lib.hid hown
      have Hin2 := Lib.hid ((Hin.out.below B2.out).alloc B2.out.size (.cells #[] 5))
      clear hown
      go_wp2_with (first
        | (at_builtin; refine wpList_appN u8_ty rfl _ _ rfl w2.heap.size _ 0 [] rfl Hown.out (by intro h; cases h) w.heap.size A n c (bytesV L) rfl Hin2.out (bytesV_one L) (by omega) (by simp only [maxLen]; omega) (by simp) ?_; intro g cap w3 hown' hgr; rw [Nat.zero_add, List.nil_append] at hown'; simp only [Nat.zero_add]; have B3 := Lib.hid ((B2.out.alloc B2.out.size (.cells #[] 5)).grown hgr (by have := B2.out.size; simp; omega) (fun q hq => by have := (Hown.out.lt q hq).1; have := B2.out.size; omega)); have D3 := Lib.hid (HDE.out g cap w3 B3.out (hown'.lt g rfl).2 (SliceIn.of_own hown')); clear hown' hgr)
        | (go_at_call 25; (with_reducible refine D3.out.mono ?_); rintro e' w4 ⟨v4, rfl, ho4, hb4⟩; have B4 := Lib.hid (below_step B3.out hb4); obtain ⟨A4, C4, rfl, hs4⟩ := own_slice ho4; have R4 := Lib.hid hs4; clear ho4 hb4 hs4)
        | (go_at_call 24; (with_reducible refine (HTO.out w4 B4.out).mono ?_); rintro e' w5 ⟨v5, rfl, ho5, hb5⟩; obtain ⟨A5, C5, rfl, hs5⟩ := own_slice ho5; have q1 := run_string_of (P := Tryd.prog) (R4.out.below hb5) 22 9 5 Tryd.underlying22 Tryd.underlying5 Tryd.underlying9; have q2 := run_string_of (P := Tryd.prog) hs5 22 9 5 Tryd.underlying22 Tryd.underlying5 Tryd.underlying9; have B5 := Lib.hid (below_step B4.out hb5); clear ho5 hb5 hs5))
      go_ret
      exact ⟨ret_bool (by simp), B5.out⟩
end Go.Proofs.YtefoaldpllnijaaDoor
