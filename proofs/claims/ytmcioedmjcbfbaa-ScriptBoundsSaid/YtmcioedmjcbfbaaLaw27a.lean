/- Layer 27's laws: the document's example; ScriptParses, walked. No condition. -/
import Derived.Test.YtmcioedmjcbfbaaScr24
import Derived.Test.YtmcioedmjcbfbaaScr25
import Derived.Test.YtmcioedmjcbfbaaScr20
import Derived.Test.YtmcioedmjcbfbaaPm
namespace Go.Proofs.Ytmcioedmjcbfbaa
open Go.RowKit IH
set_option maxRecDepth 100000
theorem scriptF_len : ∀ (f : Nat) (s : List UInt8) (out : List Deed) (n : Nat), out.length ≤ 10000 → (scriptF f s out n).1.length ≤ 10000
  | 0, _, _, _, _ => by simp [scriptF]
  | f + 1, s, out, n, h => by
    unfold scriptF
    split
    · exact h
    · split
      · simp
      · split
        · exact scriptF_len f _ _ _ h
        · split
          · simp
          · split
            · simp
            · exact scriptF_len f _ _ _ (by rw [List.length_append]; simp; omega)
theorem scriptL_len (s : List UInt8) : (scriptL s).1.length ≤ 10000 := by
  unfold scriptL
  split
  · simp
  · exact scriptF_len _ _ _ _ (by simp)
/-- A line's deed has no more calls, nor bits, than the line has octets. -/
theorem calls_ge : ∀ (l : List Int), l.length ≤ (l.flatMap fun n => 32 :: numL n).length
  | [] => by simp
  | n :: l => by
    have := calls_ge l
    simp only [List.flatMap_cons, List.length_append, List.length_cons]
    omega
theorem keep_ge (l : List Bool) : l.length ≤ (keepL l).length := by
  unfold keepL
  split
  · rename_i h; rw [h]; simp
  · simp
theorem line_small {s : List UInt8} {d : Deed} (h : lineD s = some d) : d.calls.length ≤ s.length ∧ d.keep.length ≤ s.length := by
  rw [← lineR_eq] at h
  obtain ⟨ho, hp⟩ := lineR_sound h
  have hl := congrArg List.length hp
  unfold printD at hl
  rw [List.length_append] at hl
  have hc := ho.cl
  have h0 := ho.k0
  have h1 := ho.k1
  obtain ⟨k, conn, n, b, calls, keep, torn, part⟩ := d
  simp only at *
  have hk : k = 0 ∨ k = 1 ∨ k = 2 ∨ k = 3 ∨ k = 4 ∨ k = 5 ∨ k = 6 ∨ k = 7 ∨ k = 8 ∨ k = 9 ∨ k = 10 := by omega
  have g1 := calls_ge calls
  have g2 := keep_ge keep
  rcases hk with rfl | rfl | rfl | rfl | rfl | rfl | rfl | rfl | rfl | rfl | rfl
  all_goals
    simp [clean, Deed.of] at hc
    simp only [tailD] at hl
    simp at hl
    first
      | (simp [hc]; done)
      | (constructor <;> first | (simp [hc]; done) | (simp [hc] at g1 ⊢; omega) | (simp [hc] at g2 ⊢; omega) | (simp at hl g1 ⊢; omega) | (simp at hl g2 ⊢; omega) | omega)
theorem scriptF_small : ∀ (f : Nat) (s : List UInt8) (out : List Deed) (n M : Nat), s.length ≤ M → (∀ d ∈ out, d.calls.length ≤ M ∧ d.keep.length ≤ M) → ∀ d ∈ (scriptF f s out n).1, d.calls.length ≤ M ∧ d.keep.length ≤ M
  | 0, _, _, _, _, _, _ => by simp [scriptF]
  | f + 1, s, out, n, M, hs, h => by
    unfold scriptF
    split
    · exact h
    · split
      · simp
      · rename_i line rest hcut
        have hl := congrArg List.length (cutLF_some hcut).1
        rw [List.length_append, List.length_cons] at hl
        split
        · exact scriptF_small f _ _ _ M (by omega) h
        · split
          · simp
          · rename_i d hd
            split
            · simp
            · refine scriptF_small f _ _ _ M (by omega) ?_
              intro x hx
              rcases List.mem_append.1 hx with hx | hx
              · exact h x hx
              · rw [List.mem_singleton.1 hx]
                have := line_small hd
                omega
theorem scriptL_small {s : List UInt8} {M : Nat} (hs : s.length ≤ M) : ∀ d ∈ (scriptL s).1, d.calls.length ≤ M ∧ d.keep.length ≤ M := by
  unfold scriptL
  split
  · simp
  · exact scriptF_small _ _ _ _ M hs (by simp)
set_option maxHeartbeats 8000000 in
theorem awake27_any (w : World) : Calls Try.prog 22 #[] w fun e w' => e = .returned (.bool true) ∧ Below w.heap.size w w' := by
  have PA := fun w => sParse_any (⟨ex27S.toArray⟩ : ByteArray) (by decide) w
  rw [show (⟨ex27S.toArray⟩ : ByteArray).data.toList = ex27S from rfl, ex27_parse] at PA
  have hl : (⟨ex27S.toArray⟩ : ByteArray) = ⟨#[111, 112, 101, 110, 10, 99, 108, 105, 101, 110, 116, 32, 48, 32, 34, 71, 69, 84, 32, 47, 32, 72, 84, 84, 80, 47, 49, 46, 49, 92, 114, 92, 110, 34, 10, 99, 114, 97, 115, 104, 32, 48, 32, 48, 49, 32, 45, 49, 32, 48, 10]⟩ := rfl
  rw [hl] at PA
  replace PA := Lib.hid PA
  clear hl
  go_enter Try.func22, Try.ntmps22
  go_upto_region 2 with (go_at_call 23; refine (PA.out _).mono ?_; rintro e w1 ⟨v, V, rfl, ho, hv, hb⟩; have hsl := own_slice ho; simp only [ex27D, List.length_cons, List.length_nil] at hsl; obtain ⟨A, c, rfl, hin⟩ := hsl)
  have HR := DeedsV.read hv
  obtain ⟨b, o, cs, rfl, hb1, hr1, hc1⟩ := deed_at hin HR (k := 1) (d := { Deed.of 1 with conn := 0, b := ex27B }) rfl
  obtain ⟨b', o', cs2, he, hb2, hr2, hc2⟩ := deed_at hin HR (k := 2) (d := { Deed.of 9 with n := 0, keep := [false, true], torn := -1, part := 0 }) rfl
  injection he with he
  injection he with he1 he2
  subst he1 he2
  obtain ⟨AB, nB, cB, AC, nC, cC, AK, nK, cK, rfl, s1, _, _⟩ := hr1
  obtain ⟨DB, mB, eB, DC, mC, eC, DK, mK, eK, rfl, _, _, t3⟩ := hr2
  have hmk : mK = 2 := by have := t3.1; simp [boolsV] at this; omega
  subst hmk
  have x3 := hc1 3 _ rfl
  have y0 := hc2 0 _ rfl
  have y5 := hc2 5 _ rfl
  rw [show o + 1 * 8 + 3 = o + 11 by omega] at x3
  rw [show o + 2 * 8 + 0 = o + 16 by omega] at y0
  rw [show o + 2 * 8 + 5 = o + 21 by omega] at y5
  have q1 := run_string_of (P := Try.prog) s1 47 9 5 Try.underlying47 Try.underlying5 Try.underlying9
  change _ = Result.ok (Value.string (⟨ex27B.toArray⟩ : ByteArray)) _ at q1
  rw [show (⟨ex27B.toArray⟩ : ByteArray) = ⟨#[71, 69, 84, 32, 47, 32, 72, 84, 84, 80, 47, 49, 46, 49, 13, 10]⟩ from rfl] at q1
  clear hc1 hc2 hin HR hv ho s1 t3
  go_wp2
  go_ret
  exact ⟨rfl, hb⟩
set_option maxHeartbeats 4000000 in
theorem sparses_walk (w : World) (s : ByteArray) (_hs : s.size ≤ 9223372036854775807) : Calls Try.prog 5 #[.string s] w fun e w' => e = .returned (.bool true) ∧ Below w.heap.size w w' := by
  have AW := Lib.hid (fun w => awake27_any w)
  by_cases h3 : 3000 < s.size
  · go_enter Try.func5, Try.ntmps5
    go_wp2_with fail
    refine (AW.out _).mono ?_
    rintro e w2 ⟨rfl, hb2⟩
    have B2 := Lib.hid hb2; clear hb2
    go_wp2_with fail
    refine (AW.out _).mono ?_
    rintro e w3 ⟨rfl, hb3⟩
    have B3 := Lib.hid (below_step B2.out hb3); clear hb3
    go_wp2
    go_ret
    exact ⟨rfl, B3.out⟩
  · obtain ⟨U, hU⟩ : ∃ U, scriptL s.data.toList = U := ⟨_, rfl⟩
    have hUl : U.1.length ≤ 10000 := by rw [← hU]; exact scriptL_len _
    have hUd : ∀ d ∈ U.1, DeedS d := by
      rw [← hU]
      intro d hd
      have := scriptL_small (M := 3000) (by rw [data_len]; omega) d hd
      exact ⟨by omega, by omega⟩
    have PA := fun w => sParse_any s (by omega) w
    have PR := fun w => refParse27_any s (by omega) w
    rw [hU] at PA PR
    replace PA := Lib.hid PA
    replace PR := Lib.hid PR
    obtain ⟨L, hL⟩ : ∃ L, U.1 = L := ⟨_, rfl⟩
    obtain ⟨x, hx⟩ : ∃ x, U.2.1 = x := ⟨_, rfl⟩
    obtain ⟨y, hy⟩ : ∃ y, U.2.2 = y := ⟨_, rfl⟩
    rw [hL, hx, hy] at PA PR
    rw [hL] at hUl hUd
    have HUD := Lib.hid hUd
    clear hU hL hx hy hUd
    go_enter Try.func5, Try.ntmps5
    go_wp2_with (first
      | (go_at_call 22; refine (AW.out _).mono ?_; rintro e w2 ⟨rfl, hb2⟩; have B2 := Lib.hid hb2; clear hb2)
      | (go_at_call 23; refine (PA.out _).mono ?_; rintro e w3 ⟨v3, V3, rfl, ho3, hv3, hb3⟩; have B3 := Lib.hid (below_step B2.out hb3); obtain ⟨A3, c3, rfl, hs3⟩ := own_slice ho3; have S3 := Lib.hid hs3; have R3 := Lib.hid (DeedsV.read hv3); clear ho3 hv3 hb3 hs3)
      | (go_at_call 24; refine (PR.out _).mono ?_; rintro e w4 ⟨v4, V4, rfl, ho4, hv4, hb4⟩; have B4 := Lib.hid (below_step B3.out hb4); obtain ⟨A4, c4, rfl, hs4⟩ := own_slice ho4; have SM := Lib.hid (refSames27_any A3 A4 L.length c3 c4 L _ _ w4 ((S3.out.below hb4).more hb4.size) ((R3.out.below hb4).more hb4.size) hs4 (DeedsV.read hv4) (by omega) HUD.out); clear ho4 hv4 hb4 hs4)
      | (go_at_call 25; refine SM.out.mono ?_; rintro e w5 ⟨rfl, hb5⟩; have B5 := Lib.hid (below_step B4.out hb5); clear hb5))
    go_ret
    exact ⟨ret_bool (by simp), B5.out⟩
end Go.Proofs.Ytmcioedmjcbfbaa
