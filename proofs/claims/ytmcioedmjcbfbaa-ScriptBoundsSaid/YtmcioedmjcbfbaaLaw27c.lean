/- Layer 27's laws: ScriptPrints, walked. No condition. -/
import Derived.Test.YtmcioedmjcbfbaaLaw27a
import Derived.Test.YtmcioedmjcbfbaaOpenD
import Derived.Test.YtmcioedmjcbfbaaScr34
import Derived.Test.YtmcioedmjcbfbaaScr35
namespace Go.Proofs.Ytmcioedmjcbfbaa
open Go.RowKit IH
set_option maxRecDepth 100000
/-- Eight cells of a deed. -/
def At8 (w : World) (b o : Nat) (d : Deed) (vB vC vK : Value) : Prop :=
  w.cell? ⟨b, o, none⟩ = some (.int .i64 d.kind) ∧ w.cell? ⟨b, o + 1, none⟩ = some (.int .i64 d.conn) ∧ w.cell? ⟨b, o + 2, none⟩ = some (.int .i64 d.n) ∧ w.cell? ⟨b, o + 3, none⟩ = some vB ∧
    w.cell? ⟨b, o + 4, none⟩ = some vC ∧ w.cell? ⟨b, o + 5, none⟩ = some vK ∧ w.cell? ⟨b, o + 6, none⟩ = some (.int .i64 d.torn) ∧ w.cell? ⟨b, o + 7, none⟩ = some (.int .i64 d.part)
theorem At8.below {w w' : World} {b o B : Nat} {d : Deed} {vB vC vK : Value} (h : At8 w b o d vB vC vK) (hb : Below B w w') (hl : b < B) : At8 w' b o d vB vC vK := by
  obtain ⟨h0, h1, h2, h3, h4, h5, h6, h7⟩ := h
  exact ⟨(hb.cell (p := ⟨b, o, none⟩) hl).trans h0, (hb.cell (p := ⟨b, o + 1, none⟩) hl).trans h1, (hb.cell (p := ⟨b, o + 2, none⟩) hl).trans h2, (hb.cell (p := ⟨b, o + 3, none⟩) hl).trans h3,
    (hb.cell (p := ⟨b, o + 4, none⟩) hl).trans h4, (hb.cell (p := ⟨b, o + 5, none⟩) hl).trans h5, (hb.cell (p := ⟨b, o + 6, none⟩) hl).trans h6, (hb.cell (p := ⟨b, o + 7, none⟩) hl).trans h7⟩
theorem row_new {B : Nat} {w W : World} (_ : Hid (Below B w W)) (e : TypeId) (cs : List Value) : RowAt (W.alloc (.cells cs.toArray e)) W.heap.size e cs := RowAt.new W e cs
def smallD (d : Deed) : Bool := decide (d.b.length ≤ 300) && (decide (d.calls.length ≤ 30) && decide (d.keep.length ≤ 300))
theorem small27_any (d : Deed) (AB AC AK : Option Addr) (nB cB nC cC nK cK : Nat) (w : World) (lB : d.b.length = nB) (lC : d.calls.length = nC) (lK : d.keep.length = nK) :
    Calls Try.prog 26 #[.agg (cells8 d (.slice AB nB cB) (.slice AC nC cC) (.slice AK nK cK)).toArray] w fun e w' => e = .returned (.bool (smallD d)) ∧ Below w.heap.size w w' := by
  rw [c8]
  unfold smallD
  rw [lB, lC, lK]
  have d1 : decide (nB ≤ 300) = decide ((nB : Int) ≤ 300) := by rw [decide_eq_decide]; omega
  have d2 : decide (nC ≤ 30) = decide ((nC : Int) ≤ 30) := by rw [decide_eq_decide]; omega
  have d3 : decide (nK ≤ 300) = decide ((nK : Int) ≤ 300) := by rw [decide_eq_decide]; omega
  rw [d1, d2, d3]
  clear d1 d2 d3
  by_cases h1 : (nB : Int) ≤ 300
  · by_cases h2 : (nC : Int) ≤ 30
    · by_cases h3 : (nK : Int) ≤ 300
      all_goals
        go_enter Try.func26, Try.ntmps26
        go_wp2
        go_ret
        exact ⟨ret_bool (by simp [*]), (Below.refl _ _).alloc (Nat.le_refl _) _⟩
    · go_enter Try.func26, Try.ntmps26
      go_wp2
      go_ret
      exact ⟨ret_bool (by rw [decide_eq_false (show ¬ (nC : Int) ≤ 30 by omega)]; simp), (Below.refl _ _).alloc (Nat.le_refl _) _⟩
  · go_enter Try.func26, Try.ntmps26
    go_wp2
    go_ret
    exact ⟨ret_bool (by rw [decide_eq_false (show ¬ (nB : Int) ≤ 300 by omega)]; simp), (Below.refl _ _).alloc (Nat.le_refl _) _⟩
theorem small_N {d : Deed} (h : smallD d = true) (hi : DeedI d) : DeedN d := by
  unfold smallD at h
  simp only [Bool.and_eq_true, decide_eq_true_eq] at h
  exact ⟨hi.ic, hi.iN, hi.it, hi.ip, hi.ia, by omega, by omega, by omega⟩
theorem small_line {d : Deed} (h : smallD d = true) (hi : DeedI d) : (printD d).length ≤ 3780 := by
  have := print_length hi.ic hi.iN hi.it hi.ip hi.ia
  unfold smallD at h
  simp only [Bool.and_eq_true, decide_eq_true_eq] at h
  omega
theorem printX_le (d : Deed) : (printX d).length ≤ (printD d).length := by
  unfold printX
  split
  · exact Nat.le_refl _
  · simp
theorem right_ok {d : Deed} (h : rightD d = true) (hi : DeedI d) : OkD d := by
  have hk := right_kind h
  unfold rightD at h
  rw [Bool.and_eq_true] at h
  exact ⟨hk.1, hk.2, (sameD_iff.1 h.2).symm, hi.ic, hi.iN, hi.it, hi.ip, hi.ia⟩
/-- Lines of deeds, of those too that have no kind. -/
def linesX (L : List Deed) : List UInt8 := L.flatMap fun d => printX d ++ [10]
theorem linesX_snoc (L : List Deed) (k : Nat) (d : Deed) (h : L[k]? = some d) : linesX (L.take (k + 1)) = linesX (L.take k) ++ (printX d ++ [10]) := by
  unfold linesX
  rw [List.take_add_one, h, List.flatMap_append]
  simp
theorem linesX_right {L : List Deed} (h : L.all rightD = true) : linesX L = scriptOf L := by
  unfold linesX scriptOf
  induction L with
  | nil => rfl
  | cons d L ih =>
    rw [List.all_cons, Bool.and_eq_true] at h
    have hk := right_kind h.1
    rw [List.flatMap_cons, List.flatMap_cons, ih h.2, printX_in hk.1 hk.2]
theorem linesX_len (L : List Deed) (h : ∀ d ∈ L, smallD d = true ∧ DeedI d) : (linesX L).length ≤ 3781 * L.length := by
  unfold linesX
  induction L with
  | nil => simp
  | cons d L ih =>
    have h1 := h d (by simp)
    have h2 := small_line h1.1 h1.2
    have h3 := printX_le d
    have h4 := ih fun x hx => h x (by simp [hx])
    simp only [List.flatMap_cons, List.length_append, List.length_cons, List.length_nil]
    omega
set_option maxHeartbeats 16000000 in
theorem sprints_walk (w : World) (A : Option Addr) (n c : Nat) (L : List Deed) (V : List Value) (hin : SliceIn w w.heap.size 8 A n c V) (hR : DeedsR w w.heap.size L V) (hI : ∀ d ∈ L, DeedI d) :
    Calls Try.prog 8 #[.slice A n c] w fun e w' => e = .returned (.bool true) ∧ Below w.heap.size w w' := by
  have AW := Lib.hid (fun w => awake27_any w)
  have hL : L.length = n := by have := hin.1; rw [hR.length] at this; omega
  have Hin := Lib.hid hin
  have HR := Lib.hid hR
  have HI := Lib.hid hI
  clear hin hR hI
  by_cases h30 : 30 < n
  · have hI : (30 : Int) < (n : Int) := by omega
    clear hL
    go_enter Try.func8, Try.ntmps8
    go_wp2_with fail
    refine (AW.out _).mono ?_
    rintro e w2 ⟨rfl, hb2⟩
    have B2 := Lib.hid hb2; clear hb2
    go_wp2_with fail
    refine (AW.out _).mono ?_
    rintro e w3 ⟨rfl, hb3⟩
    have B3 := Lib.hid (below_step B2.out hb3); clear hb3
    go_wp2
    go_ret
    exact ⟨rfl, B3.out⟩
  · have hI : (n : Int) ≤ (30 : Int) := by omega
    have hn30 : n ≤ 30 := by omega
    have HL := Lib.hid hL
    clear hL h30
    go_enter Try.func8, Try.ntmps8
    go_wp2_with (go_at_call 22; refine (AW.out _).mono ?_; rintro e w2 ⟨rfl, hb2⟩; have B2 := Lib.hid hb2; clear hb2)
    go_loopw [3, 4, 5] (fun s rt i wr => ∃ (k : Nat) (T : ByteArray), k ≤ n ∧ i = .int .i64 k ∧ s = .string T ∧ T.data.toList = linesX (L.take k) ∧ rt = .bool ((L.take k).all rightD) ∧ (∀ d ∈ L.take k, smallD d = true) ∧ Below w.heap.size w wr) (fun _ _ i _ => n - (intOf i).toNat)
    case atStart => exact ⟨0, ⟨#[]⟩, by omega, rfl, rfl, rfl, rfl, by simp, B2.out⟩
    case round =>
      clear B2
      obtain ⟨w0, rfl⟩ : ∃ w0 : World, w0 = wr := ⟨_, rfl⟩
      obtain ⟨k, T, hk, rfl, rfl, hT, rfl, hsm, hbel⟩ := hrel
      have HB := Lib.hid hbel
      have HT := Lib.hid hT
      have HS := Lib.hid hsm
      have hTs : T.size ≤ 200000 := by
        have h1 := linesX_len (L.take k) fun d hd => ⟨hsm d hd, HI.out d (List.mem_of_mem_take hd)⟩
        rw [List.length_take] at h1
        rw [← data_len, hT]; omega
      have hws := hbel.size
      clear hbel hT hsm
      by_cases hlt : k < n
      · obtain ⟨d, hdk⟩ : ∃ d, L[k]? = some d := ⟨_, List.getElem?_eq_getElem (by rw [HL.out]; exact hlt)⟩
        obtain ⟨b, off, cs, rfl, hbl, hr, hc⟩ := deed_at (Hin.out.below HB.out) (HR.out.below HB.out) hdk
        obtain ⟨AB, nB, cB, AC, nC, cC, AK, nK, cK, rfl, s1, s2, s3⟩ := hr
        have h8 : At8 w0 b (off + k * 8) d (.slice AB nB cB) (.slice AC nC cC) (.slice AK nK cK) := deed_cells hc
        have H8 := Lib.hid h8
        have hdi := HI.out d (List.mem_of_getElem? hdk)
        have lB : d.b.length = nB := by have := s1.1; rw [bytesV_length] at this; omega
        have lC : d.calls.length = nC := by have := s2.1; rw [intsV_length] at this; omega
        have lK : d.keep.length = nK := by have := s3.1; rw [boolsV_length] at this; omega
        have SM := Lib.hid (fun w => small27_any d AB AC AK nB cB nC cC nK cK w lB lC lK)
        rw [c8] at SM
        have ltI : (k : Int) < (n : Int) := by omega
        have hbl0 : b < w0.heap.size := by omega
        obtain ⟨sm, hsm⟩ : ∃ s, smallD d = s := ⟨_, rfl⟩
        rw [hsm] at SM
        have S1 := Lib.hid (s1.more hws)
        have S2 := Lib.hid (s2.more hws)
        have S3 := Lib.hid (s3.more hws)
        have HDK := Lib.hid hdk
        have HDI := Lib.hid hdi
        obtain ⟨a0, a1, a2, a3, a4, a5, a6, a7⟩ := h8
        clear lB lC lK s1 s2 s3 hc hdk hdi
        cases sm with
        | false =>
          clear hsm
          go_wp2_with (go_at_call 26; refine (SM.out _).mono ?_; rintro e w3 ⟨rfl, hb3⟩)
          go_ret
          exact ⟨rfl, HB.out.trans (hb3.mono hws)⟩
        | true =>
          have hdn := small_N hsm HDI.out
          have hpl := small_line hsm HDI.out
          have HSM := Lib.hid hsm
          have RR := Lib.hid (fun (W : World) (hW : Below w0.heap.size w0 W) => refRight27_any d AB AC AK nB cB nC cC nK cK W ((S1.out.below hW).more hW.size) ((S2.out.below hW).more hW.size) ((S3.out.below hW).more hW.size) hdn)
          have PX := Lib.hid (fun (W : World) (hW : Below w0.heap.size w0 W) => refPrint27_any d AB AC AK nB cB nC cC nK cK W ((S1.out.below hW).more hW.size) ((S2.out.below hW).more hW.size) ((S3.out.below hW).more hW.size) hdn)
          have RS := Lib.hid (fun (W : World) (g : Nat) (hrow : RowAt W g 53 (cells8 d (.slice AB nB cB) (.slice AC nC cC) (.slice AK nK cK))) (hW : Below w0.heap.size w0 W) => sRight_any (some ⟨g, 0, none⟩) 1 1 [d] (cells8 d (.slice AB nB cB) (.slice AC nC cC) (.slice AK nK cK)) W
            ⟨hrow.slice (size := 8) (n := 1) (c := 1) rfl (Nat.le_refl _) (by simp [maxLen]), ⟨_, [], by simp, ⟨AB, nB, cB, AC, nC, cC, AK, nK, cK, rfl, (S1.out.below hW).more hW.size, (S2.out.below hW).more hW.size, (S3.out.below hW).more hW.size⟩, rfl⟩, fun x hx => by rw [List.mem_singleton.1 hx]; exact hdn⟩ (by omega))
          have e1 : [d].all rightD = rightD d := by simp
          rw [e1] at RS
          rw [c8] at RR PX
          obtain ⟨rd, hrd⟩ : ∃ r, rightD d = r := ⟨_, rfl⟩
          rw [hrd] at RR RS
          obtain ⟨bk, hbk⟩ : ∃ r, (L.take k).all rightD = r := ⟨_, rfl⟩
          have HN : Hid ((L.take (k + 1)).all rightD = (bk && rd)) := Lib.hid (by rw [List.take_add_one, HDK.out, List.all_append, hbk]; simp [hrd])
          rw [hbk]
          obtain ⟨X, hX⟩ : ∃ X : ByteArray, (⟨(printX d).toArray⟩ : ByteArray) = X := ⟨_, rfl⟩
          rw [hX] at PX
          have hXs : X.size ≤ 3780 := by have := printX_le d; rw [← hX, size_mk]; omega
          have HTN : Hid ((T ++ (X ++ (⟨#[10]⟩ : ByteArray))).data.toList = linesX (L.take (k + 1))) := Lib.hid (by rw [append_data, append_data, HT.out, linesX_snoc L k d HDK.out, ← hX])
          have HSN : Hid (∀ x ∈ L.take (k + 1), smallD x = true) := Lib.hid (by
            intro x hx
            rw [List.take_add_one, HDK.out] at hx
            rcases List.mem_append.1 hx with hx | hx
            · exact HS.out x hx
            · simp at hx; rw [hx]; exact HSM.out)
          have HC8 : Hid ((cells8 d (.slice AB nB cB) (.slice AC nC cC) (.slice AK nK cK)) = [.int .i64 d.kind, .int .i64 d.conn, .int .i64 d.n, .slice AB nB cB, .slice AC nC cC, .slice AK nK cK, .int .i64 d.torn, .int .i64 d.part]) := Lib.hid rfl
          clear hsm hdn hpl e1 hrd hbk hX
          go_upto_region 10 with (go_at_call 26; refine (SM.out _).mono ?_; rintro e w3 ⟨rfl, hb3⟩)
          have B3 := Lib.hid hb3
          obtain ⟨x0, x1, x2, x3, x4, x5, x6, x7⟩ := H8.out.below hb3 hbl0
          clear hb3 SM a0 a1 a2 a3 a4 a5 a6 a7
          go_cut [4] from 31 to 38 (fun s4 wx => s4 = .bool (bk && rd) ∧ Below w0.heap.size w0 wx)
          case first =>
            cases bk with
            | false =>
              go_wp2
              go_meet
              exact ⟨rfl, B3.out⟩
            | true =>
              go_wp2_with (go_at_call 27; refine (RR.out _ B3.out).mono ?_; rintro e w4 ⟨rfl, hb4⟩)
              go_meet
              exact ⟨rfl, below_step B3.out hb4⟩
          case rest =>
            obtain ⟨w4, rfl⟩ : ∃ W : World, W = wc := ⟨_, rfl⟩
            obtain ⟨rfl, hb4⟩ := hcut
            have B4 := Lib.hid hb4
            obtain ⟨y0, y1, y2, y3, y4, y5, y6, y7⟩ := H8.out.below hb4 hbl0
            clear x0 x1 x2 x3 x4 x5 x6 x7 hb4 B3
            go_upto_region 12 with (go_at_call 28; refine (PX.out _ B4.out).mono ?_; rintro e w5 ⟨rfl, hb5⟩; have B5 := Lib.hid (below_step B4.out hb5))
            clear y0 y1 y2 y3 y4 y5 y6 y7
            rw [HC8.out] at RS
            clear HC8
            cases rd with
            | false =>
              refine wp_region_tree (fun W => Below w0.heap.size w0 W) (.take 0 (.take 1 (.take 2 (.take 3 (.take 6 (.take 7 (.take 8 (.take 9 (.node (.fork 4 (.node (.fork 5 (.node (.fork 10 (.take 11 (.done)) (.stop))) (.stop))) (.stop))))))))))) (by kernel_rfl) (by kernel_rfl) (of_decide_eq_true (by kernel_rfl)) rfl (by kernel_rfl) (below_drewN B5.out 1) ?_
              intro w1 hH
              iterate 8
                refine tree_take (v := ?_) rfl (by rfl) ?_ ?_
                rotate_left
                · intro w2 hSw
                  obtain ⟨z0, z1, z2, z3, z4, z5, z6, z7⟩ := H8.out.below hSw hbl0
                  clear hSw
                  go_simp
                  try with_reducible rfl
                try simp only [Act.put, List.setIfInBounds_toArray, List.set_cons_zero, List.set_cons_succ]
              refine tree_node ?_
              refine tree_move rfl (by rfl) (fun K hK => ?_) ?_
              · go_simp
                refine hK.out _ _ (hH.out.alloc hH.out.size _) ?_
                have FB := Lib.hid (row_new hH 53 [.int .i64 d.kind, .int .i64 d.conn, .int .i64 d.n, .slice AB nB cB, .slice AC nC cC, .slice AK nK cK, .int .i64 d.torn, .int .i64 d.part])
                clear hH hK K
                intro hH
                try simp only [Act.put, List.setIfInBounds_toArray, List.set_cons_zero, List.set_cons_succ]
                refine tree_node ?_
                refine tree_move rfl (by rfl) (fun K hK => ?_) ?_
                · go_simp
                  (with_reducible refine (RS.out _ _ FB.out hH.out).mono ?_)
                  rintro e w6 ⟨rfl, hb6⟩
                  refine hK.out _ _ (below_step hH.out hb6) ?_
                  clear hH hK hb6 K
                  intro hH
                  try simp only [Act.put, List.setIfInBounds_toArray, List.set_cons_zero, List.set_cons_succ]
                  refine tree_node ?_
                  refine tree_move rfl (by rfl) (fun K hK => ?_) ?_
                  · go_simp
                    (with_reducible refine (RR.out _ hH.out).mono ?_)
                    rintro e w6 ⟨rfl, hb6⟩
                    refine hK.out _ _ (below_step hH.out hb6) ?_
                    try (replace FB := Lib.hid (FB.out.below hb6 FB.out.lt))
                    clear hH hK hb6 K
                    intro hH
                    try simp only [Act.put, List.setIfInBounds_toArray, List.set_cons_zero, List.set_cons_succ]
                    iterate 1
                      refine tree_take (v := ?_) rfl (by rfl) ?_ ?_
                      rotate_left
                      · intro w2 hSw
                        obtain ⟨z0, z1, z2, z3, z4, z5, z6, z7⟩ := H8.out.below hSw hbl0
                        clear hSw
                        go_simp
                        try with_reducible rfl
                      try simp only [Act.put, List.setIfInBounds_toArray, List.set_cons_zero, List.set_cons_succ]
                    refine tree_done ?_
                    go_wp2_with fail
                    go_roundw
                    case rel => exact ⟨k + 1, _, by omega, by go_num, rfl, HTN.out, by rw [HN.out]; simp, HSN.out, HB.out.trans (hH.out.mono hws)⟩
                    case measure => simp [intOf]; omega
                  exact tree_stop
                exact tree_stop
              exact tree_stop
            | true =>
              refine wp_region_tree (fun W => Below w0.heap.size w0 W) (.take 0 (.take 1 (.take 2 (.take 3 (.take 6 (.take 7 (.take 8 (.take 9 (.node (.fork 4 (.node (.fork 5 (.node (.fork 10 (.take 11 (.done)) (.stop))) (.stop))) (.stop))))))))))) (by kernel_rfl) (by kernel_rfl) (of_decide_eq_true (by kernel_rfl)) rfl (by kernel_rfl) (below_drewN B5.out 1) ?_
              intro w1 hH
              iterate 8
                refine tree_take (v := ?_) rfl (by rfl) ?_ ?_
                rotate_left
                · intro w2 hSw
                  obtain ⟨z0, z1, z2, z3, z4, z5, z6, z7⟩ := H8.out.below hSw hbl0
                  clear hSw
                  go_simp
                  try with_reducible rfl
                try simp only [Act.put, List.setIfInBounds_toArray, List.set_cons_zero, List.set_cons_succ]
              refine tree_node ?_
              refine tree_move rfl (by rfl) (fun K hK => ?_) ?_
              · go_simp
                refine hK.out _ _ (hH.out.alloc hH.out.size _) ?_
                have FB := Lib.hid (row_new hH 53 [.int .i64 d.kind, .int .i64 d.conn, .int .i64 d.n, .slice AB nB cB, .slice AC nC cC, .slice AK nK cK, .int .i64 d.torn, .int .i64 d.part])
                clear hH hK K
                intro hH
                try simp only [Act.put, List.setIfInBounds_toArray, List.set_cons_zero, List.set_cons_succ]
                refine tree_node ?_
                refine tree_move rfl (by rfl) (fun K hK => ?_) ?_
                · go_simp
                  (with_reducible refine (RS.out _ _ FB.out hH.out).mono ?_)
                  rintro e w6 ⟨rfl, hb6⟩
                  refine hK.out _ _ (below_step hH.out hb6) ?_
                  clear hH hK hb6 K
                  intro hH
                  try simp only [Act.put, List.setIfInBounds_toArray, List.set_cons_zero, List.set_cons_succ]
                  refine tree_node ?_
                  refine tree_move rfl (by rfl) (fun K hK => ?_) ?_
                  · go_simp
                    (with_reducible refine (RR.out _ hH.out).mono ?_)
                    rintro e w6 ⟨rfl, hb6⟩
                    refine hK.out _ _ (below_step hH.out hb6) ?_
                    try (replace FB := Lib.hid (FB.out.below hb6 FB.out.lt))
                    clear hH hK hb6 K
                    intro hH
                    try simp only [Act.put, List.setIfInBounds_toArray, List.set_cons_zero, List.set_cons_succ]
                    iterate 1
                      refine tree_take (v := ?_) rfl (by rfl) ?_ ?_
                      rotate_left
                      · intro w2 hSw
                        obtain ⟨z0, z1, z2, z3, z4, z5, z6, z7⟩ := H8.out.below hSw hbl0
                        clear hSw
                        go_simp
                        try with_reducible rfl
                      try simp only [Act.put, List.setIfInBounds_toArray, List.set_cons_zero, List.set_cons_succ]
                    refine tree_done ?_
                    go_wp2_with fail
                    go_roundw
                    case rel => exact ⟨k + 1, _, by omega, by go_num, rfl, HTN.out, by rw [HN.out]; simp, HSN.out, HB.out.trans (hH.out.mono hws)⟩
                    case measure => simp [intOf]; omega
                  exact tree_stop
                exact tree_stop
              exact tree_stop
      · obtain rfl : n = k := by omega
        have hta : L.take n = L := List.take_of_length_le (by rw [HL.out]; exact Nat.le_refl _)
        rw [hta] at HT HS ⊢
        have hsn : ∀ d ∈ L, DeedN d := fun d hd => small_N (HS.out d hd) (HI.out d hd)
        have hlen := linesX_len L fun d hd => ⟨HS.out d hd, HI.out d hd⟩
        rw [HL.out] at hlen
        have DI : DeedsIn w A n c L V := ⟨Hin.out, HR.out, hsn⟩
        have PA := Lib.hid (fun (W : World) (hW : Below w.heap.size w W) => sPrint_any A n c L V W (DI.below hW) (by omega))
        have RA := Lib.hid (fun (W : World) (hW : Below w.heap.size w W) => sRight_any A n c L V W (DI.below hW) (by omega))
        obtain ⟨r, hr⟩ : ∃ r, L.all rightD = r := ⟨_, rfl⟩
        rw [hr] at RA ⊢
        cases r with
        | false =>
          have hp : printAll L = ([], 2) := by unfold printAll; rw [hr]; rfl
          rw [hp] at PA
          clear hp hr hta hsn hlen DI hlt
          go_wp2_with (first
            | (go_at_call 34; refine (PA.out _ HB.out).mono ?_; rintro e w3 ⟨rfl, hb3⟩; have B3 := Lib.hid (HB.out.trans (hb3.mono hws)); clear hb3)
            | (go_at_call 33; refine (RA.out _ B3.out).mono ?_; rintro e w4 ⟨rfl, hb4⟩; have B4 := Lib.hid (B3.out.trans (hb4.mono B3.out.size)); clear hb4))
          go_ret
          exact ⟨rfl, B4.out⟩
        | true =>
          have hX := linesX_right hr
          rw [hX] at HT hlen
          have hp : printAll L = (scriptOf L, 0) := by unfold printAll; rw [if_pos hr, if_neg (by rw [HL.out]; omega), if_neg (by omega)]
          rw [hp] at PA
          have hTe : (⟨(scriptOf L).toArray⟩ : ByteArray) = T := (bytes_eq HT.out).symm
          simp only at PA
          rw [hTe] at PA
          have hok : ∀ d ∈ L, OkD d := fun d hd => right_ok (List.all_eq_true.1 hr d hd) (HI.out d hd)
          have SP := fun w => sParse_any T (by omega) w
          rw [HT.out, script_print hok (by rw [HL.out]; omega) (by omega)] at SP
          simp only at SP
          rw [HL.out] at SP
          replace SP := Lib.hid SP
          have hds : ∀ d ∈ L, DeedS d := fun d hd => ⟨by have := (hsn d hd).lc; omega, by have := (hsn d hd).lk; omega⟩
          have SA := Lib.hid (fun (W : World) (A1 : Option Addr) (c1 : Nat) (V1 : List Value) (h1 : SliceIn W W.heap.size 8 A1 n c1 V1) (r1 : DeedsR W W.heap.size L V1) (hW : Below w.heap.size w W) =>
            refSames27_any A1 A n c1 c L V1 V W h1 r1 ((Hin.out.below hW).more hW.size) ((HR.out.below hW).more hW.size) (by omega) hds)
          clear hp hr hta hsn hlen DI hlt hX hok hTe hds
          go_wp2_with (first
            | (go_at_call 34; refine (PA.out _ HB.out).mono ?_; rintro e w3 ⟨rfl, hb3⟩; have B3 := Lib.hid (HB.out.trans (hb3.mono hws)); clear hb3)
            | (go_at_call 33; refine (RA.out _ B3.out).mono ?_; rintro e w4 ⟨rfl, hb4⟩; have B4 := Lib.hid (B3.out.trans (hb4.mono B3.out.size)); clear hb4)
            | (go_at_call 23; refine (SP.out _).mono ?_; rintro e w5 ⟨v5, V5, rfl, ho5, hv5, hb5⟩; have B5 := Lib.hid (B4.out.trans (hb5.mono B4.out.size)); obtain ⟨A5, c5, rfl, hs5⟩ := own_slice ho5; have Q5 := Lib.hid (SA.out w5 A5 c5 V5 hs5 (DeedsV.read hv5) B5.out); clear ho5 hv5 hs5 hb5)
            | (go_at_call 25; refine Q5.out.mono ?_; rintro e w6 ⟨rfl, hb6⟩; have B6 := Lib.hid (B5.out.trans (hb6.mono B5.out.size)); clear hb6))
          go_ret
          exact ⟨ret_bool (by simp), B6.out⟩
end Go.Proofs.Ytmcioedmjcbfbaa
