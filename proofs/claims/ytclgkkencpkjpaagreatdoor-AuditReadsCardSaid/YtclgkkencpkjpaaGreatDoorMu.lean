/- Mu: several texts, one behind the other. -/
import Derived.Test.YtclgkkencpkjpaaGreatDoorMt
/- Layer 26: the document's Responses. Condition: at most 65535 octets. -/
namespace IH
theorem responsesF_end (fin : Bool) (f : Nat) (b : List UInt8) (out : List Msg) : responsesF fin f b [] out = (out, 0) := by
  cases f with
  | zero => rfl
  | succ f => unfold responsesF; rfl
theorem responsesF_nil (fin : Bool) (f : Nat) (ms : List (List UInt8)) (out : List Msg) : responsesF fin f [] ms out = (out, 0) := by
  cases f with
  | zero => rfl
  | succ f =>
    cases ms with
    | nil => unfold responsesF; rfl
    | cons m r => unfold responsesF; simp
theorem responsesF_step {fin : Bool} {f : Nat} {b : List UInt8} {m : List UInt8} {r : List (List UInt8)} {out : List Msg} (hb : b ≠ []) : responsesF fin (f + 1) b (m :: r) out =
    if (toldM false m b).e ≠ 0 then (out, (toldM false m b).e) else if (toldM false m b).over = false then (out, 11)
    else if fin = true ∧ (toldM false m b).start.status < 200 then responsesF fin f (b.drop (toldM false m b).n) (m :: r) out
    else responsesF fin f (b.drop (toldM false m b).n) r (out ++ [msgOf (toldM false m b)]) := by
  conv => lhs; unfold responsesF
  simp only
  rw [if_neg hb]
end IH
namespace Go.Proofs.YtclgkkencpkjpaaGreatDoor
open Go.RowKit IH
set_option maxRecDepth 100000
/-- A slice of texts. -/
def textsV (MS : List ByteArray) : List Value := MS.map .string
def methodsL (MS : List ByteArray) : List (List UInt8) := MS.map (·.data.toList)
theorem text_at {w : World} {B n c : Nat} {A : Option Addr} {MS : List ByteArray} (h : SliceIn w B 1 A n c (textsV MS)) {i : Nat} (hi : i < n) : ∃ (b o : Nat) (M : ByteArray), A = some ⟨b, o, none⟩ ∧ b < B ∧ MS[i]? = some M ∧ w.cell? ⟨b, o + i, none⟩ = some (.string M) := by
  obtain ⟨b, o, hA, hb, hc⟩ := h.2.2.2 (by omega)
  have hl : MS.length = n := by have := h.1; simp [textsV] at this; exact this
  obtain ⟨M, hM⟩ : ∃ M, MS[i]? = some M := ⟨_, List.getElem?_eq_getElem (by omega)⟩
  exact ⟨b, o, M, hA, hb, hM, hc i _ (by simp [textsV, hM])⟩
set_option maxHeartbeats 16000000 in
theorem rresp26_any (A : Option Addr) (n c : Nat) (L : List UInt8) (A1 : Option Addr) (n1 c1 : Nat) (MS : List ByteArray) (fin : Bool) (w : World) (hin : SliceIn w w.heap.size 1 A n c (bytesV L)) (hms1 : SliceIn w w.heap.size 1 A1 n1 c1 (textsV MS)) (hn : n ≤ 65535) :
    Calls Tryz.prog 25 #[.slice A n c, .slice A1 n1 c1, .bool fin] w fun e w' => ∃ v CS, e = .returned (.tuple #[v, .int .i64 (responsesL fin L (methodsL MS)).2]) ∧ w'.ownsRow w.heap.size 65 7 v (responsesL fin L (methodsL MS)).1.length CS.flatten ∧ MsgsO w' (responsesL fin L (methodsL MS)).1 CS ∧ (∀ m ∈ (responsesL fin L (methodsL MS)).1, m.fields.length ≤ 128) ∧ (responsesL fin L (methodsL MS)).1.length ≤ n ∧ Below w.heap.size w w' := by
  have HMi : Hid ((Tryz.prog.info? 65).map (·.size) = some 7) := Lib.hid (by kernel_rfl)
  have hLl : L.length = n := by have := hin.1; rw [bytesV_length] at this; omega
  have TD := Lib.hid (fun (W : World) (M : ByteArray) (A' : Option Addr) (k c' : Nat) (l : List UInt8) (h : SliceIn W W.heap.size 1 A' k c' (bytesV l)) (hk : k ≤ 65535) => told_own false M A' k c' l W h hk)
  have hMSl : MS.length = n1 := by have := hms1.1; simp [textsV] at this; exact this
  have hn19 : (n1 : Int) ≤ 9223372036854775807 := by have := hms1.2.1; have := hms1.2.2.1; simp only [maxLen] at this; omega
  have HMSl := Lib.hid hMSl
  have HM1 := Lib.hid hms1
  have Hc1 := Lib.hid hms1.2.1
  have Hin := Lib.hid hin
  have Hn := Lib.hid hn
  obtain ⟨T, hT⟩ : ∃ T, responsesL fin L (methodsL MS) = T := ⟨_, rfl⟩
  have HT : Hid (T = responsesF fin (L.length + 1) L (methodsL MS) []) := Lib.hid hT.symm
  have HLl := Lib.hid hLl
  rw [hT]
  clear hin hn hT hLl hMSl hms1
  go_enter Tryz.func25, Tryz.ntmps25
  go_wp2_with fail
  go_loopw [0, 8] (fun bv ov wr => ∃ (A' : Option Addr) (k ck : Nat) (l : List UInt8) (O : List Msg) (CS : List (List Value)) (f : Nat), bv = .slice A' k ck ∧ SliceIn wr w.heap.size 1 A' k ck (bytesV l) ∧ wr.ownsRow w.heap.size 65 7 ov O.length CS.flatten ∧ MsgsO wr O CS ∧ (∀ m ∈ O, m.fields.length ≤ 128) ∧ O.length + k ≤ n ∧ O.length ≤ n1 ∧ k < f ∧ T = responsesF fin f l ((methodsL MS).drop O.length) O ∧ Below w.heap.size w wr) (fun bv _ _ => (match bv with | .slice _ k _ => k | _ => 0))
  case atStart =>
    exact ⟨A, n, c, L, [], [], n + 1, rfl, Hin.out, by simpa using World.ownsRow_nil _ _ _ _, MsgsO.nil _, (fun m h => by cases h), by simp, Nat.zero_le _, by omega, by rw [HT.out, HLl.out]; rfl, Below.refl _ _⟩
  case round =>
    obtain ⟨wq, hwq⟩ : ∃ x : World, x = wr := ⟨_, rfl⟩
    subst hwq
    obtain ⟨A', k, ck, l, O, CS, f, rfl, hin, hown, hms, hfew, hok, hon, hkf, hrun, hbq⟩ := hrel
    obtain ⟨Av, cv, rfl, -⟩ := own_slice hown
    have hll : l.length = k := by have := hin.1; rw [bytesV_length] at this; omega
    have hkc := hin.2.1
    have HIN := Lib.hid hin
    have OWq := Lib.hid hown
    have MSq := Lib.hid hms
    have FEW := Lib.hid hfew
    have HOK := Lib.hid hok
    have HON := Lib.hid hon
    have HKF := Lib.hid hkf
    have HRUN := Lib.hid hrun
    have Bq := Lib.hid hbq
    have HLL := Lib.hid hll
    clear hin hown hms hfew hok hon hkf hrun hbq hll
    by_cases hex : O.length = n1 ∨ k = 0
    · have HV : Hid (T = (O, 0)) := Lib.hid (by
        rw [HRUN.out]
        rcases hex with h | h
        · rw [h, List.drop_of_length_le (by simp [methodsL, HMSl.out])]
          exact responsesF_end _ _ _ _
        · rw [List.eq_nil_of_length_eq_zero (show l.length = 0 by rw [HLL.out]; exact h)]
          exact responsesF_nil _ _ _ _)
      have fin2 : ∃ v CS, Ending.returned (.tuple #[.slice Av O.length cv, .int .i64 0]) = Ending.returned (.tuple #[v, .int .i64 T.2]) ∧ wq.ownsRow w.heap.size 65 7 v T.1.length CS.flatten ∧ MsgsO wq T.1 CS ∧ (∀ m ∈ T.1, m.fields.length ≤ 128) ∧ T.1.length ≤ n ∧ Below w.heap.size w wq :=
        ⟨_, CS, by rw [HV.out], by rw [HV.out]; exact OWq.out, by rw [HV.out]; exact MSq.out, by rw [HV.out]; exact FEW.out, by rw [HV.out]; exact (show O.length ≤ n by have := HOK.out; omega), Bq.out⟩
      have FIN2 := Lib.hid fin2
      clear fin2
      by_cases h1 : O.length = n1
      · have h1' : ¬ ((O.length : Int) < (n1 : Int)) := by omega
        clear hex h1
        go_wp2_with fail
        go_ret2
        simpa using FIN2.out
      · have h1' : (O.length : Int) < (n1 : Int) := by have := HON.out; omega
        have hk0 : k = 0 := hex.resolve_left h1
        subst hk0
        clear hex h1
        go_wp2_with fail
        go_ret2
        simpa using FIN2.out
    · have hlt : O.length < n1 := by have := HON.out; omega
      have hk0 : 0 < k := by omega
      have hkI : (0 : Int) < (k : Int) := by omega
      have hoI : (O.length : Int) < (n1 : Int) := by omega
      have hl0 : l ≠ [] := fun h => by rw [← HLL.out, h] at hk0; simp at hk0
      obtain ⟨f', rfl⟩ : ∃ f', f = f' + 1 := ⟨f - 1, by have := HKF.out; omega⟩
      obtain ⟨b1, o1, M, hA1, hb1, hM, hcM⟩ := text_at HM1.out hlt
      have hms : (methodsL MS).drop O.length = M.data.toList :: (methodsL MS).drop (O.length + 1) := by
        have h1 : (methodsL MS)[O.length]? = some M.data.toList := by simp [methodsL, hM]
        obtain ⟨h2, h3⟩ := List.getElem?_eq_some_iff.1 h1
        rw [List.drop_eq_getElem_cons h2, h3]
      have hcq := (Bq.out.cell (p := ⟨b1, o1 + O.length, none⟩) hb1).trans hcM
      have hstep := responsesF_step (fin := fin) (f := f') (m := M.data.toList) (r := (methodsL MS).drop (O.length + 1)) (out := O) hl0
      rw [← hms, ← HRUN.out] at hstep
      have hpos := told_pos26 (asks := false) (method := M.data.toList) (b := l)
      have hle := told_le (asks := false) (method := M.data.toList) (b := l)
      have hfw := told_few false M.data.toList l
      have TDq := TD.out wq M A' k ck l (HIN.out.more Bq.out.size) (by have := HOK.out; have := Hn.out; omega)
      obtain ⟨U, hU⟩ : ∃ U, toldM false M.data.toList l = U := ⟨_, rfl⟩
      rw [hU] at hstep hpos hle hfw
      simp only [hU] at TDq
      obtain ⟨ts, tf, tb, tfr, tn, tov, te⟩ := U
      simp only at hstep hpos hle hfw TDq
      have HSTEP := Lib.hid hstep
      have HPOS := Lib.hid hpos
      have HLE := Lib.hid hle
      have HFW := Lib.hid hfw
      have HLT := Lib.hid hlt
      have HMS := Lib.hid hms
      replace TDq := Lib.hid TDq
      have tokA : Hid True := Lib.hid trivial
      subst hA1
      clear hstep hpos hle hfw hU hl0 hk0 hlt hms hM hcM hb1 hex
      go_upto_if 38 with (first
        | (go_at_call 55; (with_reducible refine TDq.out.mono ?_); rintro e w1 ⟨C, rfl, hC1, hb1⟩; obtain ⟨p0, p1, p2, p3, p4, p5, p6, rfl⟩ := list7w hC1.right.1; have hp2 : p2 = .int .i64 ts.status := (by obtain ⟨A5, n5, c5, A6, n6, c6, h, -, -⟩ := hC1; have h2 := congrArg (fun x => x[2]?) h; simpa [msgC, staC, msgOf] using h2); subst hp2; have hone := hC1.right.2; have B1 := Lib.hid (below_step Bq.out hb1); have OW1 := Lib.hid (own_below OWq.out hb1); have MS1 := Lib.hid (MSq.out.below hb1); have MC1 := Lib.hid hC1; have IN1 := Lib.hid (HIN.out.below ((Below.mono hb1 Bq.out.size))); have H1 := Lib.hid hone; clear hb1 hC1 hone)
        | (have _t := tokA; refine wpList_store_row rfl 65 _ _ rfl w1.heap.size _ [p0, p1, .int .i64 ts.status, p3, p4, p5, p6] zeroM rfl rfl (RowAt.new w1 65 _) rfl HMi.out H1.out ?_; intro w2 hro hoo; have hb2 := hoo.below ((Below.refl w1.heap.size w1).alloc (Nat.le_refl _) _) (Nat.le_refl _); have B2 := Lib.hid (below_step B1.out hb2); have OW2 := Lib.hid (own_below OW1.out hb2); have MS2 := Lib.hid (MS1.out.below hb2); have MC2 := Lib.hid (MC1.out.below hb2); have IN2 := Lib.hid (IN1.out.below (Below.mono hb2 B1.out.size)); have R2 := Lib.hid hro; clear hro hoo hb2 tokA _t))
      clear hcq
      by_cases he : te ≠ 0
      · have hne : (te != 0) = true := by rw [bne_iff_ne]; exact he
        have HV : Hid (T = (O, te)) := Lib.hid (by rw [HSTEP.out, if_pos he])
        clear he
        go_wp2_with fail
        go_ret2
        first
          | exact ⟨_, CS, by rw [HV.out]; rfl, by rw [HV.out]; exact OW2.out, by rw [HV.out]; exact MS2.out, by rw [HV.out]; exact FEW.out, by rw [HV.out]; exact (show O.length ≤ n by have := HOK.out; omega), B2.out⟩
          | exact ⟨_, by rw [HV.out]; rfl, CS, by rw [HV.out]; exact OW2.out, by rw [HV.out]; exact MS2.out, by rw [HV.out]; exact FEW.out, by rw [HV.out]; exact (show O.length ≤ n by have := HOK.out; omega), B2.out⟩
      obtain rfl : te = 0 := by omega
      clear he
      cases tov
      · have HV : Hid (T = (O, 11)) := Lib.hid (by rw [HSTEP.out, if_neg (by simp), if_pos rfl])
        go_wp2_with fail
        go_ret2
        first
          | exact ⟨_, CS, by rw [HV.out]; rfl, by rw [HV.out]; exact OW2.out, by rw [HV.out]; exact MS2.out, by rw [HV.out]; exact FEW.out, by rw [HV.out]; exact (show O.length ≤ n by have := HOK.out; omega), B2.out⟩
          | exact ⟨_, by rw [HV.out]; rfl, CS, by rw [HV.out]; exact OW2.out, by rw [HV.out]; exact MS2.out, by rw [HV.out]; exact FEW.out, by rw [HV.out]; exact (show O.length ≤ n by have := HOK.out; omega), B2.out⟩
      · have HT0 : Hid (0 < tn) := Lib.hid (HPOS.out (by first | rfl | trivial))
        have HTL : Hid (tn ≤ k) := Lib.hid (by have := HLE.out (by first | rfl | trivial); rw [HLL.out] at this; exact this)
        have d0 := R2.out.cell (j := 0) rfl
        have d1 := R2.out.cell (j := 1) rfl
        have d2 := R2.out.cell (j := 2) rfl
        have d3 := R2.out.cell (j := 3) rfl
        have d4 := R2.out.cell (j := 4) rfl
        have d5 := R2.out.cell (j := 5) rfl
        have d6 := R2.out.cell (j := 6) rfl
        have hbal := below_al w2 (.cells #[p0, p1, .int .i64 ts.status, p3, p4, p5, p6] 65)
        have OW3 := Lib.hid (own_below OW2.out hbal)
        have MS3 := Lib.hid (MS2.out.below hbal)
        have MC3 := Lib.hid (MC2.out.below hbal)
        have IN3 := Lib.hid (IN2.out.below (Below.mono hbal B2.out.size))
        have B3 := Lib.hid (below_step B2.out hbal)
        have RV := Lib.hid ((RowAt.new w2 65 [p0, p1, .int .i64 ts.status, p3, p4, p5, p6]).slice (size := 7) (n := 1) (c := 1) rfl (Nat.le_refl _) (by simp [maxLen]))
        clear hbal
        have HRS : Hid (fin = true → ts.status < 200 → T = responsesF fin f' (l.drop tn) ((methodsL MS).drop O.length) O) := Lib.hid (fun h1 h2 => by rw [HSTEP.out, if_neg (by simp), if_neg (by simp), if_pos ⟨h1, h2⟩])
        have HRA : Hid (¬ (fin = true ∧ ts.status < 200) → T = responsesF fin f' (l.drop tn) ((methodsL MS).drop (O.length + 1)) (O ++ [msgOf ⟨ts, tf, tb, tfr, tn, true, 0⟩])) := Lib.hid (fun h => by rw [HSTEP.out, if_neg (by simp), if_neg (by simp), if_neg h])
        by_cases hst : ts.status < 200
        · cases fin
          · have HRN := Lib.hid (HRA.out (by simp))
            go_wp2_with (first
              | (refine wpList_slice_l rfl 38 5 _ _ rfl Tryz.underlying38 (by kernel_rfl) A' k ck tn rfl rfl HTL.out ?_)
              | (at_builtin; refine wpList_appS msg_ty rfl _ _ rfl w.heap.size _ O.length CS.flatten rfl OW3.out _ _ 1 1 [p0, p1, .int .i64 ts.status, p3, p4, p5, p6] rfl RV.out H1.out (by have := HOK.out; have := Hn.out; omega) (by have := HOK.out; have := Hn.out; simp only [maxLen]; omega) B3.out.size ?_; intro v4 w4 hown4 hgr4; have B4 := Lib.hid (B3.out.grown hgr4 B3.out.size (fun q hq => (OW3.out.lt q hq).1)); have OW4 := Lib.hid hown4; have MS4 := Lib.hid (MS3.out.grown OW3.out hgr4); have MC4 := Lib.hid (MC3.out.grown OW3.out hgr4); have IN4 := Lib.hid (IN3.out.grown hgr4 B3.out.size (fun q hq => (OW3.out.lt q hq).1)); clear hown4 hgr4))
            go_roundw
            case rel =>
              refine ⟨sliceA A' ck tn, k - tn, ck - tn, l.drop tn, O ++ [msgOf ⟨ts, tf, tb, tfr, tn, true, 0⟩], CS ++ [[p0, p1, .int .i64 ts.status, p3, p4, p5, p6]], f', rfl, sub_from IN4.out tn HTL.out, ?_, MS4.out.snoc MC4.out, ?_, ?_, ?_, ?_, ?_, B4.out⟩
              · rw [List.length_append, List.flatten_append]
                have h := OW4.out
                simpa using h
              · intro m hm
                rcases List.mem_append.1 hm with h | h
                · exact FEW.out m h
                · rw [List.mem_singleton.1 h]; exact HFW.out
              · rw [List.length_append]
                have := HOK.out
                have := HT0.out
                have := HTL.out
                simp only [List.length_cons, List.length_nil]
                omega
              · rw [List.length_append]
                have := HLT.out
                simp only [List.length_cons, List.length_nil]
                omega
              · have := HKF.out
                have := HT0.out
                have := HTL.out
                omega
              · rw [HRN.out, List.length_append]
                rfl
            case measure => have := HT0.out; have := HTL.out; simp; omega
          · have HRN := Lib.hid (HRS.out (by first | rfl | trivial) hst)
            have hst2 : ¬ ((200 : Int) ≤ ts.status) := by omega
            go_wp2_with (refine wpList_slice_l rfl 38 5 _ _ rfl Tryz.underlying38 (by kernel_rfl) A' k ck tn rfl rfl HTL.out ?_)
            go_roundw
            case rel =>
              exact ⟨sliceA A' ck tn, k - tn, ck - tn, l.drop tn, O, CS, f', rfl, sub_from IN2.out tn HTL.out, OW2.out, MS2.out, FEW.out, by have := HOK.out; omega, HON.out, by have := HKF.out; have := HT0.out; have := HTL.out; omega, HRN.out, B2.out⟩
            case measure => have := HT0.out; have := HTL.out; simp; omega
        · have hst2 : (200 : Int) ≤ ts.status := by omega
          have HRN := Lib.hid (HRA.out (fun h => hst h.2))
          cases fin
          · go_wp2_with (first
              | (refine wpList_slice_l rfl 38 5 _ _ rfl Tryz.underlying38 (by kernel_rfl) A' k ck tn rfl rfl HTL.out ?_)
              | (at_builtin; refine wpList_appS msg_ty rfl _ _ rfl w.heap.size _ O.length CS.flatten rfl OW3.out _ _ 1 1 [p0, p1, .int .i64 ts.status, p3, p4, p5, p6] rfl RV.out H1.out (by have := HOK.out; have := Hn.out; omega) (by have := HOK.out; have := Hn.out; simp only [maxLen]; omega) B3.out.size ?_; intro v4 w4 hown4 hgr4; have B4 := Lib.hid (B3.out.grown hgr4 B3.out.size (fun q hq => (OW3.out.lt q hq).1)); have OW4 := Lib.hid hown4; have MS4 := Lib.hid (MS3.out.grown OW3.out hgr4); have MC4 := Lib.hid (MC3.out.grown OW3.out hgr4); have IN4 := Lib.hid (IN3.out.grown hgr4 B3.out.size (fun q hq => (OW3.out.lt q hq).1)); clear hown4 hgr4))
            go_roundw
            case rel =>
              refine ⟨sliceA A' ck tn, k - tn, ck - tn, l.drop tn, O ++ [msgOf ⟨ts, tf, tb, tfr, tn, true, 0⟩], CS ++ [[p0, p1, .int .i64 ts.status, p3, p4, p5, p6]], f', rfl, sub_from IN4.out tn HTL.out, ?_, MS4.out.snoc MC4.out, ?_, ?_, ?_, ?_, ?_, B4.out⟩
              · rw [List.length_append, List.flatten_append]
                have h := OW4.out
                simpa using h
              · intro m hm
                rcases List.mem_append.1 hm with h | h
                · exact FEW.out m h
                · rw [List.mem_singleton.1 h]; exact HFW.out
              · rw [List.length_append]
                have := HOK.out
                have := HT0.out
                have := HTL.out
                simp only [List.length_cons, List.length_nil]
                omega
              · rw [List.length_append]
                have := HLT.out
                simp only [List.length_cons, List.length_nil]
                omega
              · have := HKF.out
                have := HT0.out
                have := HTL.out
                omega
              · rw [HRN.out, List.length_append]
                rfl
            case measure => have := HT0.out; have := HTL.out; simp; omega
          · go_wp2_with (first
              | (refine wpList_slice_l rfl 38 5 _ _ rfl Tryz.underlying38 (by kernel_rfl) A' k ck tn rfl rfl HTL.out ?_)
              | (at_builtin; refine wpList_appS msg_ty rfl _ _ rfl w.heap.size _ O.length CS.flatten rfl OW3.out _ _ 1 1 [p0, p1, .int .i64 ts.status, p3, p4, p5, p6] rfl RV.out H1.out (by have := HOK.out; have := Hn.out; omega) (by have := HOK.out; have := Hn.out; simp only [maxLen]; omega) B3.out.size ?_; intro v4 w4 hown4 hgr4; have B4 := Lib.hid (B3.out.grown hgr4 B3.out.size (fun q hq => (OW3.out.lt q hq).1)); have OW4 := Lib.hid hown4; have MS4 := Lib.hid (MS3.out.grown OW3.out hgr4); have MC4 := Lib.hid (MC3.out.grown OW3.out hgr4); have IN4 := Lib.hid (IN3.out.grown hgr4 B3.out.size (fun q hq => (OW3.out.lt q hq).1)); clear hown4 hgr4))
            go_roundw
            case rel =>
              refine ⟨sliceA A' ck tn, k - tn, ck - tn, l.drop tn, O ++ [msgOf ⟨ts, tf, tb, tfr, tn, true, 0⟩], CS ++ [[p0, p1, .int .i64 ts.status, p3, p4, p5, p6]], f', rfl, sub_from IN4.out tn HTL.out, ?_, MS4.out.snoc MC4.out, ?_, ?_, ?_, ?_, ?_, B4.out⟩
              · rw [List.length_append, List.flatten_append]
                have h := OW4.out
                simpa using h
              · intro m hm
                rcases List.mem_append.1 hm with h | h
                · exact FEW.out m h
                · rw [List.mem_singleton.1 h]; exact HFW.out
              · rw [List.length_append]
                have := HOK.out
                have := HT0.out
                have := HTL.out
                simp only [List.length_cons, List.length_nil]
                omega
              · rw [List.length_append]
                have := HLT.out
                simp only [List.length_cons, List.length_nil]
                omega
              · have := HKF.out
                have := HT0.out
                have := HTL.out
                omega
              · rw [HRN.out, List.length_append]
                rfl
            case measure => have := HT0.out; have := HTL.out; simp; omega
end Go.Proofs.YtclgkkencpkjpaaGreatDoor

/- Layer 26: audit.responses, by the code. Condition: the world's shape, at most 65535 octets, the methods' sizes. -/
namespace Go.Proofs.YtclgkkencpkjpaaGreatDoor
open Go.RowKit IH
set_option maxRecDepth 100000
set_option maxHeartbeats 16000000 in
theorem aresp26_any (A : Option Addr) (n c : Nat) (L : List UInt8) (A1 : Option Addr) (n1 c1 : Nat) (MS : List ByteArray) (fin : Bool) (w : World) (hsh : w.ShapedOpen Tryz.prog) (hin : SliceIn w w.heap.size 1 A n c (bytesV L)) (hms1 : SliceIn w w.heap.size 1 A1 n1 c1 (textsV MS)) (hn : n ≤ 65535) (hM : ∀ M ∈ MS, M.size ≤ maxLen) :
    Calls Tryz.prog 69 #[.slice A n c, .bool fin, .slice A1 n1 c1] w fun e w' => ∃ v CS, e = .returned (.tuple #[v, .int .i64 (responsesL fin L (methodsL MS)).2]) ∧ w'.ownsRow w.heap.size 65 7 v (responsesL fin L (methodsL MS)).1.length CS.flatten ∧ MsgsO w' (responsesL fin L (methodsL MS)).1 CS ∧ Below w.heap.size w w' := by
  have HMi : Hid ((Tryz.prog.info? 65).map (·.size) = some 7) := Lib.hid (by kernel_rfl)
  have hLl : L.length = n := by have := hin.1; rw [bytesV_length] at this; omega
  have PS := Lib.hid (fun (W : World) (hW : Below w.heap.size w W) (M : ByteArray) (hMs : M.size ≤ maxLen) (b0 off k ck : Nat) (l : List UInt8) (hb0 : b0 < W.heap.size) (hs : SliceIn W W.heap.size 1 (some ⟨b0, off, none⟩) k ck (bytesV l)) (hk : k ≤ 65535) => mparseT_any false M b0 off k ck l W (shaped_below hsh hW) hb0 hMs hs (by omega))
  have hMSl : MS.length = n1 := by have := hms1.1; simp [textsV] at this; exact this
  have hn19 : (n1 : Int) ≤ 9223372036854775807 := by have := hms1.2.1; have := hms1.2.2.1; simp only [maxLen] at this; omega
  have HMSl := Lib.hid hMSl
  have HM1 := Lib.hid hms1
  have HMb := Lib.hid hM
  have Hin := Lib.hid hin
  have Hn := Lib.hid hn
  obtain ⟨T, hT⟩ : ∃ T, responsesL fin L (methodsL MS) = T := ⟨_, rfl⟩
  have HT : Hid (T = responsesF fin (L.length + 1) L (methodsL MS) []) := Lib.hid hT.symm
  have HLl := Lib.hid hLl
  rw [hT]
  obtain ⟨w1, hw1⟩ : ∃ W : World, w.alloc (.cells #[.slice A n c, .slice none 0 0] 125) = W := ⟨_, rfl⟩
  have B1 : Hid (Below w.heap.size w w1) := Lib.hid (by rw [← hw1]; exact (Below.refl _ _).alloc (Nat.le_refl _) _)
  have R1 : Hid (RowAt w1 w.heap.size 125 [.slice A n c, .slice none 0 0]) := Lib.hid (by rw [← hw1]; exact RowAt.new w 125 _)
  clear hin hn hT hLl hsh hMSl hms1 hM
  go_enter Tryz.func69, Tryz.ntmps69
  go_wp2_with fail
  go_loopw [9] (fun iv wr => ∃ (A' : Option Addr) (k ck : Nat) (l : List UInt8) (O : List Msg) (CS : List (List Value)) (vO : Value) (f : Nat), iv = .int .i64 (O.length : Int) ∧ RowAt wr w.heap.size 125 [.slice A' k ck, vO] ∧ SliceIn wr w.heap.size 1 A' k ck (bytesV l) ∧ wr.ownsRow w.heap.size 65 7 vO O.length CS.flatten ∧ MsgsO wr O CS ∧ O.length + k ≤ n ∧ O.length ≤ n1 ∧ k < f ∧ T = responsesF fin f l ((methodsL MS).drop O.length) O ∧ Below w.heap.size w wr) (fun _ wr => (match wr.cell? ⟨w.heap.size, 0, none⟩ with | some (.slice _ k _) => k | _ => 0))
  case atStart =>
    exact ⟨A, n, c, L, [], [], _, n + 1, rfl, R1.out, Hin.out.below B1.out, by simpa using World.ownsRow_nil _ _ _ _, MsgsO.nil _, by simp, Nat.zero_le _, by omega, by rw [HT.out, HLl.out]; rfl, B1.out⟩
  case round =>
    obtain ⟨wq, hwq⟩ : ∃ x : World, x = wr := ⟨_, rfl⟩
    subst hwq
    obtain ⟨A', k, ck, l, O, CS, vO, f, rfl, hrow, hin, hown, hms, hok, hon, hkf, hrun, hbq⟩ := hrel
    have hll : l.length = k := by have := hin.1; rw [bytesV_length] at this; omega
    have Rq := Lib.hid hrow
    have IN := Lib.hid hin
    have OWq := Lib.hid hown
    have MSq := Lib.hid hms
    have HOK := Lib.hid hok
    have HON := Lib.hid hon
    have HKF := Lib.hid hkf
    have HRUN := Lib.hid hrun
    have Bq := Lib.hid hbq
    have HLL := Lib.hid hll
    have c0 := hrow.cell (j := 0) rfl
    have c1 := hrow.cell (j := 1) rfl
    clear hrow hin hown hms hok hon hkf hrun hbq hll
    by_cases hex : O.length = n1 ∨ k = 0
    · have HV : Hid (T = (O, 0)) := Lib.hid (by
        rw [HRUN.out]
        rcases hex with h | h
        · rw [h, List.drop_of_length_le (by simp [methodsL, HMSl.out])]
          exact responsesF_end _ _ _ _
        · rw [List.eq_nil_of_length_eq_zero (show l.length = 0 by rw [HLL.out]; exact h)]
          exact responsesF_nil _ _ _ _)
      have fin2 : ∃ v CS, Ending.returned (.tuple #[vO, .int .i64 0]) = Ending.returned (.tuple #[v, .int .i64 T.2]) ∧ wq.ownsRow w.heap.size 65 7 v T.1.length CS.flatten ∧ MsgsO wq T.1 CS ∧ Below w.heap.size w wq :=
        ⟨_, CS, by rw [HV.out], by rw [HV.out]; exact OWq.out, by rw [HV.out]; exact MSq.out, Bq.out⟩
      have FIN2 := Lib.hid fin2
      clear fin2
      by_cases h1 : O.length = n1
      · have h1' : ¬ ((O.length : Int) < (n1 : Int)) := by omega
        clear hex h1
        go_wp2_with fail
        go_ret2
        simpa using FIN2.out
      · have h1' : (O.length : Int) < (n1 : Int) := by have := HON.out; omega
        have hk0 : k = 0 := hex.resolve_left h1
        subst hk0
        clear hex h1
        go_wp2_with fail
        go_ret2
        simpa using FIN2.out
    · have hlt : O.length < n1 := by have := HON.out; omega
      have hk0 : 0 < k := by omega
      have hkI : (0 : Int) < (k : Int) := by omega
      have hoI : (O.length : Int) < (n1 : Int) := by omega
      have hl0 : l ≠ [] := fun h => by rw [← HLL.out, h] at hk0; simp at hk0
      obtain ⟨b0, off, hA, hb0, -⟩ := IN.out.2.2.2 (by omega)
      subst hA
      obtain ⟨f', rfl⟩ : ∃ f', f = f' + 1 := ⟨f - 1, by have := HKF.out; omega⟩
      obtain ⟨b1, o1, M, hA1, hb1, hM, hcM⟩ := text_at HM1.out hlt
      have hMs : M.size ≤ maxLen := HMb.out M (List.mem_of_getElem? hM)
      have hms : (methodsL MS).drop O.length = M.data.toList :: (methodsL MS).drop (O.length + 1) := by
        have h1 : (methodsL MS)[O.length]? = some M.data.toList := by simp [methodsL, hM]
        obtain ⟨h2, h3⟩ := List.getElem?_eq_some_iff.1 h1
        rw [List.drop_eq_getElem_cons h2, h3]
      have hcq := (Bq.out.cell (p := ⟨b1, o1 + O.length, none⟩) hb1).trans hcM
      have hstep := responsesF_step (fin := fin) (f := f') (m := M.data.toList) (r := (methodsL MS).drop (O.length + 1)) (out := O) hl0
      rw [← hms, ← HRUN.out] at hstep
      have hpos := told_pos26 (asks := false) (method := M.data.toList) (b := l)
      have hle := told_le (asks := false) (method := M.data.toList) (b := l)
      have PSq := fun (W : World) (hW : Below wq.heap.size wq W) => PS.out W (below_step Bq.out hW) M hMs b0 off k ck l (by have := Bq.out.size; have := hW.size; omega) ((IN.out.below (hW.mono Bq.out.size)).more (Nat.le_trans Bq.out.size hW.size)) (by have := HOK.out; have := Hn.out; omega)
      have HLT := Lib.hid hlt
      subst hA1
      clear hlt hms hM hcM hb1 hex hMs
      obtain ⟨U, hU⟩ : ∃ U, toldM false M.data.toList l = U := ⟨_, rfl⟩
      rw [hU] at hstep hpos hle
      have PSq2 : ∀ (W : World), Below wq.heap.size wq W → Calls Tryz.prog 120 #[.slice (some ⟨b0, off, none⟩) k ck, .bool false, .string M] W fun e w' => ParsedT U W.heap.size e w' ∧ Below W.heap.size W w' := fun W hW => by
        have h := PSq W hW
        rw [hU] at h
        exact h
      clear PSq hU hl0 hk0
      obtain ⟨ts, tf, tb, tfr, tn, tov, te⟩ := U
      simp only at hstep hpos hle
      by_cases hbad : te ≠ 0 ∨ tov = false
      · obtain ⟨er, her, hV, hP⟩ : ∃ er : Int, er ≠ 0 ∧ T = (O, er) ∧ (∀ (W : World), Below wq.heap.size wq W → Calls Tryz.prog 120 #[.slice (some ⟨b0, off, none⟩) k ck, .bool false, .string M] W fun e w' => e = .returned (.tuple #[.agg zeroM.toArray, .int .i64 0, .int .i64 er]) ∧ Below W.heap.size W w') := by
          by_cases he : te ≠ 0
          · refine ⟨te, he, by rw [hstep, if_pos he], fun W hW => (PSq2 W hW).mono ?_⟩
            rintro e w' ⟨h, hb⟩
            rcases h with ⟨-, h⟩ | ⟨h, -⟩ | ⟨h, -⟩
            · exact ⟨h, hb⟩
            · exact absurd h he
            · exact absurd h he
          · have h0 : te = 0 := by omega
            have hov : tov = false := hbad.resolve_left he
            refine ⟨11, by decide, by rw [hstep, if_neg he, if_pos hov], fun W hW => (PSq2 W hW).mono ?_⟩
            rintro e w' ⟨h, hb⟩
            rcases h with ⟨h, -⟩ | ⟨-, -, h⟩ | ⟨-, h, -⟩
            · exact absurd h0 h
            · exact ⟨h, hb⟩
            · rw [hov] at h; cases h
        have NB := Lib.hid (next_bad w.heap.size (.slice (some ⟨b0, off, none⟩) k ck) vO false M er wq Rq.out her hP)
        have HV := Lib.hid hV
        have hne : (er != 0) = true := by rw [bne_iff_ne]; exact her
        have HMz : Hid ((Tryz.prog.info? 65).map (·.size) = some zeroM.length) := HMi
        have H1 : Hid (∀ v ∈ zeroM, v.oneCell' = true) := Lib.hid (by simp [zeroM, Value.oneCell'])
        have tokA : Hid True := Lib.hid trivial
        clear hP hV her hbad hstep hpos hle PSq2 c1
        go_wp2_with (first
          | (go_at_call 68; (with_reducible refine NB.out.mono ?_); rintro e w2 ⟨rfl, hb2⟩; have B2 := Lib.hid (below_step Bq.out hb2); have R2 := Lib.hid (Rq.out.below hb2 Rq.out.lt); have OW2 := Lib.hid (own_below OWq.out hb2); have MS2 := Lib.hid (MSq.out.below hb2); clear hb2)
          | (have _t := tokA; refine wpList_store_row rfl 65 _ _ rfl w2.heap.size _ zeroM zeroM rfl rfl (RowAt.new w2 65 _) rfl HMz.out H1.out ?_; intro w3 hro hoo; have hb3 := hoo.below ((Below.refl w2.heap.size w2).alloc (Nat.le_refl _) _) (Nat.le_refl _); have B3 := Lib.hid (below_step B2.out hb3); have OW3 := Lib.hid (own_below OW2.out hb3); have MS3 := Lib.hid (MS2.out.below hb3); have e1 := (R2.out.below hb3 R2.out.lt).cell (j := 1) rfl; clear hro hoo hb3 tokA _t))
        go_ret2
        first
          | exact ⟨_, CS, by rw [HV.out]; rfl, by rw [HV.out]; exact OW3.out, by rw [HV.out]; exact MS3.out, B3.out⟩
          | exact ⟨_, by rw [HV.out]; rfl, CS, by rw [HV.out]; exact OW3.out, by rw [HV.out]; exact MS3.out, B3.out⟩
      · have h0 : te = 0 := by
          by_cases h : te = 0
          · exact h
          · exact absurd (.inl h) hbad
        have hov : tov = true := by
          cases tov
          · exact absurd (.inr rfl) hbad
          · rfl
        subst h0 hov
        have hrs : fin = true → ts.status < 200 → T = responsesF fin f' (l.drop tn) ((methodsL MS).drop O.length) O := fun h1 h2 => by rw [hstep, if_neg (by simp), if_neg (by simp), if_pos ⟨h1, h2⟩]
        have hra : ¬ (fin = true ∧ ts.status < 200) → T = responsesF fin f' (l.drop tn) ((methodsL MS).drop (O.length + 1)) (O ++ [msgOf ⟨ts, tf, tb, tfr, tn, true, 0⟩]) := fun h => by rw [hstep, if_neg (by simp), if_neg (by simp), if_neg h]
        have HRS := Lib.hid hrs
        have HRA := Lib.hid hra
        have htn0 : 0 < tn := hpos rfl
        have htnl : tn ≤ k := by have := hle rfl; rw [HLL.out] at this; exact this
        have NG := Lib.hid (next_good w.heap.size (some ⟨b0, off, none⟩) k ck tn vO false M (msgOf ⟨ts, tf, tb, tfr, tn, true, 0⟩) wq Rq.out htnl (fun W hW => (PSq2 W hW).mono (by
          rintro e w' ⟨h, hb⟩
          rcases h with ⟨h, -⟩ | ⟨-, h, -⟩ | ⟨-, -, A1, n1, c1, A2, n2, c2, rfl, h1, h2⟩
          · exact absurd rfl h
          · cases h
          · exact ⟨_, rfl, ⟨_, _, _, _, _, _, rfl, own_low h1 (Nat.zero_le _), own_low h2 (Nat.zero_le _)⟩, hb⟩)))
        have HT0 := Lib.hid htn0
        have HTL := Lib.hid htnl
        have tokA : Hid True := Lib.hid trivial
        have Rlt := Lib.hid Rq.out.lt
        clear hrs hra htn0 htnl hbad hstep hpos hle PSq2 c1
        go_upto_if 37 with (first
          | (go_at_call 68; (with_reducible refine NG.out.mono ?_); rintro e w2 ⟨C, rfl, hC, hrw, hsv⟩; obtain ⟨p0, p1, p2, p3, p4, p5, p6, rfl⟩ := list7w hC.right.1; have hp2 : p2 = .int .i64 ts.status := (by obtain ⟨A5, n5, c5, A6, n6, c6, h, -, -⟩ := hC; have h2 := congrArg (fun x => x[2]?) h; simpa [msgC, staC, msgOf] using h2); subst hp2; have H1 := Lib.hid hC.right.2; have B2 := Lib.hid (Bq.out.trans ((hsv.mono Bq.out.size).below (Nat.le_refl _))); have IN2 := Lib.hid (IN.out.below ((hsv.mono Bq.out.size).below (Nat.le_refl _))); have OW2 := Lib.hid (own_save_ty OWq.out hsv Rq.out (by decide)); have MS2 := Lib.hid (MSq.out.save hsv Rq.out); have MC2 := Lib.hid hC; have R2 := Lib.hid hrw; clear hC hrw hsv)
          | (have _t := tokA; refine wpList_store_row rfl 65 _ _ rfl w2.heap.size _ [p0, p1, .int .i64 ts.status, p3, p4, p5, p6] zeroM rfl rfl (RowAt.new w2 65 _) rfl HMi.out H1.out ?_; intro w3 hro hoo; have hb3 := hoo.below ((Below.refl w2.heap.size w2).alloc (Nat.le_refl _) _) (Nat.le_refl _); have B3 := Lib.hid (below_step B2.out hb3); have OW3 := Lib.hid (own_below OW2.out hb3); have MS3 := Lib.hid (MS2.out.below hb3); have MC3 := Lib.hid (MC2.out.below hb3); have IN3 := Lib.hid (IN2.out.below (hb3.mono B2.out.size)); have R3 := Lib.hid (R2.out.below hb3 R2.out.lt); have RM3 := Lib.hid hro; clear hro hoo hb3 tokA _t))
        have s2 := RM3.out.cell (j := 2) rfl
        have e0 := (R3.out.cell (j := 0) rfl)
        have c00 := (Rq.out.cell (j := 0) rfl)
        by_cases hgo : fin = true ∧ ts.status < 200
        · obtain ⟨hf, hst⟩ := hgo
          subst hf
          have HRN := Lib.hid (HRS.out (by first | rfl | trivial) hst)
          go_wp2_with fail
          go_roundw
          case rel =>
            exact ⟨_, _, _, l.drop tn, O, CS, vO, f', rfl, R3.out, sub_from IN3.out tn HTL.out, OW3.out, MS3.out, by have := HOK.out; have := HTL.out; omega, HON.out, by have := HKF.out; have := HT0.out; have := HTL.out; omega, HRN.out, B3.out⟩
          case measure => rw [e0, c00]; exact (show k - tn < k by have := HT0.out; have := HTL.out; omega)
        · obtain ⟨F0, hF0⟩ : ∃ F0 : Bool, F0 = fin := ⟨_, rfl⟩
          have HF0 := Lib.hid hF0
          have HRN : Hid (T = responsesF F0 f' (l.drop tn) ((methodsL MS).drop (O.length + 1)) (O ++ [msgOf ⟨ts, tf, tb, tfr, tn, true, 0⟩])) := Lib.hid (by rw [hF0]; exact HRA.out hgo)
          have hcs : (fin = false ∧ ts.status < 200) ∨ (fin = false ∧ (200 : Int) ≤ ts.status) ∨ (fin = true ∧ (200 : Int) ≤ ts.status) := by
            cases fin with
            | false => rcases Classical.em (ts.status < 200) with h | h; exact .inl ⟨rfl, h⟩; exact .inr (.inl ⟨rfl, Int.not_lt.1 h⟩)
            | true => exact .inr (.inr ⟨rfl, Int.not_lt.1 fun h => hgo ⟨rfl, h⟩⟩)
          clear hF0 hgo
          rcases hcs with ⟨rfl, hst⟩ | ⟨rfl, hst2⟩ | ⟨rfl, hst2⟩
          all_goals
            go_upto_region 8 with fail
            have d1 : (w3.drew).cell? ⟨w.heap.size, 1, none⟩ = some vO := R3.out.cell (j := 1) rfl
            have m0 : (w3.drew).cell? ⟨w2.heap.size, 0, none⟩ = some p0 := RM3.out.cell (j := 0) rfl
            have m1 : (w3.drew).cell? ⟨w2.heap.size, 1, none⟩ = some p1 := RM3.out.cell (j := 1) rfl
            have m2 : (w3.drew).cell? ⟨w2.heap.size, 2, none⟩ = some (.int .i64 ts.status) := RM3.out.cell (j := 2) rfl
            have m3 : (w3.drew).cell? ⟨w2.heap.size, 3, none⟩ = some p3 := RM3.out.cell (j := 3) rfl
            have m4 : (w3.drew).cell? ⟨w2.heap.size, 4, none⟩ = some p4 := RM3.out.cell (j := 4) rfl
            have m5 : (w3.drew).cell? ⟨w2.heap.size, 5, none⟩ = some p5 := RM3.out.cell (j := 5) rfl
            have m6 : (w3.drew).cell? ⟨w2.heap.size, 6, none⟩ = some p6 := RM3.out.cell (j := 6) rfl
            have d1b : ((w3.alloc (.cells #[p0, p1, .int .i64 ts.status, p3, p4, p5, p6] 65)).drew).cell? ⟨w.heap.size, 1, none⟩ = some vO := (R3.out.alloc (.cells #[p0, p1, .int .i64 ts.status, p3, p4, p5, p6] 65)).cell (j := 1) rfl
            have finA : ∀ (A4 : Option Addr) (c4 : Nat) (w4 : World), w4.ownsRow w.heap.size 65 7 (.slice A4 (O.length + 1) c4) (O.length + 1) (CS.flatten ++ [p0, p1, .int .i64 ts.status, p3, p4, p5, p6]) → (w3.drew.alloc (.cells #[p0, p1, .int .i64 ts.status, p3, p4, p5, p6] 65)).grownBy w4 vO.ownBlock →
                ∃ (A' : Option Addr) (k' ck' : Nat) (l' : List UInt8) (O' : List Msg) (CS' : List (List Value)) (vO' : Value) (f2 : Nat), Value.int IntKind.i64 ((O.length : Int) + 1) = .int .i64 (O'.length : Int) ∧ RowAt (w4.setCell ⟨w.heap.size, 1, none⟩ (.slice A4 (O.length + 1) c4)) w.heap.size 125 [.slice A' k' ck', vO'] ∧ SliceIn (w4.setCell ⟨w.heap.size, 1, none⟩ (.slice A4 (O.length + 1) c4)) w.heap.size 1 A' k' ck' (bytesV l') ∧ (w4.setCell ⟨w.heap.size, 1, none⟩ (.slice A4 (O.length + 1) c4)).ownsRow w.heap.size 65 7 vO' O'.length CS'.flatten ∧ MsgsO (w4.setCell ⟨w.heap.size, 1, none⟩ (.slice A4 (O.length + 1) c4)) O' CS' ∧ O'.length + k' ≤ n ∧ O'.length ≤ n1 ∧ k' < f2 ∧ T = responsesF F0 f2 l' ((methodsL MS).drop O'.length) O' ∧ Below w.heap.size w (w4.setCell ⟨w.heap.size, 1, none⟩ (.slice A4 (O.length + 1) c4)) := by
              intro A4 c4 w4 hown hgr
              have hbal : Below w3.heap.size w3 (w3.drew.alloc (.cells #[p0, p1, .int .i64 ts.status, p3, p4, p5, p6] 65)) := (below_drewN (Below.refl w3.heap.size w3) 1).alloc (Nat.le_refl _) _
              have OW' := own_below OW3.out hbal
              have R4 := row_pastT (R3.out.below hbal R3.out.lt) hgr OW' (by decide)
              have MS4 := (MS3.out.below hbal).grown OW' hgr
              have MC4 := (MC3.out.below hbal).grown OW' hgr
              have hsz : w.heap.size ≤ (w3.drew.alloc (.cells #[p0, p1, .int .i64 ts.status, p3, p4, p5, p6] 65)).heap.size := Nat.le_trans B3.out.size hbal.size
              have IN4 := (IN3.out.below (hbal.mono B3.out.size)).grown hgr hsz (fun q hq => (OW'.lt q hq).1)
              have B4 := (below_step B3.out hbal).grown hgr hsz (fun q hq => (OW'.lt q hq).1)
              have ho := Only.setCell w.heap.size 1 w4 (.slice A4 (O.length + 1) c4)
              have hmap : ∀ (m : Msg) (C : List Value), MsgO w4 m C → MsgO (w4.setCell ⟨w.heap.size, 1, none⟩ (.slice A4 (O.length + 1) c4)) m C := by
                intro m C h
                obtain ⟨A, n, c, A2, n2, c2, h1, h2, h3⟩ := h
                exact ⟨A, n, c, A2, n2, c2, h1, own_only_ty h2 ho R4 (by decide), own_only_ty h3 ho R4 (by decide)⟩
              refine ⟨_, _, _, l.drop tn, O ++ [msgOf ⟨ts, tf, tb, tfr, tn, true, 0⟩], CS ++ [[p0, p1, .int .i64 ts.status, p3, p4, p5, p6]], _, f', (by rw [List.length_append]; rfl), R4.set_ (by show 1 < 2; decide) _, (sub_from IN4 tn HTL.out).setCell (Nat.le_refl _) _, ?_, (MS4.snoc MC4).map hmap, ?_, ?_, ?_, (by rw [HRN.out, List.length_append]; rfl), B4.setCell (Nat.le_refl _) _⟩
              · have h := own_only_ty hown ho R4 (by decide)
                rw [List.length_append, List.flatten_append]
                simpa using h
              · rw [List.length_append]
                have := HOK.out
                have := HT0.out
                have := HTL.out
                simp only [List.length_cons, List.length_nil]
                omega
              · rw [List.length_append]
                have := HLT.out
                simp only [List.length_cons, List.length_nil]
                omega
              · have := HKF.out
                have := HT0.out
                have := HTL.out
                omega
            have FIN := Lib.hid finA
            have fin2 : ∀ (A4 : Option Addr) (c4 : Nat) (w4 : World), (w3.drew.alloc (.cells #[p0, p1, .int .i64 ts.status, p3, p4, p5, p6] 65)).grownBy w4 vO.ownBlock → (w4.setCell ⟨w.heap.size, 1, none⟩ (.slice A4 (O.length + 1) c4)).cell? ⟨w.heap.size, 0, none⟩ = some (.slice (sliceA (some ⟨b0, off, none⟩) ck tn) (k - tn) (ck - tn)) := by
              intro A4 c4 w4 hgr
              have hbal : Below w3.heap.size w3 (w3.drew.alloc (.cells #[p0, p1, .int .i64 ts.status, p3, p4, p5, p6] 65)) := (below_drewN (Below.refl w3.heap.size w3) 1).alloc (Nat.le_refl _) _
              have R4 := row_pastT (R3.out.below hbal R3.out.lt) hgr (own_below OW3.out hbal) (by decide)
              exact (R4.set_ (j := 1) (by show 1 < 2; decide) (.slice A4 (O.length + 1) c4)).cell (j := 0) rfl
            have FIN2 := Lib.hid fin2
            have C0 := Lib.hid (Rq.out.cell (j := 0) rfl)
            have HKT : Hid (k - tn < k) := Lib.hid (by have := HT0.out; have := HTL.out; omega)
            clear finA fin2
            refine wp_region_tree0 (fun _ => True) (.take 0 (.take 1 (.take 2 (.take 3 (.node (.fork 4 (.node (.fork 5 (.node (.fork 6 (.node (.fork 7 (.take 8 (.take 9 (.node (.fork 10 (.done) (.stop))))) (.stop))) (.stop))) (.stop))) (.fork 5 (.node (.fork 4 (.node (.fork 6 (.node (.fork 7 (.take 8 (.take 9 (.node (.fork 10 (.done) (.stop))))) (.stop))) (.stop))) (.fork 6 (.node (.fork 4 (.node (.fork 7 (.take 8 (.take 9 (.node (.fork 10 (.done) (.stop))))) (.stop))) (.stop))) (.stop)))) (.stop)))))))) (by kernel_rfl) (by kernel_rfl) (of_decide_eq_true (by kernel_rfl)) rfl (by kernel_rfl) (trivial) ?_
            intro hH
            iterate 4
              refine tree_take (v := ?_) rfl (by rfl) ?_ ?_
              rotate_left
              · intro w2 hSw
                clear hSw
                go_simp
                try with_reducible rfl
              try simp only [Act.put, List.setIfInBounds_toArray, List.set_cons_zero, List.set_cons_succ]
            refine tree_node ?_
            refine tree_move rfl (by rfl) (fun K hK => ?_) ?_
            · go_simp
              refine hK.out _ _ (trivial) ?_
              clear hH hK K
              intro hH
              try simp only [Act.put, List.setIfInBounds_toArray, List.set_cons_zero, List.set_cons_succ]
              refine tree_node ?_
              refine tree_move rfl (by rfl) (fun K hK => ?_) ?_
              · go_simp
                refine hK.out _ _ (trivial) ?_
                clear hH hK K
                intro hH
                try simp only [Act.put, List.setIfInBounds_toArray, List.set_cons_zero, List.set_cons_succ]
                refine tree_node ?_
                refine tree_move rfl (by rfl) (fun K hK => ?_) ?_
                · go_simp
                  refine hK.out _ _ (trivial) ?_
                  clear hH hK K
                  intro hH
                  try simp only [Act.put, List.setIfInBounds_toArray, List.set_cons_zero, List.set_cons_succ]
                  refine tree_node ?_
                  refine tree_move rfl (by rfl) (fun K hK => ?_) ?_
                  · refine wp_appS msg_ty _ _ rfl w.heap.size vO O.length CS.flatten rfl (own_below OW3.out ((below_drewN (Below.refl w3.heap.size w3) 1).alloc (Nat.le_refl _) (.cells #[p0, p1, .int .i64 ts.status, p3, p4, p5, p6] 65))) _ _ 1 1 [p0, p1, .int .i64 ts.status, p3, p4, p5, p6] rfl ((RowAt.new w3.drew 65 [p0, p1, .int .i64 ts.status, p3, p4, p5, p6]).slice (size := 7) (n := 1) (c := 1) rfl (Nat.le_refl _) (by simp [maxLen])) H1.out (by have := HOK.out; have := Hn.out; omega) (by have := HOK.out; have := Hn.out; simp only [maxLen]; omega) (by have := B3.out.size; simp; omega) ?_
                    intro v4 w4 hown4 hgr4
                    obtain ⟨A4, c4, rfl, -⟩ := own_slice hown4
                    refine hK.out _ _ (trivial) ?_
                    have R4 := Lib.hid (row_pastT (R3.out.below ((below_drewN (Below.refl w3.heap.size w3) 1).alloc (Nat.le_refl _) (.cells #[p0, p1, .int .i64 ts.status, p3, p4, p5, p6] 65)) R3.out.lt) hgr4 (own_below OW3.out ((below_drewN (Below.refl w3.heap.size w3) 1).alloc (Nat.le_refl _) (.cells #[p0, p1, .int .i64 ts.status, p3, p4, p5, p6] 65))) (by decide))
                    have OW4 := Lib.hid hown4
                    have GR4 := Lib.hid hgr4
                    have g1 := R4.out.cell (j := 1) rfl
                    have fg1 := R4.out.frozen (j := 1) (by show 1 < 2; decide)
                    clear hH hK K hown4 hgr4 d1 d1b m0 m1 m2 m3 m4 m5 m6
                    intro hH
                    try simp only [Act.put, List.setIfInBounds_toArray, List.set_cons_zero, List.set_cons_succ]
                    iterate 2
                      refine tree_take (v := ?_) rfl (by rfl) ?_ ?_
                      rotate_left
                      · intro w2 hSw
                        clear hSw
                        go_simp
                        try with_reducible rfl
                      try simp only [Act.put, List.setIfInBounds_toArray, List.set_cons_zero, List.set_cons_succ]
                    refine tree_node ?_
                    refine tree_move rfl (by rfl) (fun K hK => ?_) ?_
                    · go_simp
                      refine hK.out _ _ (trivial) ?_
                      clear hH hK K g1 fg1
                      intro hH
                      try simp only [Act.put]
                      refine tree_done ?_
                      go_wp2_with fail
                      go_roundw
                      all_goals first | exact FIN.out _ _ _ OW4.out GR4.out | (have h := FIN.out _ _ _ OW4.out GR4.out; rw [HF0.out] at h; exact h) | (rw [FIN2.out _ _ _ GR4.out, C0.out]; exact HKT.out)
                    exact tree_stop
                  exact tree_stop
                exact tree_stop
              exact tree_stop
            refine tree_move rfl (by rfl) (fun K hK => ?_) ?_
            · go_simp
              refine hK.out _ _ (trivial) ?_
              clear hH hK K
              intro hH
              try simp only [Act.put, List.setIfInBounds_toArray, List.set_cons_zero, List.set_cons_succ]
              refine tree_node ?_
              refine tree_move rfl (by rfl) (fun K hK => ?_) ?_
              · go_simp
                refine hK.out _ _ (trivial) ?_
                clear hH hK K
                intro hH
                try simp only [Act.put, List.setIfInBounds_toArray, List.set_cons_zero, List.set_cons_succ]
                refine tree_node ?_
                refine tree_move rfl (by rfl) (fun K hK => ?_) ?_
                · go_simp
                  refine hK.out _ _ (trivial) ?_
                  clear hH hK K
                  intro hH
                  try simp only [Act.put, List.setIfInBounds_toArray, List.set_cons_zero, List.set_cons_succ]
                  refine tree_node ?_
                  refine tree_move rfl (by rfl) (fun K hK => ?_) ?_
                  · refine wp_appS msg_ty _ _ rfl w.heap.size vO O.length CS.flatten rfl (own_below OW3.out ((below_drewN (Below.refl w3.heap.size w3) 1).alloc (Nat.le_refl _) (.cells #[p0, p1, .int .i64 ts.status, p3, p4, p5, p6] 65))) _ _ 1 1 [p0, p1, .int .i64 ts.status, p3, p4, p5, p6] rfl ((RowAt.new w3.drew 65 [p0, p1, .int .i64 ts.status, p3, p4, p5, p6]).slice (size := 7) (n := 1) (c := 1) rfl (Nat.le_refl _) (by simp [maxLen])) H1.out (by have := HOK.out; have := Hn.out; omega) (by have := HOK.out; have := Hn.out; simp only [maxLen]; omega) (by have := B3.out.size; simp; omega) ?_
                    intro v4 w4 hown4 hgr4
                    obtain ⟨A4, c4, rfl, -⟩ := own_slice hown4
                    refine hK.out _ _ (trivial) ?_
                    have R4 := Lib.hid (row_pastT (R3.out.below ((below_drewN (Below.refl w3.heap.size w3) 1).alloc (Nat.le_refl _) (.cells #[p0, p1, .int .i64 ts.status, p3, p4, p5, p6] 65)) R3.out.lt) hgr4 (own_below OW3.out ((below_drewN (Below.refl w3.heap.size w3) 1).alloc (Nat.le_refl _) (.cells #[p0, p1, .int .i64 ts.status, p3, p4, p5, p6] 65))) (by decide))
                    have OW4 := Lib.hid hown4
                    have GR4 := Lib.hid hgr4
                    have g1 := R4.out.cell (j := 1) rfl
                    have fg1 := R4.out.frozen (j := 1) (by show 1 < 2; decide)
                    clear hH hK K hown4 hgr4 d1 d1b m0 m1 m2 m3 m4 m5 m6
                    intro hH
                    try simp only [Act.put, List.setIfInBounds_toArray, List.set_cons_zero, List.set_cons_succ]
                    iterate 2
                      refine tree_take (v := ?_) rfl (by rfl) ?_ ?_
                      rotate_left
                      · intro w2 hSw
                        clear hSw
                        go_simp
                        try with_reducible rfl
                      try simp only [Act.put, List.setIfInBounds_toArray, List.set_cons_zero, List.set_cons_succ]
                    refine tree_node ?_
                    refine tree_move rfl (by rfl) (fun K hK => ?_) ?_
                    · go_simp
                      refine hK.out _ _ (trivial) ?_
                      clear hH hK K g1 fg1
                      intro hH
                      try simp only [Act.put]
                      refine tree_done ?_
                      go_wp2_with fail
                      go_roundw
                      all_goals first | exact FIN.out _ _ _ OW4.out GR4.out | (have h := FIN.out _ _ _ OW4.out GR4.out; rw [HF0.out] at h; exact h) | (rw [FIN2.out _ _ _ GR4.out, C0.out]; exact HKT.out)
                    exact tree_stop
                  exact tree_stop
                exact tree_stop
              refine tree_move rfl (by rfl) (fun K hK => ?_) ?_
              · go_simp
                refine hK.out _ _ (trivial) ?_
                clear hH hK K
                intro hH
                try simp only [Act.put, List.setIfInBounds_toArray, List.set_cons_zero, List.set_cons_succ]
                refine tree_node ?_
                refine tree_move rfl (by rfl) (fun K hK => ?_) ?_
                · go_simp
                  refine hK.out _ _ (trivial) ?_
                  clear hH hK K
                  intro hH
                  try simp only [Act.put, List.setIfInBounds_toArray, List.set_cons_zero, List.set_cons_succ]
                  refine tree_node ?_
                  refine tree_move rfl (by rfl) (fun K hK => ?_) ?_
                  · refine wp_appS msg_ty _ _ rfl w.heap.size vO O.length CS.flatten rfl (own_below OW3.out ((below_drewN (Below.refl w3.heap.size w3) 1).alloc (Nat.le_refl _) (.cells #[p0, p1, .int .i64 ts.status, p3, p4, p5, p6] 65))) _ _ 1 1 [p0, p1, .int .i64 ts.status, p3, p4, p5, p6] rfl ((RowAt.new w3.drew 65 [p0, p1, .int .i64 ts.status, p3, p4, p5, p6]).slice (size := 7) (n := 1) (c := 1) rfl (Nat.le_refl _) (by simp [maxLen])) H1.out (by have := HOK.out; have := Hn.out; omega) (by have := HOK.out; have := Hn.out; simp only [maxLen]; omega) (by have := B3.out.size; simp; omega) ?_
                    intro v4 w4 hown4 hgr4
                    obtain ⟨A4, c4, rfl, -⟩ := own_slice hown4
                    refine hK.out _ _ (trivial) ?_
                    have R4 := Lib.hid (row_pastT (R3.out.below ((below_drewN (Below.refl w3.heap.size w3) 1).alloc (Nat.le_refl _) (.cells #[p0, p1, .int .i64 ts.status, p3, p4, p5, p6] 65)) R3.out.lt) hgr4 (own_below OW3.out ((below_drewN (Below.refl w3.heap.size w3) 1).alloc (Nat.le_refl _) (.cells #[p0, p1, .int .i64 ts.status, p3, p4, p5, p6] 65))) (by decide))
                    have OW4 := Lib.hid hown4
                    have GR4 := Lib.hid hgr4
                    have g1 := R4.out.cell (j := 1) rfl
                    have fg1 := R4.out.frozen (j := 1) (by show 1 < 2; decide)
                    clear hH hK K hown4 hgr4 d1 d1b m0 m1 m2 m3 m4 m5 m6
                    intro hH
                    try simp only [Act.put, List.setIfInBounds_toArray, List.set_cons_zero, List.set_cons_succ]
                    iterate 2
                      refine tree_take (v := ?_) rfl (by rfl) ?_ ?_
                      rotate_left
                      · intro w2 hSw
                        clear hSw
                        go_simp
                        try with_reducible rfl
                      try simp only [Act.put, List.setIfInBounds_toArray, List.set_cons_zero, List.set_cons_succ]
                    refine tree_node ?_
                    refine tree_move rfl (by rfl) (fun K hK => ?_) ?_
                    · go_simp
                      refine hK.out _ _ (trivial) ?_
                      clear hH hK K g1 fg1
                      intro hH
                      try simp only [Act.put]
                      refine tree_done ?_
                      go_wp2_with fail
                      go_roundw
                      all_goals first | exact FIN.out _ _ _ OW4.out GR4.out | (have h := FIN.out _ _ _ OW4.out GR4.out; rw [HF0.out] at h; exact h) | (rw [FIN2.out _ _ _ GR4.out, C0.out]; exact HKT.out)
                    exact tree_stop
                  exact tree_stop
                exact tree_stop
              exact tree_stop
            exact tree_stop
end Go.Proofs.YtclgkkencpkjpaaGreatDoor

/- Layer 26: audit.Responses and audit.Finals: audit.responses without and with finals. Condition: as audit.responses. -/
namespace Go.Proofs.YtclgkkencpkjpaaGreatDoor
open Go.RowKit IH
set_option maxRecDepth 100000
set_option maxHeartbeats 4000000 in
theorem aresponses26_any (A : Option Addr) (n c : Nat) (L : List UInt8) (A1 : Option Addr) (n1 c1 : Nat) (MS : List ByteArray) (w : World) (hsh : w.ShapedOpen Tryz.prog) (hin : SliceIn w w.heap.size 1 A n c (bytesV L)) (hms1 : SliceIn w w.heap.size 1 A1 n1 c1 (textsV MS)) (hn : n ≤ 65535) (hM : ∀ M ∈ MS, M.size ≤ maxLen) :
    Calls Tryz.prog 24 #[.slice A n c, .slice A1 n1 c1] w fun e w' => ∃ v CS, e = .returned (.tuple #[v, .int .i64 (responsesL false L (methodsL MS)).2]) ∧ w'.ownsRow w.heap.size 65 7 v (responsesL false L (methodsL MS)).1.length CS.flatten ∧ MsgsO w' (responsesL false L (methodsL MS)).1 CS ∧ Below w.heap.size w w' := by
  have RS := Lib.hid (aresp26_any A n c L A1 n1 c1 MS false w hsh hin hms1 hn hM)
  clear hsh hin hms1 hn hM
  go_enter Tryz.func24, Tryz.ntmps24
  go_wp2_with (go_at_call 69; (with_reducible refine RS.out.mono ?_); rintro e w1 ⟨v, CS, rfl, h1, h2, h3⟩)
  go_ret2
  first
    | exact ⟨_, CS, rfl, h1, h2, h3⟩
    | exact ⟨_, rfl, CS, h1, h2, h3⟩
set_option maxHeartbeats 4000000 in
theorem afinals26_any (A : Option Addr) (n c : Nat) (L : List UInt8) (A1 : Option Addr) (n1 c1 : Nat) (MS : List ByteArray) (w : World) (hsh : w.ShapedOpen Tryz.prog) (hin : SliceIn w w.heap.size 1 A n c (bytesV L)) (hms1 : SliceIn w w.heap.size 1 A1 n1 c1 (textsV MS)) (hn : n ≤ 65535) (hM : ∀ M ∈ MS, M.size ≤ maxLen) :
    Calls Tryz.prog 26 #[.slice A n c, .slice A1 n1 c1] w fun e w' => ∃ v CS, e = .returned (.tuple #[v, .int .i64 (responsesL true L (methodsL MS)).2]) ∧ w'.ownsRow w.heap.size 65 7 v (responsesL true L (methodsL MS)).1.length CS.flatten ∧ MsgsO w' (responsesL true L (methodsL MS)).1 CS ∧ Below w.heap.size w w' := by
  have RS := Lib.hid (aresp26_any A n c L A1 n1 c1 MS true w hsh hin hms1 hn hM)
  clear hsh hin hms1 hn hM
  go_enter Tryz.func26, Tryz.ntmps26
  go_wp2_with (go_at_call 69; (with_reducible refine RS.out.mono ?_); rintro e w1 ⟨v, CS, rfl, h1, h2, h3⟩)
  go_ret2
  first
    | exact ⟨_, CS, rfl, h1, h2, h3⟩
    | exact ⟨_, rfl, CS, h1, h2, h3⟩
end Go.Proofs.YtclgkkencpkjpaaGreatDoor

/- Layer 26: slices that read as messages; what requests' methods are. No condition but as each states. -/
namespace Go.Proofs.YtclgkkencpkjpaaGreatDoor
open Go.RowKit IH
set_option maxRecDepth 100000
theorem requestsF_few : ∀ (f : Nat) (b : List UInt8) (out : List Msg), (∀ m ∈ out, m.fields.length ≤ 128) → ∀ m ∈ (requestsF f b out).1, m.fields.length ≤ 128
  | 0, _, _, h => h
  | f + 1, b, out, h => by
    unfold requestsF
    split
    · exact h
    · split
      · exact h
      · split
        · exact h
        · refine requestsF_few f _ _ fun m hm => ?_
          rcases List.mem_append.1 hm with hm | hm
          · exact h m hm
          · rw [List.mem_singleton.1 hm]
            exact told_few true [] b
theorem requests_few (b : List UInt8) : ∀ m ∈ (requestsL b).1, m.fields.length ≤ 128 := requestsF_few _ b [] fun m h => by cases h
theorem responsesF_few (fin : Bool) : ∀ (f : Nat) (b : List UInt8) (ms : List (List UInt8)) (out : List Msg), (∀ m ∈ out, m.fields.length ≤ 128) → ∀ m ∈ (responsesF fin f b ms out).1, m.fields.length ≤ 128
  | 0, _, _, _, h => h
  | f + 1, b, ms, out, h => by
    unfold responsesF
    split
    · exact h
    · split
      · exact h
      · split
        · exact h
        · split
          · exact h
          · split
            · exact responsesF_few fin f _ _ _ h
            · refine responsesF_few fin f _ _ _ fun m hm => ?_
              rcases List.mem_append.1 hm with hm | hm
              · exact h m hm
              · rw [List.mem_singleton.1 hm]
                exact told_few false _ b
theorem responses_few (fin : Bool) (b : List UInt8) (ms : List (List UInt8)) : ∀ m ∈ (responsesL fin b ms).1, m.fields.length ≤ 128 := responsesF_few fin _ b ms [] fun m h => by cases h
/-- A slice that reads as these messages. -/
def MsgsIn (L : List Msg) (v : Value) (W : World) : Prop := ∃ A n c CS, v = .slice A n c ∧ SliceIn W W.heap.size 7 A n c (List.flatten CS) ∧ MsgsO W L CS
theorem MsgsIn.below {L : List Msg} {v : Value} {W W' : World} (h : MsgsIn L v W) (hb : Below W.heap.size W W') : MsgsIn L v W' := by
  obtain ⟨A, n, c, CS, h1, h2, h3⟩ := h
  exact ⟨A, n, c, CS, h1, (h2.below hb).more hb.size, h3.below hb⟩
theorem MsgsIn.of_own {L : List Msg} {v : Value} {W : World} {base : Nat} {CS : List (List Value)} (h : W.ownsRow base 65 7 v L.length CS.flatten) (hm : MsgsO W L CS) : MsgsIn L v W := by
  obtain ⟨A, c, rfl, hs⟩ := own_slice h
  exact ⟨A, _, c, CS, rfl, hs, hm⟩
theorem MsgsIn.same {L : List Msg} (hf : ∀ m ∈ L, m.fields.length ≤ 1000000) (v u : Value) (W : World) (h : MsgsIn L v W) (h' : MsgsIn L u W) : Calls Tryz.prog 27 #[v, u] W fun e w' => e = .returned (.bool true) ∧ Below W.heap.size W w' := by
  obtain ⟨A, n, c, CS, rfl, h2, h3⟩ := h
  obtain ⟨B, n', c', DS, rfl, k2, k3⟩ := h'
  have e1 := h2.1
  have e2 := k2.1
  rw [msgs_flat_len h3] at e1
  rw [msgs_flat_len k3] at e2
  obtain rfl : n = n' := by omega
  exact rsame26_any L CS DS A B n c c' W h2 k2 h3 k3 hf
theorem requestsF_len : ∀ (f : Nat) (b : List UInt8) (out : List Msg), (requestsF f b out).1.length ≤ out.length + b.length
  | 0, _, out => by unfold requestsF; exact Nat.le_add_right _ _
  | f + 1, b, out => by
    unfold requestsF
    split
    · simp
    · split
      · simp
      · split
        · simp
        · rename_i h
          have hp := told_pos (asks := true) (m := []) (b := b) (by simpa using h)
          have := requestsF_len f (b.drop (toldM true [] b).n) (out ++ [msgOf (toldM true [] b)])
          rw [List.length_append, List.length_drop] at this
          rename_i hb _
          have : 0 < b.length := List.length_pos_iff.2 hb
          simp only [List.length_cons, List.length_nil] at *
          omega
theorem requests_len (b : List UInt8) : (requestsL b).1.length ≤ b.length := by
  have := requestsF_len (b.length + 1) b []
  rw [List.length_nil, Nat.zero_add] at this
  exact this
theorem reqC_meth (s : List UInt8) : (reqC s).1.method.length ≤ 32 := by
  unfold reqC
  split
  · split
    · split
      · simp [Sta.zero]
      · split
        · simp [Sta.zero]
        · rename_i h
          exact Nat.le_of_not_lt fun hh => h (.inl hh)
    · simp [Sta.zero]
  · simp [Sta.zero]
theorem line_meth (b : List UInt8) : (lineM true b).1.method.length ≤ 32 := by
  unfold lineM
  rw [if_pos rfl]
  unfold requestL
  split
  · simp [Sta.zero]
  · split
    · simp [Sta.zero]
    · exact reqC_meth _
theorem told_meth (b : List UInt8) : (toldM true [] b).start.method.length ≤ 32 := by
  have h := line_meth b
  unfold toldM
  split
  · simp [Told8.none, Sta.zero]
  · split
    · simp [Told8.none, Sta.zero]
    · unfold headT
      split
      · simp [Told8.none, Sta.zero]
      · split
        · simp [Told8.none, Sta.zero]
        · split
          · simp [Told8.none, Sta.zero]
          · unfold bodyT
            split
            · split
              · simp [Told8.none, Sta.zero]
              · exact h
            · exact h
theorem requestsF_meth : ∀ (f : Nat) (b : List UInt8) (out : List Msg), (∀ m ∈ out, m.start.method.length ≤ 32) → ∀ m ∈ (requestsF f b out).1, m.start.method.length ≤ 32
  | 0, _, _, h => h
  | f + 1, b, out, h => by
    unfold requestsF
    split
    · exact h
    · split
      · exact h
      · split
        · exact h
        · refine requestsF_meth f _ _ fun m hm => ?_
          rcases List.mem_append.1 hm with hm | hm
          · exact h m hm
          · rw [List.mem_singleton.1 hm]
            exact told_meth b
theorem requests_meth (b : List UInt8) : ∀ m ∈ (requestsL b).1, m.start.method.length ≤ 32 := requestsF_meth _ b [] fun m h => by cases h
def methodsM (L : List Msg) : List (List UInt8) := L.map (·.start.method) ++ [[71, 69, 84]]
theorem methodsM_len (L : List Msg) : (methodsM L).length = L.length + 1 := by simp [methodsM]
theorem MsgO.method {w : World} {m : Msg} {p0 p1 p2 p3 p4 p5 p6 : Value} (h : MsgO w m [p0, p1, p2, p3, p4, p5, p6]) : p0 = .string ⟨m.start.method.toArray⟩ := by
  obtain ⟨A, n, c, A2, n2, c2, h1, -, -⟩ := h
  have h2 := congrArg (fun x => x[0]?) h1
  simpa [msgC, staC] using h2
theorem take_meth (L : List Msg) (i : Nat) (m : Msg) (h : L[i]? = some m) : (L.take (i + 1)).map (·.start.method) = (L.take i).map (·.start.method) ++ [m.start.method] := by
  rw [List.take_add_one, h]
  simp
set_option maxHeartbeats 8000000 in
theorem rmeth26_any (L : List Msg) (CS : List (List Value)) (A : Option Addr) (n c : Nat) (w : World) (hin : SliceIn w w.heap.size 7 A n c CS.flatten) (hms : MsgsO w L CS) (hn : n ≤ 1000000) :
    Calls Tryz.prog 29 #[.slice A n c] w fun e w' => ∃ v, e = .returned v ∧ w'.ownsRow w.heap.size 9 1 v (n + 1) (strsV (methodsM L)) ∧ Below w.heap.size w w' := by
  have hL : L.length = n := by have h := hin.1; rw [msgs_flat_len hms] at h; omega
  have hn9 : (n : Int) ≤ 9223372036854775807 := by omega
  have Hn := Lib.hid hn
  have HL := Lib.hid hL
  have H1 := Lib.hid hin
  have M1 := Lib.hid hms
  clear hin hms hn hL
  go_enter Tryz.func29, Tryz.ntmps29
  go_wp2
  go_loopw [3, 4] (fun ov iv wr => ∃ i : Nat, iv = .int .i64 i ∧ i ≤ n ∧ wr.ownsRow w.heap.size 9 1 ov i (strsV ((L.take i).map (·.start.method))) ∧ Below w.heap.size w wr) (fun _ iv _ => n - (intOf iv).toNat)
  case atStart => exact ⟨0, rfl, Nat.zero_le _, by simpa [strsV] using World.ownsRow_nil _ _ _ _, Below.refl _ _⟩
  case round =>
    obtain ⟨wq, hwq⟩ : ∃ x : World, x = wr := ⟨_, rfl⟩
    subst hwq
    obtain ⟨i, rfl, hi, hown, hbq⟩ := hrel
    have OWq := Lib.hid hown
    have Bq := Lib.hid hbq
    clear hown hbq
    by_cases hlt : i < n
    · obtain ⟨b, o, m, p0, p1, p2, p3, p4, p5, p6, hA, hb, hm, hO, x0, -, -, -, -, -, -⟩ := msg_at H1.out M1.out HL.out hlt
      have hp0 := hO.method
      subst hp0
      have hib : (i : Int) < (n : Int) := by omega
      have x0' := (Bq.out.cell (p := ⟨b, o + i * 7, none⟩) hb).trans x0
      have HM := Lib.hid hm
      subst hA
      have hbal := below_al wq (.cells #[.string ⟨m.start.method.toArray⟩] 9)
      have OW1 := Lib.hid (own_below OWq.out hbal)
      have B1 := Lib.hid (below_step Bq.out hbal)
      have RV := Lib.hid ((RowAt.new wq 9 [.string ⟨m.start.method.toArray⟩]).slice (size := 1) (n := 1) (c := 1) rfl (Nat.le_refl _) (by simp [maxLen]))
      clear hm hO x0 hb hbal
      go_wp2_with (at_builtin; refine wpList_appS str_ty rfl _ _ rfl w.heap.size _ i _ rfl OW1.out _ _ 1 1 [.string ⟨m.start.method.toArray⟩] rfl RV.out (one1 _ rfl) (by have := Hn.out; omega) (by have := Hn.out; simp only [maxLen]; omega) B1.out.size ?_; intro v4 w4 hown4 hgr4; have B4 := Lib.hid (B1.out.grown hgr4 B1.out.size (fun q hq => (OW1.out.lt q hq).1)); have OW4 := Lib.hid hown4; clear hown4 hgr4)
      go_roundw
      case rel => exact ⟨i + 1, by go_num, by omega, by rw [take_meth L i m HM.out, strsV_append]; exact OW4.out, B4.out⟩
      case measure => simp [intOf]; omega
    · obtain rfl : i = n := by omega
      have ht : (L.take i).map (·.start.method) = L.map (·.start.method) := by rw [List.take_of_length_le (by rw [HL.out]; exact Nat.le_refl _)]
      rw [ht] at OWq
      have hbal := below_al wq (.cells #[.string ⟨#[71, 69, 84]⟩] 9)
      have OW1 := Lib.hid (own_below OWq.out hbal)
      have B1 := Lib.hid (below_step Bq.out hbal)
      have RV := Lib.hid ((RowAt.new wq 9 [.string ⟨#[71, 69, 84]⟩]).slice (size := 1) (n := 1) (c := 1) rfl (Nat.le_refl _) (by simp [maxLen]))
      clear hbal ht
      go_wp2_with (at_builtin; refine wpList_appS str_ty rfl _ _ rfl w.heap.size _ i _ rfl OW1.out _ _ 1 1 [.string ⟨#[71, 69, 84]⟩] rfl RV.out (one1 _ rfl) (by have := Hn.out; omega) (by have := Hn.out; simp only [maxLen]; omega) B1.out.size ?_; intro v4 w4 hown4 hgr4; have B4 := Lib.hid (B1.out.grown hgr4 B1.out.size (fun q hq => (OW1.out.lt q hq).1)); have OW4 := Lib.hid hown4; clear hown4 hgr4)
      go_ret
      exact ⟨_, rfl, by unfold methodsM; rw [strsV_append]; exact OW4.out, B4.out⟩
end Go.Proofs.YtclgkkencpkjpaaGreatDoor
