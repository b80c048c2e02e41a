/- Walk of layer 27: a script of deeds, printed. Condition: at most 10^6 deeds, as in the texts on lines. -/
import Derived.Test.YtmcioedmjcbfbaaScr33
import Derived.Test.YtmcioedmjcbfbaaBuild
namespace Go.Proofs.Ytmcioedmjcbfbaa
open Go.RowKit IH
set_option maxRecDepth 100000
def printAll (L : List Deed) : List UInt8 × Int := if L.all rightD = true then (if 10000 < L.length then ([], 13) else if 1048576 < (scriptOf L).length then ([], 12) else (scriptOf L, 0)) else ([], 2)
theorem scriptOf_snoc (L : List Deed) (k : Nat) (d : Deed) (h : L[k]? = some d) : scriptOf (L.take (k + 1)) = scriptOf (L.take k) ++ (printD d ++ [10]) := by
  unfold scriptOf
  rw [List.take_add_one, h, List.flatMap_append]
  simp
theorem scriptOf_le (L : List Deed) (k : Nat) : (scriptOf (L.take k)).length ≤ (scriptOf L).length := by
  conv => rhs; rw [← List.take_append_drop k L]
  unfold scriptOf
  rw [List.flatMap_append, List.length_append]
  omega
theorem right_kind {d : Deed} (h : rightD d = true) : 0 ≤ d.kind ∧ d.kind ≤ 10 := by
  unfold rightD at h
  rw [Bool.and_eq_true, decide_eq_true_eq] at h
  exact h.1
set_option maxHeartbeats 16000000 in
theorem sPrint_any (A : Option Addr) (n c : Nat) (L : List Deed) (V : List Value) (w : World) (hin : DeedsIn w A n c L V) (hs : n ≤ 1000000) :
    Calls Try.prog 34 #[.slice A n c] w fun e w' => e = .returned (.tuple #[.string ⟨(printAll L).1.toArray⟩, .int .i64 (printAll L).2]) ∧ Below w.heap.size w w' := by
  have RA := Lib.hid (sRight_any A n c L V w hin hs)
  have hL := hin.len
  obtain ⟨r, hr⟩ : ∃ r, L.all rightD = r := ⟨_, rfl⟩
  rw [hr] at RA
  cases r with
  | false =>
    have hp : printAll L = ([], 2) := by unfold printAll; rw [hr]; rfl
    rw [hp]
    clear hp hL hr hin
    go_enter Try.func34, Try.ntmps34
    go_wp2_with (go_at_call 33; refine RA.out.mono ?_; rintro e w' ⟨rfl, hb⟩)
    go_ret2
    exact ⟨rfl, hb⟩
  | true =>
    by_cases hmany : 10000 < n
    · have hp : printAll L = ([], 13) := by unfold printAll; rw [if_pos hr, if_pos (by omega)]
      rw [hp]
      have hI : (10000 : Int) < (n : Int) := by omega
      clear hp hL hr hin hmany
      go_enter Try.func34, Try.ntmps34
      go_wp2_with (go_at_call 33; refine RA.out.mono ?_; rintro e w' ⟨rfl, hb⟩)
      go_ret2
      exact ⟨rfl, hb⟩
    · have hp : printAll L = if 1048576 < (scriptOf L).length then ([], 12) else (scriptOf L, 0) := by unfold printAll; rw [if_pos hr, if_neg (by omega)]
      have Hp := Lib.hid hp
      have HL := Lib.hid hL
      have HI := Lib.hid hin
      have HR := Lib.hid hr
      have hI : (n : Int) ≤ (10000 : Int) := by omega
      clear hp hL hin hr hmany
      go_enter Try.func34, Try.ntmps34
      go_wp2_with (go_at_call 33; refine RA.out.mono ?_; rintro e w1 ⟨rfl, hb1⟩)
      have hsz1 := hb1.size
      go_loopw [19] (fun i wr => ∃ k : Nat, k ≤ n ∧ i = .int .i64 k ∧ (scriptOf (L.take k)).length ≤ 1048576 ∧ Bld wr w1.heap.size w1.heap.size (scriptOf (L.take k)) ∧ Below w.heap.size w wr ∧ w1.heap.size ≤ wr.heap.size) (fun i _ => n - (intOf i).toNat)
      case atStart => exact ⟨0, by omega, rfl, by simp [scriptOf], Bld.new w1, hb1.alloc hsz1 _, by simp⟩
      case round =>
        obtain ⟨w0, rfl⟩ : ∃ w0 : World, w0 = wr := ⟨_, rfl⟩
        obtain ⟨k, hk, rfl, hlen, hbld, hbel, hsz⟩ := hrel
        have Hbld := Lib.hid hbld
        have HB := Lib.hid hbel
        clear hbld
        by_cases hlt : k < n
        · obtain ⟨d, hdk⟩ : ∃ d, L[k]? = some d := ⟨_, List.getElem?_eq_getElem (by rw [HL.out]; exact hlt)⟩
          obtain ⟨b, off, AB, nB, cB, AC, nC, cC, AK, nK, cK, rfl, hbl, s1, s2, s3, a0, a1, a2, a3, a4, a5, a6, a7⟩ := (HI.out.below hbel).at_ hdk
          have hdn := HI.out.n d (List.mem_of_getElem? hdk)
          have hrk := right_kind (List.all_eq_true.1 HR.out d (List.mem_of_getElem? hdk))
          have Hsn := Lib.hid (scriptOf_snoc L k d hdk)
          have Hle := Lib.hid (scriptOf_le L (k + 1))
          have hpz := printD_size hdn
          obtain ⟨P, hP⟩ : ∃ X : ByteArray, (⟨(printD d ++ [10]).toArray⟩ : ByteArray) = X := ⟨_, rfl⟩
          obtain ⟨X, hX⟩ : ∃ X : ByteArray, (⟨(nameK d.kind).toArray⟩ : ByteArray) = X := ⟨_, rfl⟩
          obtain ⟨Y, hY⟩ : ∃ X : ByteArray, (⟨(asksK d.kind).toArray⟩ : ByteArray) = X := ⟨_, rfl⟩
          have hPd : P.data.toList = printD d ++ [10] := by rw [← hP]
          have hPs : P.size ≤ 99999991 := by rw [← hP, size_mk, List.length_append]; simp; omega
          have HPd := Lib.hid hPd
          obtain ⟨m0, hm0⟩ : ∃ m, (scriptOf (L.take k)).length = m := ⟨_, rfl⟩
          obtain ⟨m1, hm1⟩ : ∃ m, (scriptOf (L.take (k + 1))).length = m := ⟨_, rfl⟩
          have hm2 : m1 = m0 + P.size := by rw [← hm1, ← hm0, Hsn.out, List.length_append, ← HPd.out, data_len]
          rw [hm1] at Hle
          rw [hm0] at hlen
          have hlen2 : (scriptOf (L.take k)).length + P.size ≤ 140737488355328 := by omega
          have Hlen2 := Lib.hid hlen2
          have Hm0 := Lib.hid hm0
          have Hm1 := Lib.hid hm1
          have OF := fun w => of_any d.kind w
          rw [ofR_in hrk.1 hrk.2, show frmCells (nameK d.kind, d.kind, asksK d.kind) = [.string ⟨(nameK d.kind).toArray⟩, .int .i64 d.kind, .string ⟨(asksK d.kind).toArray⟩] from rfl, hX, hY] at OF
          have SP := fun (W : World) (hW : Below w0.heap.size w0 W) => sprint_any d hrk.1 hrk.2 AB AC AK nB cB nC cC nK cK W ((s1.below hW).more hW.size) ((s2.below hW).more hW.size) ((s3.below hW).more hW.size) hdn
          rw [c8, hX, hY, hP] at SP
          replace OF := Lib.hid OF
          replace SP := Lib.hid SP
          have ltI : (k : Int) < (n : Int) := by omega
          clear s1 s2 s3 hdk hrk hpz hP hX hY hPd hlen2 hm0 hm1 hbel hdn
          generalize d.kind = xk at *
          generalize d.conn = xc at *
          generalize d.n = xn at *
          generalize d.torn = xt at *
          generalize d.part = xp at *
          go_upto_region 9 with fail
          obtain ⟨wd, hwd⟩ : ∃ W, w0.alloc (.cells #[.int .i64 xk, .int .i64 xc, .int .i64 xn, .slice AB nB cB, .slice AC nC cC, .slice AK nK cK, .int .i64 xt, .int .i64 xp] 53) = W := ⟨_, rfl⟩
          have RD : RowAt wd w0.heap.size 53 [.int .i64 xk, .int .i64 xc, .int .i64 xn, .slice AB nB cB, .slice AC nC cC, .slice AK nK cK, .int .i64 xt, .int .i64 xp] := by rw [← hwd]; exact RowAt.new w0 _ [.int .i64 xk, .int .i64 xc, .int .i64 xn, .slice AB nB cB, .slice AC nC cC, .slice AK nK cK, .int .i64 xt, .int .i64 xp]
          have BD : Hid (Below w0.heap.size w0 wd) := Lib.hid (by rw [← hwd]; exact (Below.refl _ _).alloc (Nat.le_refl _) _)
          have HbD : Hid (Bld wd w1.heap.size w1.heap.size (scriptOf (L.take k))) := Lib.hid (by rw [← hwd]; exact Hbld.out.alloc _)
          have hzd : wd.heap.size = w0.heap.size + 1 := by rw [← hwd]; simp
          rw [hwd]
          have HRD := Lib.hid RD
          have r0 := RD.cell (j := 0) rfl
          clear a0 a1 a2 a3 a4 a5 a6 a7 RD hwd
          generalize hgd : w0.heap.size = gd at *
          go_upto_region 10 with (go_at_call 51; refine (OF.out _).mono ?_; rintro e w2 ⟨rfl, hb2⟩)
          obtain ⟨w3, hw3⟩ : ∃ w3, w2.alloc (.cells #[.string X, .int .i64 xk, .string Y] 94) = w3 := ⟨_, rfl⟩
          have RF : RowAt w3 w2.heap.size 94 [.string X, .int .i64 xk, .string Y] := by rw [← hw3]; exact RowAt.new w2 _ [.string X, .int .i64 xk, .string Y]
          have BE : Below wd.heap.size wd w3 := by rw [← hw3]; exact hb2.alloc hb2.size _
          have BF : Hid (Below gd w0 w3) := Lib.hid (BD.out.trans (BE.mono (by omega)))
          have HbF : Hid (Bld w3 w1.heap.size w1.heap.size (scriptOf (L.take k))) := Lib.hid (HbD.out.below BE)
          have R3 := HRD.out.below BE (by omega)
          have q0 := R3.cell (j := 0) rfl
          have q1 := R3.cell (j := 1) rfl
          have q2 := R3.cell (j := 2) rfl
          have q3 := R3.cell (j := 3) rfl
          have q4 := R3.cell (j := 4) rfl
          have q5 := R3.cell (j := 5) rfl
          have q6 := R3.cell (j := 6) rfl
          have q7 := R3.cell (j := 7) rfl
          have f0 := RF.cell (j := 0) rfl
          have f1 := RF.cell (j := 1) rfl
          have f2 := RF.cell (j := 2) rfl
          have hz3 : gd ≤ w3.heap.size := by have := BF.out.size; omega
          rw [hw3]
          generalize w2.heap.size = gf at *
          clear r0 RF R3 hw3 hb2 BE HRD BD HbD
          go_wp2_with (first
            | (go_at_call 52; refine (SP.out _ BF.out).mono ?_; rintro e w4 ⟨rfl, hb4⟩; have B4 := Lib.hid (BF.out.trans (hb4.mono hz3)); have Hb4 := Lib.hid (HbF.out.below hb4); have hz4 := hb4.size; clear hb4)
            | (go_at_call 42; refine (WriteString_any w1.heap.size w1.heap.size _ _ _ Hb4.out Hlen2.out (by omega)).mono ?_; rintro e w5 ⟨rfl, hbl5, hb5⟩; have LN := Len_any w1.heap.size w1.heap.size _ _ hbl5; rw [List.length_append, data_len, Hm0.out, show (((m0 + P.size : Nat)) : Int) = (m0 : Int) + (P.size : Int) by omega] at LN; replace LN := Lib.hid LN; have Hb5 := Lib.hid hbl5; have B5 := Lib.hid ((HB.out.trans (B4.out.mono (by have := HB.out.size; omega))).trans (hb5.mono hsz1)); have hz5 := hb5.size; clear hbl5 hb5)
            | (go_at_call 53; refine LN.out.mono ?_; rintro e w' ⟨rfl, rfl⟩))
          all_goals first
            | (have hbig : 1048576 < (m0 : Int) + (P.size : Int) := by assumption
               go_ret2
               have hres : printAll L = ([], 12) := by
                 rw [Hp.out, if_pos]
                 have h1 := Hle.out
                 omega
               exact ⟨by rw [hres]; rfl, B5.out⟩)
            | (have hfit : (m0 : Int) + (P.size : Int) ≤ 1048576 := by assumption
               go_roundw
               case rel => exact ⟨k + 1, by omega, by go_num, by rw [Hm1.out]; omega, by rw [Hsn.out, ← HPd.out]; exact Hb5.out, B5.out, by omega⟩
               case measure => simp [intOf]; omega)
        · obtain rfl : n = k := by omega
          have e : L.take n = L := List.take_of_length_le (by have := HL.out; omega)
          rw [e] at Hbld hlen
          clear e
          have hres : printAll L = (scriptOf L, 0) := by rw [Hp.out, if_neg (by omega)]
          have Hres := Lib.hid hres; clear hres hbel
          go_wp2_with (go_at_call 44; refine (String_any w1.heap.size w1.heap.size _ _ Hbld.out hsz).mono ?_; rintro e w3 ⟨rfl, hb5⟩; have hb6 := HB.out.trans (hb5.mono hsz1))
          go_ret2
          exact ⟨by rw [Hres.out]; rfl, hb6⟩
end Go.Proofs.Ytmcioedmjcbfbaa
