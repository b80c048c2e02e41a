/- Lz: several texts, one behind the other. -/
import Derived.Test.YtniiadhhefgmcaaGreatDoorCz
import Derived.Test.YtniiadhhefgmcaaGreatDoorSta1
import Derived.Test.YtniiadhhefgmcaaGreatDoorSx
import Derived.Test.YtniiadhhefgmcaaGreatDoorShape
import Derived.Test.YtniiadhhefgmcaaGreatDoorRs
import Derived.Test.YtniiadhhefgmcaaGreatDoorMs
import Derived.Test.YtniiadhhefgmcaaGreatDoorOg
import Derived.Test.YtniiadhhefgmcaaGreatDoorOv
import Derived.Test.YtniiadhhefgmcaaGreatDoorKt
import Derived.Test.YtniiadhhefgmcaaGreatDoorFq
/- Walks of layer 6: a first line's octets, by the code and by the document. Condition: at most 10^9 octets. -/
namespace Go.Proofs.YtniiadhhefgmcaaGreatDoor
open Go.RowKit IH
set_option maxRecDepth 100000
set_option maxHeartbeats 4000000 in
theorem sline_any (b0 off n c B : Nat) (l : List UInt8) (most : Nat) (w : World) (hin : SliceIn w B 1 (some ⟨b0, off, none⟩) n c (bytesV l)) (hn : n ≤ 1000000000) (hmo : most ≤ 100000) :
    Calls Tryz.prog 147 #[.slice (some ⟨b0, off, none⟩) n c, .int .i64 most] w fun e w' => e = .returned (.tuple #[.string ⟨(lineS most l).1.toArray⟩, .int .i64 (lineS most l).2.1, .int .i64 (lineS most l).2.2]) ∧ Below w.heap.size w w' := by
  have hnc := hin.2.1
  have hll : l.length = n := by have := hin.1; rw [bytesV_length, Nat.mul_one] at this; exact this
  obtain ⟨m, hm⟩ : ∃ m, min n (most + 1) = m := ⟨_, rfl⟩
  have hmn : m ≤ n := by omega
  have hmI : min (n : Int) ((most : Int) + 1) = (m : Int) := by omega
  have hwm : IntKind.i64.wrap ((most : Int) + 1) = (most : Int) + 1 := IntWalk.i64_in _ ⟨by omega, by omega⟩
  have hsub := hin.sub (a := 0) (b := m) (by omega) hmn (some ⟨b0, off, none⟩) (fun _ => by simp [add_plain])
  simp only [Nat.sub_zero, Nat.mul_one, List.drop_zero] at hsub
  rw [show (bytesV l).take m = bytesV (l.take m) by simp [bytesV, List.map_take]] at hsub
  have htk : l.take m = l.take (most + 1) := by
    by_cases h : n ≤ most + 1
    · rw [List.take_of_length_le (by omega), List.take_of_length_le (by omega)]
    · rw [show m = most + 1 by omega]
  rw [htk] at hsub
  have IX := bIndexByte_at b0 off m c (l.take (most + 1)) w hsub
  rw [ixByte_find] at IX
  have j0 : m ≤ c := by omega
  have jI : (m : Int) ≤ (c : Int) := by omega
  clear hsub htk
  unfold lineS
  cases hf : (l.take (most + 1)).findIdx? (· == 10) with
  | none =>
    rw [hf] at IX
    simp only at IX ⊢
    replace IX := Lib.hid IX
    clear hf hin
    by_cases h1 : l.length ≤ most
    · rw [if_pos h1]
      have k1 : (n : Int) ≤ (most : Int) := by omega
      clear h1 hll hm
      go_enter Tryz.func147, Tryz.ntmps147
      go_wp2_with (go_at_call 168; refine IX.out.mono ?_; rintro e w2 ⟨rfl, rfl⟩)
      go_ret3
      exact ⟨rfl, by first | exact Below.refl _ _ | exact below_drewN (Below.refl _ _) 1⟩
    · rw [if_neg h1]
      have k1 : ¬ (n : Int) ≤ (most : Int) := by omega
      clear h1 hll hm
      go_enter Tryz.func147, Tryz.ntmps147
      go_wp2_with (go_at_call 168; refine IX.out.mono ?_; rintro e w2 ⟨rfl, rfl⟩)
      go_ret3
      exact ⟨rfl, by first | exact Below.refl _ _ | exact below_drewN (Below.refl _ _) 1⟩
  | some k =>
    rw [hf] at IX
    simp only at IX ⊢
    have hk := findIdx_lt hf
    rw [List.length_take] at hk
    replace IX := Lib.hid IX
    clear hf
    by_cases h0 : k = 0
    · subst h0
      rw [if_pos (.inl rfl)]
      clear hin hm
      go_enter Tryz.func147, Tryz.ntmps147
      go_wp2_with (go_at_call 168; refine IX.out.mono ?_; rintro e w2 ⟨rfl, rfl⟩)
      go_ret3
      exact ⟨rfl, by first | exact Below.refl _ _ | exact below_drewN (Below.refl _ _) 1⟩
    · obtain ⟨x, hx⟩ : ∃ x, l[k - 1]? = some x := ⟨_, List.getElem?_eq_getElem (by omega)⟩
      rw [hx]
      obtain ⟨j, rfl⟩ : ∃ j, k = j + 1 := ⟨k - 1, by omega⟩
      have e1 : j + 1 - 1 = j := by omega
      rw [e1] at hx
      have hcell : w.cell? ⟨b0, off + j, none⟩ = some (.int .u8 x.toNat) := by
        obtain ⟨b', o', e, _, hc⟩ := hin.2.2.2 (by omega)
        simp only [Option.some.injEq, Addr.mk.injEq, and_true] at e
        obtain ⟨rfl, rfl⟩ := e
        exact hc j (.int .u8 x.toNat) (by rw [bytesV_get, hx]; rfl)
      have i1 : ((j + 1 : Nat) : Int) - 1 = (j : Int) := by omega
      have i2 : (j : Int) < (n : Int) := by omega
      have i0 : (((j + 1 : Nat) : Int) == 0) = false := by rw [beq_eq_false_iff_ne]; omega
      have i3 : (j : Int) ≤ (n : Int) := by omega
      have j3 : j ≤ c := by omega
      have j4 : j < n := by omega
      by_cases h13 : x = 13
      · subst h13
        rw [if_neg (by rintro (h | h); omega; exact h rfl), e1]
        have hs2 := hin.sub (a := 0) (b := j) (by omega) (by omega) (some ⟨b0, off, none⟩) (fun _ => by simp [add_plain])
        simp only [Nat.sub_zero, Nat.mul_one, List.drop_zero] at hs2
        rw [show (bytesV l).take j = bytesV (l.take j) by simp [bytesV, List.map_take]] at hs2
        have hcs := run_string_of (P := Tryz.prog) hs2 25 9 5 Tryz.underlying25 Tryz.underlying5 Tryz.underlying9
        have e13 : (((13 : UInt8).toNat : Int) == 13) = true := rfl
        generalize (⟨(l.take j).toArray⟩ : ByteArray) = X at *
        clear hs2 hin hx hm
        go_enter Tryz.func147, Tryz.ntmps147
        go_wp2_with (go_at_call 168; refine IX.out.mono ?_; rintro e w2 ⟨rfl, rfl⟩)
        go_ret3
        exact ⟨rfl, by first | exact Below.refl _ _ | exact below_drewN (Below.refl _ _) 1⟩
      · rw [if_pos (.inr fun h => h13 (Option.some.inj h))]
        have e13 : ((x.toNat : Int) == 13) = false := by rw [beq_eq_false_iff_ne]; intro h; exact h13 (UInt8.toNat_inj.1 (by have : (13 : UInt8).toNat = 13 := rfl; omega))
        have n13 : ((x.toNat : Int) != 13) = true := by rw [bne, e13]; rfl
        clear hin hx hm
        go_enter Tryz.func147, Tryz.ntmps147
        go_wp2_with (go_at_call 168; refine IX.out.mono ?_; rintro e w2 ⟨rfl, rfl⟩)
        go_ret3
        exact ⟨rfl, by first | exact Below.refl _ _ | exact below_drewN (Below.refl _ _) 1⟩
end Go.Proofs.YtniiadhhefgmcaaGreatDoor

/- Walks of layer 6: a version's last figure, the first blank; results in a cell and two slots. Condition: texts within 10^9 octets. -/
namespace Go.Proofs.YtniiadhhefgmcaaGreatDoor
open Go.RowKit IH
set_option maxRecDepth 100000
theorem results_cell_tmps {P : Program} {fn : Func} {t u v : Tmp} {ty : TypeId} (h : fn.results = #[.cell t ty, .tmp u, .tmp v]) (tmps : Array Value) (w : World) (a : Addr) (ht : tmps.getD t undef = .pointer (some a)) (x y z : Value) (hu : tmps.getD u undef = y) (hv : tmps.getD v undef = z)
    (hl : (loadVar ty a).run P w = .ok x w) : (results fn tmps).run P w = .ok (.tuple #[x, y, z]) w := by
  simp only [Array.getD_eq_getD_getElem?] at ht hu hv
  simp [results, h, ht, hu, hv, asAddr, hl]
theorem lit_eq (s : ByteArray) (l : List UInt8) : (s.toList == l) = decide (s.data.toList = l) := by rw [ByteArray.toList_eq, Bool.eq_iff_iff, beq_iff_eq, decide_eq_true_eq]
def zeroS : List Value := [.string ⟨#[]⟩, .string ⟨#[]⟩, .int .i64 0, .string ⟨#[]⟩, .int .i64 0]
theorem staC_one (s : Sta) : ∀ v ∈ staC s, v.oneCell' = true := by
  intro v hv
  simp only [staC, List.mem_cons, List.not_mem_nil, or_false] at hv
  rcases hv with rfl | rfl | rfl | rfl | rfl <;> rfl
theorem sminor_any (s : ByteArray) (w : World) :
    Calls Tryz.prog 149 #[.string s] w fun e w' => e = .returned (.tuple #[.int .i64 ((minorP s.data.toList).getD 0), .bool (minorP s.data.toList).isSome]) ∧ w = w' := by
  by_cases h0 : s.data.toList = http1 ++ [48]
  · have e0 : (s.toList == [72, 84, 84, 80, 47, 49, 46, 48]) = true := by rw [lit_eq]; exact decide_eq_true h0
    have hm : minorP s.data.toList = some 0 := by unfold minorP; rw [if_pos h0]
    rw [hm]
    clear h0 hm
    go_enter Tryz.func149, Tryz.ntmps149
    go_wp2
    go_ret2
    exact ⟨rfl, rfl⟩
  · have e0 : (s.toList == [72, 84, 84, 80, 47, 49, 46, 48]) = false := by rw [lit_eq]; exact decide_eq_false h0
    by_cases h1 : s.data.toList = http1 ++ [49]
    · have e1 : (s.toList == [72, 84, 84, 80, 47, 49, 46, 49]) = true := by rw [lit_eq]; exact decide_eq_true h1
      have hm : minorP s.data.toList = some 1 := by unfold minorP; rw [if_neg h0, if_pos h1]
      rw [hm]
      clear h0 h1 hm
      go_enter Tryz.func149, Tryz.ntmps149
      go_wp2
      go_ret2
      exact ⟨rfl, rfl⟩
    · have e1 : (s.toList == [72, 84, 84, 80, 47, 49, 46, 49]) = false := by rw [lit_eq]; exact decide_eq_false h1
      have hm : minorP s.data.toList = none := by unfold minorP; rw [if_neg h0, if_neg h1]
      rw [hm]
      clear h0 h1 hm
      go_enter Tryz.func149, Tryz.ntmps149
      go_wp2
      go_ret2
      exact ⟨rfl, rfl⟩
end Go.Proofs.YtniiadhhefgmcaaGreatDoor

/- Walks of layer 6: a request's first line, by the code. Condition: at most 10^9 octets, the world's shape. -/
namespace Go.Proofs.YtniiadhhefgmcaaGreatDoor
open Go.RowKit IH
set_option maxRecDepth 100000
theorem lineS_len {most : Nat} {b : List UInt8} : (lineS most b).1.length ≤ b.length := by
  unfold lineS
  split
  · split <;> simp
  · split
    · simp
    · simp only [List.length_take]; omega
theorem pieces_len (c : UInt8) (l : List UInt8) : ∀ p ∈ pieces c l, p.length ≤ l.length := by
  induction l with
  | nil => simp [pieces]
  | cons x r ih =>
    unfold pieces
    split
    · intro p hp
      rcases List.mem_cons.1 hp with rfl | hp
      · simp
      · have := ih p hp; simp; omega
    · split
      · rename_i h0; exact absurd h0 (pieces_ne c r)
      · rename_i q qs h0
        rw [h0] at ih
        intro p hp
        rcases List.mem_cons.1 hp with rfl | hp
        · have := ih q (by simp); simp; omega
        · have := ih p (by simp [hp]); simp; omega
set_option maxHeartbeats 16000000 in
theorem sreq_any (b0 off n c : Nat) (l : List UInt8) (w : World) (hsh : w.ShapedOpen Tryz.prog) (hin : SliceIn w w.heap.size 1 (some ⟨b0, off, none⟩) n c (bytesV l)) (hn : n ≤ 1000000000) :
    Calls Tryz.prog 137 #[.slice (some ⟨b0, off, none⟩) n c] w fun e w' => e = .returned (.tuple #[.agg (staC (requestL l).1).toArray, .int .i64 (requestL l).2.1, .int .i64 (requestL l).2.2]) ∧ Below w.heap.size w w' := by
  obtain ⟨w1, hw1⟩ : ∃ W : World, w.alloc (.cells #[.string ⟨#[]⟩, .string ⟨#[]⟩, .int .i64 0, .string ⟨#[]⟩, .int .i64 0] 23) = W := ⟨_, rfl⟩
  have B1 : Hid (Below w.heap.size w w1) := Lib.hid (by rw [← hw1]; exact (Below.refl _ _).alloc (Nat.le_refl _) _)
  have Z1 : Hid (RowAt w1 w.heap.size 23 zeroS) := Lib.hid (by rw [← hw1]; exact RowAt.new w 23 zeroS)
  have HZi : Hid ((Tryz.prog.info? 23).map (·.size) = some 5) := Lib.hid (by kernel_rfl)
  have SL := sline_any b0 off n c w.heap.size l 8200 w1 (hin.below B1.out) hn (by omega)
  rw [show ((8200 : Nat) : Int) = 8200 from rfl] at SL
  obtain ⟨X, m, er, hL⟩ : ∃ X m e, lineS 8200 l = (X, m, e) := ⟨_, _, _, rfl⟩
  have hXl : X.length ≤ 1000000000 := by
    have h := lineS_len (most := 8200) (b := l)
    have hll : l.length = n := by have := hin.1; rw [bytesV_length] at this; omega
    rw [hL] at h
    exact Nat.le_trans h (by omega)
  rw [hL] at SL
  simp only at SL
  obtain ⟨R, hR⟩ : ∃ R, requestL l = R := ⟨_, rfl⟩
  rw [hR]
  have HR := Lib.hid hR
  have HL := Lib.hid hL
  obtain ⟨S, hS⟩ : ∃ S : ByteArray, (⟨X.toArray⟩ : ByteArray) = S := ⟨_, rfl⟩
  have hSd : S.data.toList = X := by rw [← hS]
  have hSz : S.size = X.length := by rw [← hS]; exact size_mk _
  rw [hS] at SL
  replace SL := Lib.hid SL
  clear hR hL hS hin
  have Hsh := Lib.hid hsh
  clear hsh
  by_cases he : er ≠ 0
  · have neb : (er != 0) = true := by rw [bne_iff_ne]; exact he
    have HT : Hid (R = (Sta.zero, 0, er)) := Lib.hid (by rw [← HR.out]; unfold requestL; rw [HL.out]; simp only; rw [if_pos he])
    go_enter Tryz.func137, Tryz.ntmps137
    go_wp2_with (first
      | (go_at_call 147; (with_reducible refine SL.out.mono ?_); rintro x2 w2 ⟨rfl, hb2⟩; have B2 := Lib.hid (below_step B1.out hb2); have Z2 := Lib.hid (Z1.out.below hb2 Z1.out.lt); clear hb2)
      | (refine wpList_store_row rfl 23 _ _ rfl w.heap.size _ zeroS zeroS rfl rfl Z2.out rfl HZi.out (by simp [zeroS, Value.oneCell']) ?_; intro wz hrz hoz; have RZ := Lib.hid hrz; have OZ := Lib.hid hoz; clear hrz hoz))
    exact bodyPost_ret (v := .tuple #[.agg (zeroS : List Value).toArray, .int .i64 0, .int .i64 er]) (results_cell_tmps Tryz.results137 _ wz ⟨w.heap.size, 0, none⟩ rfl (.agg (zeroS : List Value).toArray) (.int .i64 0) (.int .i64 er) rfl rfl (run_loadVar_mid wz w.heap.size 0 23 zeroS _ (rangeOf RZ.out) Tryz.underlying23 rfl HZi.out)) rfl ⟨by rw [HT.out]; rfl, OZ.out.below B2.out (Nat.le_refl _)⟩
  · obtain rfl : er = 0 := by omega
    have HQ : Hid (R = if (reqC X).2 ≠ 0 then (Sta.zero, 0, (reqC X).2) else ((reqC X).1, (m : Int), 0)) := Lib.hid (by rw [← HR.out]; unfold requestL; rw [HL.out]; simp)
    have SP := fun W (hW : Below w.heap.size w W) => Split1_any S 32 W (shaped_below Hsh.out hW) (by omega)
    rw [hSd] at SP
    clear he
    obtain ⟨P, hP⟩ : ∃ P, pieces 32 X = P := ⟨_, rfl⟩
    rw [hP] at SP
    by_cases h3 : P.length = 3
    · match P, h3 with
      | [a, b, c3], _ =>
        have hab : a.length ≤ 1000000000 ∧ b.length ≤ 1000000000 ∧ c3.length ≤ 1000000000 := by
          have h := pieces_len 32 X
          rw [hP] at h
          have h1 := h a (by simp)
          have h2 := h b (by simp)
          have h3 := h c3 (by simp)
          omega
        obtain ⟨ha, hb, hc⟩ := hab
        have TK := fun w => Token_any ⟨a.toArray⟩ (by rw [size_mk]; exact ha) w
        have VI := fun w => visible_big ⟨b.toArray⟩ (by rw [size_mk]; omega) w
        have MI := fun w => sminor_any ⟨c3.toArray⟩ w
        have hC : reqC X = if token a = true ∧ vis6 b = true then (match minorP c3 with
          | none => (Sta.zero, (10 : Int))
          | some m => if 32 < a.length ∨ 8000 < b.length then (Sta.zero, 12) else (⟨a, b, 0, [], m⟩, 0)) else (Sta.zero, 10) := by unfold reqC; rw [hP]; rfl
        have HC := Lib.hid hC
        obtain ⟨Sa, hSa⟩ : ∃ S : ByteArray, (⟨a.toArray⟩ : ByteArray) = S := ⟨_, rfl⟩
        obtain ⟨Sb, hSb⟩ : ∃ S : ByteArray, (⟨b.toArray⟩ : ByteArray) = S := ⟨_, rfl⟩
        obtain ⟨Sc, hSc⟩ : ∃ S : ByteArray, (⟨c3.toArray⟩ : ByteArray) = S := ⟨_, rfl⟩
        have zSa : Sa.size = a.length := by rw [← hSa]; exact size_mk _
        have zSb : Sb.size = b.length := by rw [← hSb]; exact size_mk _
        have dSa : Sa.data.toList = a := by rw [← hSa]
        have dSb : Sb.data.toList = b := by rw [← hSb]
        have dSc : Sc.data.toList = c3 := by rw [← hSc]
        have SP3 : ∀ W, Below w.heap.size w W → Calls Tryz.prog 150 #[.string S, .string ⟨#[32]⟩] W fun e w' => e = .returned (.slice (some ⟨W.heap.size, 0, none⟩) 3 3) ∧ RowAt w' W.heap.size 9 [.string Sa, .string Sb, .string Sc] ∧ Below W.heap.size W w' := fun W hW => by
          have h := SP W hW
          rw [show strsV [a, b, c3] = [.string Sa, .string Sb, .string Sc] by rw [← hSa, ← hSb, ← hSc]; rfl] at h
          exact h
        rw [hSa] at TK
        rw [hSb] at VI
        rw [hSc] at MI
        rw [dSa] at TK
        rw [dSb] at VI
        rw [dSc] at MI
        have HSa := Lib.hid hSa
        have HSb := Lib.hid hSb
        replace SP := Lib.hid SP3
        clear SP3 hP hC hSa hSb hSc dSa dSb dSc hSd hSz ha hb hc hXl
        cases ht : token a with
        | false =>
          rw [ht] at TK
          replace TK := Lib.hid TK
          replace VI := Lib.hid VI
          replace MI := Lib.hid MI
          have HT : Hid (R = (Sta.zero, 0, 10)) := Lib.hid (by rw [HQ.out, HC.out]; rw [ht]; simp)
          go_enter Tryz.func137, Tryz.ntmps137
          go_wp2_with (first
            | (go_at_call 147; (with_reducible refine SL.out.mono ?_); rintro x2 w2 ⟨rfl, hb2⟩; have B2 := Lib.hid (below_step B1.out hb2); have Z2 := Lib.hid (Z1.out.below hb2 Z1.out.lt); clear hb2)
            | (go_at_call 150; (with_reducible refine (SP.out _ B2.out).mono ?_); rintro x3 w3 ⟨rfl, hr3, hb3⟩; have B3 := Lib.hid (below_step B2.out hb3); have Z3 := Lib.hid (Z2.out.below hb3 Z2.out.lt); have d0 := hr3.cell (j := 0) rfl; have d1 := hr3.cell (j := 1) rfl; have d2 := hr3.cell (j := 2) rfl; have g3 : Hid (RowAt w3 w2.heap.size 9 [.string Sa, .string Sb, .string Sc]) := Lib.hid hr3; clear hr3 hb3)
            | (go_at_call 141; (with_reducible refine (TK.out _).mono ?_); rintro x4 w4 ⟨rfl, rfl⟩)
            | (refine wpList_store_row rfl 23 _ _ rfl w.heap.size _ zeroS zeroS rfl rfl Z3.out rfl HZi.out (by simp [zeroS, Value.oneCell']) ?_; intro wz hrz hoz; have RZ := Lib.hid hrz; have OZ := Lib.hid hoz; clear hrz hoz))
          exact bodyPost_ret (v := .tuple #[.agg (zeroS : List Value).toArray, .int .i64 0, .int .i64 10]) (results_cell_tmps Tryz.results137 _ wz ⟨w.heap.size, 0, none⟩ rfl (.agg (zeroS : List Value).toArray) (.int .i64 0) (.int .i64 10) rfl rfl (run_loadVar_mid wz w.heap.size 0 23 zeroS _ (rangeOf RZ.out) Tryz.underlying23 rfl HZi.out)) rfl ⟨by rw [HT.out]; rfl, OZ.out.below B3.out (Nat.le_refl _)⟩
        | true =>
          cases hv : vis6 b with
          | false =>
            rw [ht] at TK
            rw [hv] at VI
            replace TK := Lib.hid TK
            replace VI := Lib.hid VI
            replace MI := Lib.hid MI
            have HT : Hid (R = (Sta.zero, 0, 10)) := Lib.hid (by rw [HQ.out, HC.out]; rw [ht, hv]; simp)
            go_enter Tryz.func137, Tryz.ntmps137
            go_wp2_with (first
              | (go_at_call 147; (with_reducible refine SL.out.mono ?_); rintro x2 w2 ⟨rfl, hb2⟩; have B2 := Lib.hid (below_step B1.out hb2); have Z2 := Lib.hid (Z1.out.below hb2 Z1.out.lt); clear hb2)
              | (go_at_call 150; (with_reducible refine (SP.out _ B2.out).mono ?_); rintro x3 w3 ⟨rfl, hr3, hb3⟩; have B3 := Lib.hid (below_step B2.out hb3); have Z3 := Lib.hid (Z2.out.below hb3 Z2.out.lt); have d0 := hr3.cell (j := 0) rfl; have d1 := hr3.cell (j := 1) rfl; have d2 := hr3.cell (j := 2) rfl; have g3 : Hid (RowAt w3 w2.heap.size 9 [.string Sa, .string Sb, .string Sc]) := Lib.hid hr3; clear hr3 hb3)
              | (go_at_call 141; (with_reducible refine (TK.out _).mono ?_); rintro x4 w4 ⟨rfl, rfl⟩)
              | (go_at_call 142; (with_reducible refine (VI.out _).mono ?_); rintro x5 w5 ⟨rfl, rfl⟩)
              | (refine wpList_store_row rfl 23 _ _ rfl w.heap.size _ zeroS zeroS rfl rfl Z3.out rfl HZi.out (by simp [zeroS, Value.oneCell']) ?_; intro wz hrz hoz; have RZ := Lib.hid hrz; have OZ := Lib.hid hoz; clear hrz hoz))
            exact bodyPost_ret (v := .tuple #[.agg (zeroS : List Value).toArray, .int .i64 0, .int .i64 10]) (results_cell_tmps Tryz.results137 _ wz ⟨w.heap.size, 0, none⟩ rfl (.agg (zeroS : List Value).toArray) (.int .i64 0) (.int .i64 10) rfl rfl (run_loadVar_mid wz w.heap.size 0 23 zeroS _ (rangeOf RZ.out) Tryz.underlying23 rfl HZi.out)) rfl ⟨by rw [HT.out]; rfl, OZ.out.below B3.out (Nat.le_refl _)⟩
          | true =>
            cases hm : minorP c3 with
            | none =>
              rw [ht] at TK
              rw [hv] at VI
              rw [hm] at MI
              simp only [Option.getD_none, Option.isSome_none] at MI
              replace TK := Lib.hid TK
              replace VI := Lib.hid VI
              replace MI := Lib.hid MI
              have HT : Hid (R = (Sta.zero, 0, 10)) := Lib.hid (by rw [HQ.out, HC.out]; rw [ht, hv, hm]; simp)
              go_enter Tryz.func137, Tryz.ntmps137
              go_wp2_with (first
                | (go_at_call 147; (with_reducible refine SL.out.mono ?_); rintro x2 w2 ⟨rfl, hb2⟩; have B2 := Lib.hid (below_step B1.out hb2); have Z2 := Lib.hid (Z1.out.below hb2 Z1.out.lt); clear hb2)
                | (go_at_call 150; (with_reducible refine (SP.out _ B2.out).mono ?_); rintro x3 w3 ⟨rfl, hr3, hb3⟩; have B3 := Lib.hid (below_step B2.out hb3); have Z3 := Lib.hid (Z2.out.below hb3 Z2.out.lt); have d0 := hr3.cell (j := 0) rfl; have d1 := hr3.cell (j := 1) rfl; have d2 := hr3.cell (j := 2) rfl; have g3 : Hid (RowAt w3 w2.heap.size 9 [.string Sa, .string Sb, .string Sc]) := Lib.hid hr3; clear hr3 hb3)
                | (go_at_call 141; (with_reducible refine (TK.out _).mono ?_); rintro x4 w4 ⟨rfl, rfl⟩)
                | (go_at_call 142; (with_reducible refine (VI.out _).mono ?_); rintro x5 w5 ⟨rfl, rfl⟩)
                | (go_at_call 149; (with_reducible refine (MI.out _).mono ?_); rintro x6 w6 ⟨rfl, rfl⟩)
                | (refine wpList_store_row rfl 23 _ _ rfl w.heap.size _ zeroS zeroS rfl rfl Z3.out rfl HZi.out (by simp [zeroS, Value.oneCell']) ?_; intro wz hrz hoz; have RZ := Lib.hid hrz; have OZ := Lib.hid hoz; clear hrz hoz))
              exact bodyPost_ret (v := .tuple #[.agg (zeroS : List Value).toArray, .int .i64 0, .int .i64 10]) (results_cell_tmps Tryz.results137 _ wz ⟨w.heap.size, 0, none⟩ rfl (.agg (zeroS : List Value).toArray) (.int .i64 0) (.int .i64 10) rfl rfl (run_loadVar_mid wz w.heap.size 0 23 zeroS _ (rangeOf RZ.out) Tryz.underlying23 rfl HZi.out)) rfl ⟨by rw [HT.out]; rfl, OZ.out.below B3.out (Nat.le_refl _)⟩
            | some mi =>
              rw [ht] at TK
              rw [hv] at VI
              rw [hm] at MI
              simp only [Option.getD_some, Option.isSome_some] at MI
              replace TK := Lib.hid TK
              replace VI := Lib.hid VI
              replace MI := Lib.hid MI
              by_cases h32 : 32 < a.length
              · have k1 : (32 : Int) < (Sa.size : Int) := by omega
                have HT : Hid (R = (Sta.zero, 0, 12)) := Lib.hid (by rw [HQ.out, HC.out]; rw [ht, hv, hm]; simp [h32])
                go_enter Tryz.func137, Tryz.ntmps137
                go_wp2_with (first
                  | (go_at_call 147; (with_reducible refine SL.out.mono ?_); rintro x2 w2 ⟨rfl, hb2⟩; have B2 := Lib.hid (below_step B1.out hb2); have Z2 := Lib.hid (Z1.out.below hb2 Z1.out.lt); clear hb2)
                  | (go_at_call 150; (with_reducible refine (SP.out _ B2.out).mono ?_); rintro x3 w3 ⟨rfl, hr3, hb3⟩; have B3 := Lib.hid (below_step B2.out hb3); have Z3 := Lib.hid (Z2.out.below hb3 Z2.out.lt); have d0 := hr3.cell (j := 0) rfl; have d1 := hr3.cell (j := 1) rfl; have d2 := hr3.cell (j := 2) rfl; have g3 : Hid (RowAt w3 w2.heap.size 9 [.string Sa, .string Sb, .string Sc]) := Lib.hid hr3; clear hr3 hb3)
                  | (go_at_call 141; (with_reducible refine (TK.out _).mono ?_); rintro x4 w4 ⟨rfl, rfl⟩)
                  | (go_at_call 142; (with_reducible refine (VI.out _).mono ?_); rintro x5 w5 ⟨rfl, rfl⟩)
                  | (go_at_call 149; (with_reducible refine (MI.out _).mono ?_); rintro x6 w6 ⟨rfl, rfl⟩)
                  | (refine wpList_store_row rfl 23 _ _ rfl w.heap.size _ zeroS zeroS rfl rfl Z3.out rfl HZi.out (by simp [zeroS, Value.oneCell']) ?_; intro wz hrz hoz; have RZ := Lib.hid hrz; have OZ := Lib.hid hoz; clear hrz hoz))
                exact bodyPost_ret (v := .tuple #[.agg (zeroS : List Value).toArray, .int .i64 0, .int .i64 12]) (results_cell_tmps Tryz.results137 _ wz ⟨w.heap.size, 0, none⟩ rfl (.agg (zeroS : List Value).toArray) (.int .i64 0) (.int .i64 12) rfl rfl (run_loadVar_mid wz w.heap.size 0 23 zeroS _ (rangeOf RZ.out) Tryz.underlying23 rfl HZi.out)) rfl ⟨by rw [HT.out]; rfl, OZ.out.below B3.out (Nat.le_refl _)⟩
              · have k1 : ¬ (32 : Int) < (Sa.size : Int) := by omega
                by_cases h80 : 8000 < b.length
                · have k2 : (8000 : Int) < (Sb.size : Int) := by omega
                  have HT : Hid (R = (Sta.zero, 0, 12)) := Lib.hid (by rw [HQ.out, HC.out]; rw [ht, hv, hm]; simp [h80])
                  go_enter Tryz.func137, Tryz.ntmps137
                  go_wp2_with (first
                    | (go_at_call 147; (with_reducible refine SL.out.mono ?_); rintro x2 w2 ⟨rfl, hb2⟩; have B2 := Lib.hid (below_step B1.out hb2); have Z2 := Lib.hid (Z1.out.below hb2 Z1.out.lt); clear hb2)
                    | (go_at_call 150; (with_reducible refine (SP.out _ B2.out).mono ?_); rintro x3 w3 ⟨rfl, hr3, hb3⟩; have B3 := Lib.hid (below_step B2.out hb3); have Z3 := Lib.hid (Z2.out.below hb3 Z2.out.lt); have d0 := hr3.cell (j := 0) rfl; have d1 := hr3.cell (j := 1) rfl; have d2 := hr3.cell (j := 2) rfl; have g3 : Hid (RowAt w3 w2.heap.size 9 [.string Sa, .string Sb, .string Sc]) := Lib.hid hr3; clear hr3 hb3)
                    | (go_at_call 141; (with_reducible refine (TK.out _).mono ?_); rintro x4 w4 ⟨rfl, rfl⟩)
                    | (go_at_call 142; (with_reducible refine (VI.out _).mono ?_); rintro x5 w5 ⟨rfl, rfl⟩)
                    | (go_at_call 149; (with_reducible refine (MI.out _).mono ?_); rintro x6 w6 ⟨rfl, rfl⟩)
                    | (refine wpList_store_row rfl 23 _ _ rfl w.heap.size _ zeroS zeroS rfl rfl Z3.out rfl HZi.out (by simp [zeroS, Value.oneCell']) ?_; intro wz hrz hoz; have RZ := Lib.hid hrz; have OZ := Lib.hid hoz; clear hrz hoz))
                  exact bodyPost_ret (v := .tuple #[.agg (zeroS : List Value).toArray, .int .i64 0, .int .i64 12]) (results_cell_tmps Tryz.results137 _ wz ⟨w.heap.size, 0, none⟩ rfl (.agg (zeroS : List Value).toArray) (.int .i64 0) (.int .i64 12) rfl rfl (run_loadVar_mid wz w.heap.size 0 23 zeroS _ (rangeOf RZ.out) Tryz.underlying23 rfl HZi.out)) rfl ⟨by rw [HT.out]; rfl, OZ.out.below B3.out (Nat.le_refl _)⟩
                · have k2 : ¬ (8000 : Int) < (Sb.size : Int) := by omega
                  have HT : Hid (R = (⟨a, b, 0, [], mi⟩, (m : Int), 0)) := Lib.hid (by rw [HQ.out, HC.out]; rw [ht, hv, hm]; simp [h32, h80])
                  go_enter Tryz.func137, Tryz.ntmps137
                  go_wp2_with (first
                    | (go_at_call 147; (with_reducible refine SL.out.mono ?_); rintro x2 w2 ⟨rfl, hb2⟩; have B2 := Lib.hid (below_step B1.out hb2); have Z2 := Lib.hid (Z1.out.below hb2 Z1.out.lt); clear hb2)
                    | (go_at_call 150; (with_reducible refine (SP.out _ B2.out).mono ?_); rintro x3 w3 ⟨rfl, hr3, hb3⟩; have B3 := Lib.hid (below_step B2.out hb3); have Z3 := Lib.hid (Z2.out.below hb3 Z2.out.lt); have d0 := hr3.cell (j := 0) rfl; have d1 := hr3.cell (j := 1) rfl; have d2 := hr3.cell (j := 2) rfl; have g3 : Hid (RowAt w3 w2.heap.size 9 [.string Sa, .string Sb, .string Sc]) := Lib.hid hr3; clear hr3 hb3)
                    | (go_at_call 141; (with_reducible refine (TK.out _).mono ?_); rintro x4 w4 ⟨rfl, rfl⟩)
                    | (go_at_call 142; (with_reducible refine (VI.out _).mono ?_); rintro x5 w5 ⟨rfl, rfl⟩)
                    | (go_at_call 149; (with_reducible refine (MI.out _).mono ?_); rintro x6 w6 ⟨rfl, rfl⟩))
                  refine wp_region_plan (fun W => Below w.heap.size w W ∧ (∃ cs, cs.length = 5 ∧ RowAt W w.heap.size 23 cs) ∧ RowAt W w2.heap.size 9 [.string Sa, .string Sb, .string Sc]) [(0, true), (1, true), (2, true), (3, true), (4, true), (5, true), (6, true), (7, true), (8, true), (9, false), (10, true), (11, true)] (by kernel_rfl) (by kernel_rfl) rfl (by kernel_rfl) (⟨below_drewN B3.out 1, ⟨zeroS, rfl, Z3.out.below (below_drewN (Below.refl _ _) 1) Z3.out.lt⟩, g3.out.below (below_drewN (Below.refl _ _) 1) g3.out.lt⟩) ?_
                  intro w1 hH
                  iterate 9
                    refine plan_take (v := ?_) rfl (by rfl) ?_ ?_
                    rotate_left
                    · intro w2 hSw
                      have z0 := hSw.2.2.cell (j := 0) rfl
                      have z1 := hSw.2.2.cell (j := 1) rfl
                      clear hSw
                      go_simp
                      try with_reducible rfl
                    try simp only [Act.put, List.setIfInBounds_toArray, List.set_cons_zero, List.set_cons_succ]
                  refine plan_move rfl (by rfl) (fun K hK => ?_)
                  obtain ⟨cs9, hc9, hr9⟩ := hH.out.2.1
                  refine wp_store_row 23 _ _ rfl w.heap.size _ [.string Sa, .string Sb, .int .i64 0, .string ⟨#[]⟩, .int .i64 mi] cs9 rfl rfl hr9 (by rw [hc9]; rfl) HZi.out (by simp [Value.oneCell']) ?_
                  intro wz hrz hoz
                  refine hK.out _ _ (⟨hoz.below hH.out.1 (Nat.le_refl _), ⟨_, rfl, hrz⟩, hH.out.2.2.only hoz (by have := Z2.out.lt; omega)⟩) ?_
                  have RZ := Lib.hid hrz
                  have OZ := Lib.hid hoz
                  have BZ := Lib.hid hH.out.1
                  clear hH hK K hrz hoz hr9 hc9
                  intro hH
                  try simp only [Act.put]
                  iterate 2
                    refine plan_take (v := ?_) rfl (by rfl) ?_ ?_
                    rotate_left
                    · intro w2 hSw
                      have z0 := hSw.2.2.cell (j := 0) rfl
                      have z1 := hSw.2.2.cell (j := 1) rfl
                      clear hSw
                      go_simp
                      try with_reducible rfl
                    try simp only [Act.put, List.setIfInBounds_toArray, List.set_cons_zero, List.set_cons_succ]
                  refine plan_done ?_
                  go_wp2_with fail
                  exact bodyPost_ret (v := .tuple #[.agg ([.string Sa, .string Sb, .int .i64 0, .string ⟨#[]⟩, .int .i64 mi] : List Value).toArray, .int .i64 m, .int .i64 0]) (results_cell_tmps Tryz.results137 _ wz ⟨w.heap.size, 0, none⟩ rfl (.agg ([.string Sa, .string Sb, .int .i64 0, .string ⟨#[]⟩, .int .i64 mi] : List Value).toArray) (.int .i64 m) (.int .i64 0) rfl rfl (run_loadVar_mid wz w.heap.size 0 23 [.string Sa, .string Sb, .int .i64 0, .string ⟨#[]⟩, .int .i64 mi] _ (rangeOf RZ.out) Tryz.underlying23 rfl HZi.out)) rfl ⟨by rw [HT.out, ← HSa.out, ← HSb.out]; rfl, OZ.out.below BZ.out (Nat.le_refl _)⟩
    · have p3 : ((P.length : Int) != 3) = true := by rw [bne_iff_ne]; omega
      have HT : Hid (R = (Sta.zero, 0, 10)) := Lib.hid (by
        rw [HQ.out]
        have hC : reqC X = (Sta.zero, 10) := by
          unfold reqC
          rw [hP]
          match P, h3 with
          | [], _ => rfl
          | [_], _ => rfl
          | [_, _], _ => rfl
          | [_, _, _], h => exact absurd rfl h
          | _ :: _ :: _ :: _ :: _, _ => rfl
        rw [hC]; simp)
      replace SP := Lib.hid SP
      obtain ⟨k, hk⟩ : ∃ k, P.length = k := ⟨_, rfl⟩
      rw [hk] at SP p3
      clear hP hSd hSz hXl hk h3
      go_enter Tryz.func137, Tryz.ntmps137
      go_wp2_with (first
        | (go_at_call 147; (with_reducible refine SL.out.mono ?_); rintro x2 w2 ⟨rfl, hb2⟩; have B2 := Lib.hid (below_step B1.out hb2); have Z2 := Lib.hid (Z1.out.below hb2 Z1.out.lt); clear hb2)
        | (go_at_call 150; (with_reducible refine (SP.out _ B2.out).mono ?_); rintro x3 w3 ⟨rfl, hr3, hb3⟩; have B3 := Lib.hid (below_step B2.out hb3); have Z3 := Lib.hid (Z2.out.below hb3 Z2.out.lt); clear hr3 hb3)
        | (refine wpList_store_row rfl 23 _ _ rfl w.heap.size _ zeroS zeroS rfl rfl Z3.out rfl HZi.out (by simp [zeroS, Value.oneCell']) ?_; intro wz hrz hoz; have RZ := Lib.hid hrz; have OZ := Lib.hid hoz; clear hrz hoz))
      exact bodyPost_ret (v := .tuple #[.agg (zeroS : List Value).toArray, .int .i64 0, .int .i64 10]) (results_cell_tmps Tryz.results137 _ wz ⟨w.heap.size, 0, none⟩ rfl (.agg (zeroS : List Value).toArray) (.int .i64 0) (.int .i64 10) rfl rfl (run_loadVar_mid wz w.heap.size 0 23 zeroS _ (rangeOf RZ.out) Tryz.underlying23 rfl HZi.out)) rfl ⟨by rw [HT.out]; rfl, OZ.out.below B3.out (Nat.le_refl _)⟩
end Go.Proofs.YtniiadhhefgmcaaGreatDoor

/- Walks of layer 6: a response's first line, by the code. Condition: at most 10^9 octets, the world's shape. -/
namespace Go.Proofs.YtniiadhhefgmcaaGreatDoor
open Go.RowKit IH
set_option maxRecDepth 100000
theorem splitK_sp {k : Nat} {s : List UInt8} (h : 32 ∈ s) : Lib.splitK [32] 0 (k + 1) s = spW s :: Lib.splitK [32] 0 k (spR s) := by
  obtain ⟨e, ha⟩ := sp_cut h
  have hi : Lib.index (spW s ++ 32 :: spR s) [32] = ((spW s).length : Nat) := by rw [Lib.index_one, indexByte_mid 32 (spW s) (spR s) ha]
  have hd : (spW s ++ 32 :: spR s).drop ((spW s).length + 1) = spR s := by rw [← List.drop_drop, List.drop_left']; rfl; rfl
  have hne : (Lib.index (spW s ++ 32 :: spR s) [32] == -1) = false := by rw [hi, beq_eq_false_iff_ne]; omega
  conv => lhs; rw [e]; unfold Lib.splitK
  rw [hne, hi]
  simp only [Bool.false_eq_true, if_false, Int.toNat_natCast, Nat.add_zero]
  rw [show (spW s).length + [(32 : UInt8)].length = (spW s).length + 1 from rfl, hd, List.take_left']
  rfl
theorem splitK_no {k : Nat} {s : List UInt8} (h : 32 ∉ s) : Lib.splitK [32] 0 k s = [s] := by
  cases k with
  | zero => rfl
  | succ k =>
    have hi : Lib.index s [32] = -1 := by rw [Lib.index_one]; exact indexByte_no 32 s (fun x hx e => h (e ▸ hx))
    unfold Lib.splitK
    rw [hi]
    simp
theorem sp_two {s : List UInt8} (h1 : 32 ∈ s) (h2 : 32 ∈ spR s) : 2 ≤ s.length ∧ Lib.splitK [32] 0 2 s = [spW s, spW (spR s), spR (spR s)] := by
  refine ⟨?_, by rw [splitK_sp h1, splitK_sp h2]; rfl⟩
  have e1 := congrArg List.length (sp_cut h1).1
  have e2 := congrArg List.length (sp_cut h2).1
  simp only [List.length_append, List.length_cons] at e1 e2
  omega
theorem sp_less {k : Nat} (hk : k ≤ 2) {s : List UInt8} (h : ¬ (32 ∈ s ∧ 32 ∈ spR s)) : (Lib.splitK [32] 0 k s).length ≠ 3 := by
  by_cases h1 : 32 ∈ s
  · have h2 : 32 ∉ spR s := fun h2 => h ⟨h1, h2⟩
    cases k with
    | zero => simp [Lib.splitK]
    | succ k => rw [splitK_sp h1, splitK_no h2]; simp
  · rw [splitK_no h1]; simp
theorem sp_lens (s : List UInt8) : (spW s).length ≤ s.length ∧ (spR s).length ≤ s.length := by
  unfold spW spR
  have h1 : (s.takeWhile (· != 32)).length ≤ s.length := (List.takeWhile_sublist _).length_le
  have h2 : (s.dropWhile (· != 32)).length ≤ s.length := (List.dropWhile_sublist _).length_le
  rw [List.length_drop]
  omega
theorem SplitN3_yes (s : ByteArray) (w : World) (hsh : w.ShapedOpen Tryz.prog) (hs : s.size ≤ 1000000000) (h1 : 32 ∈ s.data.toList) (h2 : 32 ∈ spR s.data.toList) :
    Calls Tryz.prog 148 #[.string s, .string ⟨#[32]⟩, .int .i64 3] w fun e w' => ∃ c, 3 ≤ c ∧ e = .returned (.slice (some ⟨w.heap.size, 0, none⟩) 3 c) ∧ RowAt w' w.heap.size 9 (strsV [spW s.data.toList, spW (spR s.data.toList), spR (spR s.data.toList)]) ∧ Below w.heap.size w w' := by
  refine (Tryz.strings_SplitN_shaped s ⟨#[32]⟩ 3 w hsh (by omega) (by show 1 ≤ 1; omega) (by omega) (by omega)).mono ?_
  rintro e w' ⟨rfl, rfl⟩
  obtain ⟨h3, h4⟩ := sp_two h1 h2
  rw [data_len] at h3
  obtain ⟨k, hk⟩ : ∃ k, min 3 (s.size + 1) - 1 = k := ⟨_, rfl⟩
  obtain rfl : k = 2 := by omega
  rw [hk]
  have hd := Lib.splitB_data ⟨#[32]⟩ 0 2 s
  rw [show (⟨#[32]⟩ : ByteArray).data.toList = [32] from rfl, h4] at hd
  obtain ⟨Q, hQ⟩ : ∃ Q, Lib.splitB ⟨#[32]⟩ 0 2 s = Q := ⟨_, rfl⟩
  rw [hQ] at hd ⊢
  have hlen : Q.length = 3 := by have := congrArg List.length hd; rw [List.length_map] at this; exact this
  have hst : Q.map Value.string = strsV [spW s.data.toList, spW (spR s.data.toList), spR (spR s.data.toList)] := by
    rw [← hd]
    unfold strsV
    rw [List.map_map]
    apply List.map_congr_left
    intro x _
    simp
  refine ⟨_, ?_, by rw [hlen], ?_, (Below.refl _ _).alloc (Nat.le_refl _) _⟩
  rotate_left
  · refine ⟨_, 0, 0, heap_alloc_new w _, ?_, by simp⟩
    unfold Lib.cellsOf
    rw [hst, List.take_left']
    rfl
  · omega
theorem SplitN3_no (s : ByteArray) (w : World) (hsh : w.ShapedOpen Tryz.prog) (hs : s.size ≤ 1000000000) (h : ¬ (32 ∈ s.data.toList ∧ 32 ∈ spR s.data.toList)) :
    Calls Tryz.prog 148 #[.string s, .string ⟨#[32]⟩, .int .i64 3] w fun e w' => ∃ k c, k ≠ 3 ∧ e = .returned (.slice (some ⟨w.heap.size, 0, none⟩) k c) ∧ Below w.heap.size w w' := by
  refine (Tryz.strings_SplitN_shaped s ⟨#[32]⟩ 3 w hsh (by omega) (by show 1 ≤ 1; omega) (by omega) (by omega)).mono ?_
  rintro e w' ⟨rfl, rfl⟩
  refine ⟨_, _, ?_, rfl, (Below.refl _ _).alloc (Nat.le_refl _) _⟩
  have hd := congrArg List.length (Lib.splitB_data ⟨#[32]⟩ 0 (min 3 (s.size + 1) - 1) s)
  rw [List.length_map, show (⟨#[32]⟩ : ByteArray).data.toList = [32] from rfl] at hd
  rw [hd]
  exact sp_less (by omega) h
set_option maxHeartbeats 16000000 in
theorem sresp_any (b0 off n c : Nat) (l : List UInt8) (w : World) (hsh : w.ShapedOpen Tryz.prog) (hin : SliceIn w w.heap.size 1 (some ⟨b0, off, none⟩) n c (bytesV l)) (hn : n ≤ 1000000000) :
    Calls Tryz.prog 136 #[.slice (some ⟨b0, off, none⟩) n c] w fun e w' => e = .returned (.tuple #[.agg (staC (responseL l).1).toArray, .int .i64 (responseL l).2.1, .int .i64 (responseL l).2.2]) ∧ Below w.heap.size w w' := by
  obtain ⟨w1, hw1⟩ : ∃ W : World, w.alloc (.cells #[.string ⟨#[]⟩, .string ⟨#[]⟩, .int .i64 0, .string ⟨#[]⟩, .int .i64 0] 23) = W := ⟨_, rfl⟩
  have B1 : Hid (Below w.heap.size w w1) := Lib.hid (by rw [← hw1]; exact (Below.refl _ _).alloc (Nat.le_refl _) _)
  have Z1 : Hid (RowAt w1 w.heap.size 23 zeroS) := Lib.hid (by rw [← hw1]; exact RowAt.new w 23 zeroS)
  have HZi : Hid ((Tryz.prog.info? 23).map (·.size) = some 5) := Lib.hid (by kernel_rfl)
  have SL := sline_any b0 off n c w.heap.size l 300 w1 (hin.below B1.out) hn (by omega)
  rw [show ((300 : Nat) : Int) = 300 from rfl] at SL
  obtain ⟨X, m, er, hL⟩ : ∃ X m e, lineS 300 l = (X, m, e) := ⟨_, _, _, rfl⟩
  have hXl : X.length ≤ 1000000000 := by
    have h := lineS_len (most := 300) (b := l)
    have hll : l.length = n := by have := hin.1; rw [bytesV_length] at this; omega
    rw [hL] at h
    exact Nat.le_trans h (by omega)
  rw [hL] at SL
  simp only at SL
  obtain ⟨R, hR⟩ : ∃ R, responseL l = R := ⟨_, rfl⟩
  rw [hR]
  have HR := Lib.hid hR
  have HL := Lib.hid hL
  obtain ⟨S, hS⟩ : ∃ S : ByteArray, (⟨X.toArray⟩ : ByteArray) = S := ⟨_, rfl⟩
  have hSd : S.data.toList = X := by rw [← hS]
  have hSz : S.size = X.length := by rw [← hS]; exact size_mk _
  rw [hS] at SL
  replace SL := Lib.hid SL
  clear hR hL hS hin
  have Hsh := Lib.hid hsh
  clear hsh
  by_cases he : er ≠ 0
  · have neb : (er != 0) = true := by rw [bne_iff_ne]; exact he
    have HT : Hid (R = (Sta.zero, 0, er)) := Lib.hid (by rw [← HR.out]; unfold responseL; rw [HL.out]; simp only; rw [if_pos he])
    go_enter Tryz.func136, Tryz.ntmps136
    go_wp2_with (first
      | (go_at_call 147; (with_reducible refine SL.out.mono ?_); rintro x2 w2 ⟨rfl, hb2⟩; have B2 := Lib.hid (below_step B1.out hb2); have Z2 := Lib.hid (Z1.out.below hb2 Z1.out.lt); clear hb2)
      | (refine wpList_store_row rfl 23 _ _ rfl w.heap.size _ zeroS zeroS rfl rfl Z2.out rfl HZi.out (by simp [zeroS, Value.oneCell']) ?_; intro wz hrz hoz; have RZ := Lib.hid hrz; have OZ := Lib.hid hoz; clear hrz hoz))
    exact bodyPost_ret (v := .tuple #[.agg (zeroS : List Value).toArray, .int .i64 0, .int .i64 er]) (results_cell_tmps Tryz.results136 _ wz ⟨w.heap.size, 0, none⟩ rfl (.agg (zeroS : List Value).toArray) (.int .i64 0) (.int .i64 er) rfl rfl (run_loadVar_mid wz w.heap.size 0 23 zeroS _ (rangeOf RZ.out) Tryz.underlying23 rfl HZi.out)) rfl ⟨by rw [HT.out]; rfl, OZ.out.below B2.out (Nat.le_refl _)⟩
  · obtain rfl : er = 0 := by omega
    have HQ : Hid (R = if (respC X).2 ≠ 0 then (Sta.zero, 0, (respC X).2) else ((respC X).1, (m : Int), 0)) := Lib.hid (by rw [← HR.out]; unfold responseL; rw [HL.out]; simp)
    clear he
    have zX := sp_lens X
    have zY := sp_lens (spR X)
    by_cases h3 : 32 ∈ X ∧ 32 ∈ spR X
    · have SP := fun W (hW : Below w.heap.size w W) => SplitN3_yes S W (shaped_below Hsh.out hW) (by omega) (by rw [hSd]; exact h3.1) (by rw [hSd]; exact h3.2)
      rw [hSd] at SP
      have hC : respC X = (match minorP (spW X) with
        | none => (Sta.zero, (10 : Int))
        | some m => if (numR 10 999 (spW (spR X))).2 ≠ 0 ∨ (spW (spR X)).length ≠ 3 ∨ (numR 10 999 (spW (spR X))).1 < 100 ∨ value (spR (spR X)) = false then (Sta.zero, 10)
          else if 200 < (spR (spR X)).length then (Sta.zero, 12) else (⟨[], [], (numR 10 999 (spW (spR X))).1, spR (spR X), m⟩, 0)) := by unfold respC; rw [if_pos h3]; rfl
      obtain ⟨a, ha⟩ : ∃ a, spW X = a := ⟨_, rfl⟩
      obtain ⟨b, hb⟩ : ∃ a, spW (spR X) = a := ⟨_, rfl⟩
      obtain ⟨c3, hc⟩ : ∃ a, spR (spR X) = a := ⟨_, rfl⟩
      rw [ha, hb, hc] at SP
      rw [ha, hb, hc] at hC
      rw [ha] at zX
      rw [hb, hc] at zY
      have MI := fun w => sminor_any ⟨a.toArray⟩ w
      have NU := fun w => Number_any ⟨b.toArray⟩ (by rw [size_mk]; omega) 999 (by omega) (by omega) w
      have VA := fun w => Value_any ⟨c3.toArray⟩ (by rw [size_mk]; omega) w
      have HC := Lib.hid hC
      obtain ⟨Sa, hSa⟩ : ∃ S : ByteArray, (⟨a.toArray⟩ : ByteArray) = S := ⟨_, rfl⟩
      obtain ⟨Sb, hSb⟩ : ∃ S : ByteArray, (⟨b.toArray⟩ : ByteArray) = S := ⟨_, rfl⟩
      obtain ⟨Sc, hSc⟩ : ∃ S : ByteArray, (⟨c3.toArray⟩ : ByteArray) = S := ⟨_, rfl⟩
      have zSb : Sb.size = b.length := by rw [← hSb]; exact size_mk _
      have zSc : Sc.size = c3.length := by rw [← hSc]; exact size_mk _
      have dSa : Sa.data.toList = a := by rw [← hSa]
      have dSb : Sb.data.toList = b := by rw [← hSb]
      have dSc : Sc.data.toList = c3 := by rw [← hSc]
      have SP3 : ∀ W, Below w.heap.size w W → Calls Tryz.prog 148 #[.string S, .string ⟨#[32]⟩, .int .i64 3] W fun e w' => ∃ c, 3 ≤ c ∧ e = .returned (.slice (some ⟨W.heap.size, 0, none⟩) 3 c) ∧ RowAt w' W.heap.size 9 [.string Sa, .string Sb, .string Sc] ∧ Below W.heap.size W w' := fun W hW => by
        have h := SP W hW
        rw [show strsV [a, b, c3] = [.string Sa, .string Sb, .string Sc] by rw [← hSa, ← hSb, ← hSc]; rfl] at h
        exact h
      rw [hSa, dSa] at MI
      rw [hSb, dSb] at NU
      rw [hSc, dSc] at VA
      obtain ⟨nv, ne, hN⟩ : ∃ x y, numR 10 999 b = (x, y) := ⟨_, _, rfl⟩
      rw [hN] at NU hC
      simp only at NU
      have HN := Lib.hid hN
      have HSc := Lib.hid hSc
      replace SP := Lib.hid SP3
      replace NU := Lib.hid NU
      clear SP3 hC hSa hSb hSc dSa dSb dSc hSd hSz hXl zX zY ha hb hc h3 hN
      cases hm : minorP a with
      | none =>
        rw [hm] at MI
        simp only [Option.getD_none, Option.isSome_none] at MI
        replace MI := Lib.hid MI
        replace VA := Lib.hid VA
        have HT : Hid (R = (Sta.zero, 0, 10)) := Lib.hid (by rw [HQ.out, HC.out, HN.out]; rw [hm]; simp)
        go_enter Tryz.func136, Tryz.ntmps136
        go_wp2_with (first
          | (go_at_call 147; (with_reducible refine SL.out.mono ?_); rintro x2 w2 ⟨rfl, hb2⟩; have B2 := Lib.hid (below_step B1.out hb2); have Z2 := Lib.hid (Z1.out.below hb2 Z1.out.lt); clear hb2)
          | (go_at_call 148; (with_reducible refine (SP.out _ B2.out).mono ?_); rintro x3 w3 ⟨c9, hc9, rfl, hr3, hb3⟩; have B3 := Lib.hid (below_step B2.out hb3); have Z3 := Lib.hid (Z2.out.below hb3 Z2.out.lt); have d0 := hr3.cell (j := 0) rfl; have d1 := hr3.cell (j := 1) rfl; have d2 := hr3.cell (j := 2) rfl; have g3 : Hid (RowAt w3 w2.heap.size 9 [.string Sa, .string Sb, .string Sc]) := Lib.hid hr3; clear hr3 hb3)
          | (go_at_call 149; (with_reducible refine (MI.out _).mono ?_); rintro x6 w6 ⟨rfl, rfl⟩)
          | (go_at_call 135; (with_reducible refine (NU.out _).mono ?_); rintro x4 w4 ⟨rfl, hb4⟩; have B4 := Lib.hid (below_step B3.out hb4); have Z4 := Lib.hid (Z3.out.below hb4 Z3.out.lt); have g4 := g3.out.below hb4 g3.out.lt; have d3 := g4.cell (j := 1) rfl; have d4 := g4.cell (j := 2) rfl; replace g4 := Lib.hid g4; clear hb4 d0 d1 d2)
          | (refine wpList_store_row rfl 23 _ _ rfl w.heap.size _ zeroS zeroS rfl rfl Z4.out rfl HZi.out (by simp [zeroS, Value.oneCell']) ?_; intro wz hrz hoz; have RZ := Lib.hid hrz; have OZ := Lib.hid hoz; clear hrz hoz))
        exact bodyPost_ret (v := .tuple #[.agg (zeroS : List Value).toArray, .int .i64 0, .int .i64 10]) (results_cell_tmps Tryz.results136 _ wz ⟨w.heap.size, 0, none⟩ rfl (.agg (zeroS : List Value).toArray) (.int .i64 0) (.int .i64 10) rfl rfl (run_loadVar_mid wz w.heap.size 0 23 zeroS _ (rangeOf RZ.out) Tryz.underlying23 rfl HZi.out)) rfl ⟨by rw [HT.out]; rfl, OZ.out.below B4.out (Nat.le_refl _)⟩
      | some mi =>
        rw [hm] at MI
        simp only [Option.getD_some, Option.isSome_some] at MI
        replace MI := Lib.hid MI
        by_cases hne : ne = 0
        · subst hne
          by_cases hl3 : b.length = 3
          · have l3 : ((Sb.size : Int) == 3) = true := by rw [beq_iff_eq]; omega
            have l3n : ((Sb.size : Int) != 3) = false := by rw [bne, l3]; rfl
            by_cases h100 : nv < 100
            · replace VA := Lib.hid VA
              have HT : Hid (R = (Sta.zero, 0, 10)) := Lib.hid (by rw [HQ.out, HC.out, HN.out]; rw [hm]; simp [h100])
              go_enter Tryz.func136, Tryz.ntmps136
              go_wp2_with (first
                | (go_at_call 147; (with_reducible refine SL.out.mono ?_); rintro x2 w2 ⟨rfl, hb2⟩; have B2 := Lib.hid (below_step B1.out hb2); have Z2 := Lib.hid (Z1.out.below hb2 Z1.out.lt); clear hb2)
                | (go_at_call 148; (with_reducible refine (SP.out _ B2.out).mono ?_); rintro x3 w3 ⟨c9, hc9, rfl, hr3, hb3⟩; have B3 := Lib.hid (below_step B2.out hb3); have Z3 := Lib.hid (Z2.out.below hb3 Z2.out.lt); have d0 := hr3.cell (j := 0) rfl; have d1 := hr3.cell (j := 1) rfl; have d2 := hr3.cell (j := 2) rfl; have g3 : Hid (RowAt w3 w2.heap.size 9 [.string Sa, .string Sb, .string Sc]) := Lib.hid hr3; clear hr3 hb3)
                | (go_at_call 149; (with_reducible refine (MI.out _).mono ?_); rintro x6 w6 ⟨rfl, rfl⟩)
                | (go_at_call 135; (with_reducible refine (NU.out _).mono ?_); rintro x4 w4 ⟨rfl, hb4⟩; have B4 := Lib.hid (below_step B3.out hb4); have Z4 := Lib.hid (Z3.out.below hb4 Z3.out.lt); have g4 := g3.out.below hb4 g3.out.lt; have d3 := g4.cell (j := 1) rfl; have d4 := g4.cell (j := 2) rfl; replace g4 := Lib.hid g4; clear hb4 d0 d1 d2)
                | (refine wpList_store_row rfl 23 _ _ rfl w.heap.size _ zeroS zeroS rfl rfl Z4.out rfl HZi.out (by simp [zeroS, Value.oneCell']) ?_; intro wz hrz hoz; have RZ := Lib.hid hrz; have OZ := Lib.hid hoz; clear hrz hoz))
              exact bodyPost_ret (v := .tuple #[.agg (zeroS : List Value).toArray, .int .i64 0, .int .i64 10]) (results_cell_tmps Tryz.results136 _ wz ⟨w.heap.size, 0, none⟩ rfl (.agg (zeroS : List Value).toArray) (.int .i64 0) (.int .i64 10) rfl rfl (run_loadVar_mid wz w.heap.size 0 23 zeroS _ (rangeOf RZ.out) Tryz.underlying23 rfl HZi.out)) rfl ⟨by rw [HT.out]; rfl, OZ.out.below B4.out (Nat.le_refl _)⟩
            · cases hv : value c3 with
              | false =>
                rw [hv] at VA
                replace VA := Lib.hid VA
                have HT : Hid (R = (Sta.zero, 0, 10)) := Lib.hid (by rw [HQ.out, HC.out, HN.out]; rw [hm, hv]; simp)
                go_enter Tryz.func136, Tryz.ntmps136
                go_wp2_with (first
                  | (go_at_call 147; (with_reducible refine SL.out.mono ?_); rintro x2 w2 ⟨rfl, hb2⟩; have B2 := Lib.hid (below_step B1.out hb2); have Z2 := Lib.hid (Z1.out.below hb2 Z1.out.lt); clear hb2)
                  | (go_at_call 148; (with_reducible refine (SP.out _ B2.out).mono ?_); rintro x3 w3 ⟨c9, hc9, rfl, hr3, hb3⟩; have B3 := Lib.hid (below_step B2.out hb3); have Z3 := Lib.hid (Z2.out.below hb3 Z2.out.lt); have d0 := hr3.cell (j := 0) rfl; have d1 := hr3.cell (j := 1) rfl; have d2 := hr3.cell (j := 2) rfl; have g3 : Hid (RowAt w3 w2.heap.size 9 [.string Sa, .string Sb, .string Sc]) := Lib.hid hr3; clear hr3 hb3)
                  | (go_at_call 149; (with_reducible refine (MI.out _).mono ?_); rintro x6 w6 ⟨rfl, rfl⟩)
                  | (go_at_call 135; (with_reducible refine (NU.out _).mono ?_); rintro x4 w4 ⟨rfl, hb4⟩; have B4 := Lib.hid (below_step B3.out hb4); have Z4 := Lib.hid (Z3.out.below hb4 Z3.out.lt); have g4 := g3.out.below hb4 g3.out.lt; have d3 := g4.cell (j := 1) rfl; have d4 := g4.cell (j := 2) rfl; replace g4 := Lib.hid g4; clear hb4 d0 d1 d2)
                  | (go_at_call 143; (with_reducible refine (VA.out _).mono ?_); rintro x5 w5 ⟨rfl, hb5⟩; have B5 := Lib.hid (below_step B4.out hb5); have Z5 := Lib.hid (Z4.out.below hb5 Z4.out.lt); have d5 := (g4.out.below hb5 g4.out.lt).cell (j := 2) rfl; clear hb5)
                  | (refine wpList_store_row rfl 23 _ _ rfl w.heap.size _ zeroS zeroS rfl rfl Z5.out rfl HZi.out (by simp [zeroS, Value.oneCell']) ?_; intro wz hrz hoz; have RZ := Lib.hid hrz; have OZ := Lib.hid hoz; clear hrz hoz))
                exact bodyPost_ret (v := .tuple #[.agg (zeroS : List Value).toArray, .int .i64 0, .int .i64 10]) (results_cell_tmps Tryz.results136 _ wz ⟨w.heap.size, 0, none⟩ rfl (.agg (zeroS : List Value).toArray) (.int .i64 0) (.int .i64 10) rfl rfl (run_loadVar_mid wz w.heap.size 0 23 zeroS _ (rangeOf RZ.out) Tryz.underlying23 rfl HZi.out)) rfl ⟨by rw [HT.out]; rfl, OZ.out.below B5.out (Nat.le_refl _)⟩
              | true =>
                rw [hv] at VA
                replace VA := Lib.hid VA
                by_cases h200 : 200 < c3.length
                · have k2 : (200 : Int) < (Sc.size : Int) := by omega
                  have HT : Hid (R = (Sta.zero, 0, 12)) := Lib.hid (by rw [HQ.out, HC.out, HN.out]; rw [hm, hv]; simp [h100, hl3, h200])
                  go_enter Tryz.func136, Tryz.ntmps136
                  go_wp2_with (first
                    | (go_at_call 147; (with_reducible refine SL.out.mono ?_); rintro x2 w2 ⟨rfl, hb2⟩; have B2 := Lib.hid (below_step B1.out hb2); have Z2 := Lib.hid (Z1.out.below hb2 Z1.out.lt); clear hb2)
                    | (go_at_call 148; (with_reducible refine (SP.out _ B2.out).mono ?_); rintro x3 w3 ⟨c9, hc9, rfl, hr3, hb3⟩; have B3 := Lib.hid (below_step B2.out hb3); have Z3 := Lib.hid (Z2.out.below hb3 Z2.out.lt); have d0 := hr3.cell (j := 0) rfl; have d1 := hr3.cell (j := 1) rfl; have d2 := hr3.cell (j := 2) rfl; have g3 : Hid (RowAt w3 w2.heap.size 9 [.string Sa, .string Sb, .string Sc]) := Lib.hid hr3; clear hr3 hb3)
                    | (go_at_call 149; (with_reducible refine (MI.out _).mono ?_); rintro x6 w6 ⟨rfl, rfl⟩)
                    | (go_at_call 135; (with_reducible refine (NU.out _).mono ?_); rintro x4 w4 ⟨rfl, hb4⟩; have B4 := Lib.hid (below_step B3.out hb4); have Z4 := Lib.hid (Z3.out.below hb4 Z3.out.lt); have g4 := g3.out.below hb4 g3.out.lt; have d3 := g4.cell (j := 1) rfl; have d4 := g4.cell (j := 2) rfl; replace g4 := Lib.hid g4; clear hb4 d0 d1 d2)
                    | (go_at_call 143; (with_reducible refine (VA.out _).mono ?_); rintro x5 w5 ⟨rfl, hb5⟩; have B5 := Lib.hid (below_step B4.out hb5); have Z5 := Lib.hid (Z4.out.below hb5 Z4.out.lt); have d5 := (g4.out.below hb5 g4.out.lt).cell (j := 2) rfl; clear hb5)
                    | (refine wpList_store_row rfl 23 _ _ rfl w.heap.size _ zeroS zeroS rfl rfl Z5.out rfl HZi.out (by simp [zeroS, Value.oneCell']) ?_; intro wz hrz hoz; have RZ := Lib.hid hrz; have OZ := Lib.hid hoz; clear hrz hoz))
                  exact bodyPost_ret (v := .tuple #[.agg (zeroS : List Value).toArray, .int .i64 0, .int .i64 12]) (results_cell_tmps Tryz.results136 _ wz ⟨w.heap.size, 0, none⟩ rfl (.agg (zeroS : List Value).toArray) (.int .i64 0) (.int .i64 12) rfl rfl (run_loadVar_mid wz w.heap.size 0 23 zeroS _ (rangeOf RZ.out) Tryz.underlying23 rfl HZi.out)) rfl ⟨by rw [HT.out]; rfl, OZ.out.below B5.out (Nat.le_refl _)⟩
                · have k2 : ¬ (200 : Int) < (Sc.size : Int) := by omega
                  have HT : Hid (R = (⟨[], [], nv, c3, mi⟩, (m : Int), 0)) := Lib.hid (by rw [HQ.out, HC.out, HN.out]; rw [hm, hv]; simp [h100, hl3, h200])
                  go_enter Tryz.func136, Tryz.ntmps136
                  go_wp2_with (first
                    | (go_at_call 147; (with_reducible refine SL.out.mono ?_); rintro x2 w2 ⟨rfl, hb2⟩; have B2 := Lib.hid (below_step B1.out hb2); have Z2 := Lib.hid (Z1.out.below hb2 Z1.out.lt); clear hb2)
                    | (go_at_call 148; (with_reducible refine (SP.out _ B2.out).mono ?_); rintro x3 w3 ⟨c9, hc9, rfl, hr3, hb3⟩; have B3 := Lib.hid (below_step B2.out hb3); have Z3 := Lib.hid (Z2.out.below hb3 Z2.out.lt); have d0 := hr3.cell (j := 0) rfl; have d1 := hr3.cell (j := 1) rfl; have d2 := hr3.cell (j := 2) rfl; have g3 : Hid (RowAt w3 w2.heap.size 9 [.string Sa, .string Sb, .string Sc]) := Lib.hid hr3; clear hr3 hb3)
                    | (go_at_call 149; (with_reducible refine (MI.out _).mono ?_); rintro x6 w6 ⟨rfl, rfl⟩)
                    | (go_at_call 135; (with_reducible refine (NU.out _).mono ?_); rintro x4 w4 ⟨rfl, hb4⟩; have B4 := Lib.hid (below_step B3.out hb4); have Z4 := Lib.hid (Z3.out.below hb4 Z3.out.lt); have g4 := g3.out.below hb4 g3.out.lt; have d3 := g4.cell (j := 1) rfl; have d4 := g4.cell (j := 2) rfl; replace g4 := Lib.hid g4; clear hb4 d0 d1 d2)
                    | (go_at_call 143; (with_reducible refine (VA.out _).mono ?_); rintro x5 w5 ⟨rfl, hb5⟩; have B5 := Lib.hid (below_step B4.out hb5); have Z5 := Lib.hid (Z4.out.below hb5 Z4.out.lt); have d5 := (g4.out.below hb5 g4.out.lt).cell (j := 2) rfl; clear hb5)
                    | (refine wpList_store_row rfl 23 _ _ rfl w.heap.size _ [.string ⟨#[]⟩, .string ⟨#[]⟩, .int .i64 nv, .string Sc, .int .i64 mi] zeroS rfl rfl Z5.out rfl HZi.out (by simp [Value.oneCell']) ?_; intro wz hrz hoz; have RZ := Lib.hid hrz; have OZ := Lib.hid hoz; clear hrz hoz))
                  exact bodyPost_ret (v := .tuple #[.agg ([.string ⟨#[]⟩, .string ⟨#[]⟩, .int .i64 nv, .string Sc, .int .i64 mi] : List Value).toArray, .int .i64 m, .int .i64 0]) (results_cell_tmps Tryz.results136 _ wz ⟨w.heap.size, 0, none⟩ rfl (.agg ([.string ⟨#[]⟩, .string ⟨#[]⟩, .int .i64 nv, .string Sc, .int .i64 mi] : List Value).toArray) (.int .i64 m) (.int .i64 0) rfl rfl (run_loadVar_mid wz w.heap.size 0 23 [.string ⟨#[]⟩, .string ⟨#[]⟩, .int .i64 nv, .string Sc, .int .i64 mi] _ (rangeOf RZ.out) Tryz.underlying23 rfl HZi.out)) rfl ⟨by rw [HT.out, ← HSc.out]; rfl, OZ.out.below B5.out (Nat.le_refl _)⟩
          · have l3 : ((Sb.size : Int) == 3) = false := by rw [beq_eq_false_iff_ne]; omega
            have l3n : ((Sb.size : Int) != 3) = true := by rw [bne, l3]; rfl
            replace VA := Lib.hid VA
            have HT : Hid (R = (Sta.zero, 0, 10)) := Lib.hid (by rw [HQ.out, HC.out, HN.out]; rw [hm]; simp [hl3])
            go_enter Tryz.func136, Tryz.ntmps136
            go_wp2_with (first
              | (go_at_call 147; (with_reducible refine SL.out.mono ?_); rintro x2 w2 ⟨rfl, hb2⟩; have B2 := Lib.hid (below_step B1.out hb2); have Z2 := Lib.hid (Z1.out.below hb2 Z1.out.lt); clear hb2)
              | (go_at_call 148; (with_reducible refine (SP.out _ B2.out).mono ?_); rintro x3 w3 ⟨c9, hc9, rfl, hr3, hb3⟩; have B3 := Lib.hid (below_step B2.out hb3); have Z3 := Lib.hid (Z2.out.below hb3 Z2.out.lt); have d0 := hr3.cell (j := 0) rfl; have d1 := hr3.cell (j := 1) rfl; have d2 := hr3.cell (j := 2) rfl; have g3 : Hid (RowAt w3 w2.heap.size 9 [.string Sa, .string Sb, .string Sc]) := Lib.hid hr3; clear hr3 hb3)
              | (go_at_call 149; (with_reducible refine (MI.out _).mono ?_); rintro x6 w6 ⟨rfl, rfl⟩)
              | (go_at_call 135; (with_reducible refine (NU.out _).mono ?_); rintro x4 w4 ⟨rfl, hb4⟩; have B4 := Lib.hid (below_step B3.out hb4); have Z4 := Lib.hid (Z3.out.below hb4 Z3.out.lt); have g4 := g3.out.below hb4 g3.out.lt; have d3 := g4.cell (j := 1) rfl; have d4 := g4.cell (j := 2) rfl; replace g4 := Lib.hid g4; clear hb4 d0 d1 d2)
              | (refine wpList_store_row rfl 23 _ _ rfl w.heap.size _ zeroS zeroS rfl rfl Z4.out rfl HZi.out (by simp [zeroS, Value.oneCell']) ?_; intro wz hrz hoz; have RZ := Lib.hid hrz; have OZ := Lib.hid hoz; clear hrz hoz))
            exact bodyPost_ret (v := .tuple #[.agg (zeroS : List Value).toArray, .int .i64 0, .int .i64 10]) (results_cell_tmps Tryz.results136 _ wz ⟨w.heap.size, 0, none⟩ rfl (.agg (zeroS : List Value).toArray) (.int .i64 0) (.int .i64 10) rfl rfl (run_loadVar_mid wz w.heap.size 0 23 zeroS _ (rangeOf RZ.out) Tryz.underlying23 rfl HZi.out)) rfl ⟨by rw [HT.out]; rfl, OZ.out.below B4.out (Nat.le_refl _)⟩
        · have nen : (ne != 0) = true := by rw [bne_iff_ne]; exact hne
          replace VA := Lib.hid VA
          have HT : Hid (R = (Sta.zero, 0, 10)) := Lib.hid (by rw [HQ.out, HC.out, HN.out]; rw [hm]; simp [hne])
          go_enter Tryz.func136, Tryz.ntmps136
          go_wp2_with (first
            | (go_at_call 147; (with_reducible refine SL.out.mono ?_); rintro x2 w2 ⟨rfl, hb2⟩; have B2 := Lib.hid (below_step B1.out hb2); have Z2 := Lib.hid (Z1.out.below hb2 Z1.out.lt); clear hb2)
            | (go_at_call 148; (with_reducible refine (SP.out _ B2.out).mono ?_); rintro x3 w3 ⟨c9, hc9, rfl, hr3, hb3⟩; have B3 := Lib.hid (below_step B2.out hb3); have Z3 := Lib.hid (Z2.out.below hb3 Z2.out.lt); have d0 := hr3.cell (j := 0) rfl; have d1 := hr3.cell (j := 1) rfl; have d2 := hr3.cell (j := 2) rfl; have g3 : Hid (RowAt w3 w2.heap.size 9 [.string Sa, .string Sb, .string Sc]) := Lib.hid hr3; clear hr3 hb3)
            | (go_at_call 149; (with_reducible refine (MI.out _).mono ?_); rintro x6 w6 ⟨rfl, rfl⟩)
            | (go_at_call 135; (with_reducible refine (NU.out _).mono ?_); rintro x4 w4 ⟨rfl, hb4⟩; have B4 := Lib.hid (below_step B3.out hb4); have Z4 := Lib.hid (Z3.out.below hb4 Z3.out.lt); have g4 := g3.out.below hb4 g3.out.lt; have d3 := g4.cell (j := 1) rfl; have d4 := g4.cell (j := 2) rfl; replace g4 := Lib.hid g4; clear hb4 d0 d1 d2)
            | (refine wpList_store_row rfl 23 _ _ rfl w.heap.size _ zeroS zeroS rfl rfl Z4.out rfl HZi.out (by simp [zeroS, Value.oneCell']) ?_; intro wz hrz hoz; have RZ := Lib.hid hrz; have OZ := Lib.hid hoz; clear hrz hoz))
          exact bodyPost_ret (v := .tuple #[.agg (zeroS : List Value).toArray, .int .i64 0, .int .i64 10]) (results_cell_tmps Tryz.results136 _ wz ⟨w.heap.size, 0, none⟩ rfl (.agg (zeroS : List Value).toArray) (.int .i64 0) (.int .i64 10) rfl rfl (run_loadVar_mid wz w.heap.size 0 23 zeroS _ (rangeOf RZ.out) Tryz.underlying23 rfl HZi.out)) rfl ⟨by rw [HT.out]; rfl, OZ.out.below B4.out (Nat.le_refl _)⟩
    · have SP := Lib.hid (fun W (hW : Below w.heap.size w W) => SplitN3_no S W (shaped_below Hsh.out hW) (by omega) (by rw [hSd]; exact h3))
      have HT : Hid (R = (Sta.zero, 0, 10)) := Lib.hid (by
        rw [HQ.out]
        have hC : respC X = (Sta.zero, 10) := by unfold respC; rw [if_neg h3]
        rw [hC]; simp)
      clear hSd hSz hXl zX zY h3
      go_enter Tryz.func136, Tryz.ntmps136
      go_wp2_with (first
        | (go_at_call 147; (with_reducible refine SL.out.mono ?_); rintro x2 w2 ⟨rfl, hb2⟩; have B2 := Lib.hid (below_step B1.out hb2); have Z2 := Lib.hid (Z1.out.below hb2 Z1.out.lt); clear hb2)
        | (go_at_call 148; (with_reducible refine (SP.out _ B2.out).mono ?_); rintro x3 w3 ⟨k, c9, hk, rfl, hb3⟩; have p3 : ((k : Int) != 3) = true := (by rw [bne_iff_ne]; omega); have B3 := Lib.hid (below_step B2.out hb3); have Z3 := Lib.hid (Z2.out.below hb3 Z2.out.lt); clear hb3 hk)
        | (refine wpList_store_row rfl 23 _ _ rfl w.heap.size _ zeroS zeroS rfl rfl Z3.out rfl HZi.out (by simp [zeroS, Value.oneCell']) ?_; intro wz hrz hoz; have RZ := Lib.hid hrz; have OZ := Lib.hid hoz; clear hrz hoz))
      exact bodyPost_ret (v := .tuple #[.agg (zeroS : List Value).toArray, .int .i64 0, .int .i64 10]) (results_cell_tmps Tryz.results136 _ wz ⟨w.heap.size, 0, none⟩ rfl (.agg (zeroS : List Value).toArray) (.int .i64 0) (.int .i64 10) rfl rfl (run_loadVar_mid wz w.heap.size 0 23 zeroS _ (rangeOf RZ.out) Tryz.underlying23 rfl HZi.out)) rfl ⟨by rw [HT.out]; rfl, OZ.out.below B3.out (Nat.le_refl _)⟩
end Go.Proofs.YtniiadhhefgmcaaGreatDoor

/- Walks of layer 6: a request's first line, by the document. Condition: at most 10^9 octets. -/
namespace Go.Proofs.YtniiadhhefgmcaaGreatDoor
open Go.RowKit IH
set_option maxRecDepth 100000
end Go.Proofs.YtniiadhhefgmcaaGreatDoor

/- Walks of layer 6: a response's first line, by the document. Condition: at most 10^9 octets. -/
namespace Go.Proofs.YtniiadhhefgmcaaGreatDoor
open Go.RowKit IH
set_option maxRecDepth 100000
end Go.Proofs.YtniiadhhefgmcaaGreatDoor

