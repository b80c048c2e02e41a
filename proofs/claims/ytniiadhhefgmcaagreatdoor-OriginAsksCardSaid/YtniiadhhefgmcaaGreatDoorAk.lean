/- Ak: several texts, one behind the other. -/
import Derived.Test.YtniiadhhefgmcaaGreatDoorFq
import Derived.Test.YtniiadhhefgmcaaGreatDoorOz
import Derived.Test.YtniiadhhefgmcaaGreatDoorRs
import Derived.Test.YtniiadhhefgmcaaGreatDoorTk
import Derived.Test.YtniiadhhefgmcaaGreatDoorMk
import Derived.Test.YtniiadhhefgmcaaGreatDoorMz
import Derived.Test.YtniiadhhefgmcaaGreatDoorOct6
import Derived.Test.YtniiadhhefgmcaaGreatDoorSg
import Derived.Test.YtniiadhhefgmcaaGreatDoorSm
import Derived.Test.YtniiadhhefgmcaaGreatDoorKt
/- Layer 23's small functions: numbers as texts, names, a body's length as a field, reasons; slices.Clone at octets. Conditions: as each states. -/
namespace IH
def clF (n : Nat) : Fld := ([67, 111, 110, 116, 101, 110, 116, 45, 76, 101, 110, 103, 116, 104], printN n 10)
end IH
namespace Go.Proofs.YtniiadhhefgmcaaGreatDoor
open Go.RowKit IH
set_option maxRecDepth 100000
theorem one2 (x y : Value) (h : x.oneCell' = true) (k : y.oneCell' = true) : ∀ u ∈ [x, y], u.oneCell' = true := by
  intro u hu
  simp only [List.mem_cons, List.not_mem_nil, or_false] at hu
  rcases hu with e | e <;> rw [e] <;> assumption
theorem number_any (n : Int) (h0 : -9223372036854775808 ≤ n) (h1 : n ≤ 9223372036854775807) (w : World) :
    Calls Tryz.prog 48 #[.int .i64 n] w fun e w' => e = .returned (.string ⟨(printN n 10).toArray⟩) ∧ Below w.heap.size w w' := by
  have PR := Lib.hid (Print_any n 10 h0 h1 w)
  go_enter Tryz.func48, Tryz.ntmps48
  go_wp2_with (go_at_call 89; (with_reducible refine PR.out.mono ?_); rintro e w2 ⟨rfl, nq, rfl⟩)
  go_ret
  exact ⟨rfl, below_drewN (Below.refl _ _) nq⟩
theorem digits_any (n : Int) (h1 : n ≤ 9223372036854775807) (w : World) :
    Calls Tryz.prog 55 #[.int .i64 n] w fun e w' => e = .returned (.string ⟨(printN n 10).toArray⟩) ∧ Below w.heap.size w w' := by
  have PR := Lib.hid (refPrint_any n 10 h1 w)
  go_enter Tryz.func55, Tryz.ntmps55
  go_wp2_with (go_at_call 87; (with_reducible refine PR.out.mono ?_); rintro e w2 ⟨rfl, hb2⟩; have B2 := Lib.hid hb2; clear hb2)
  go_ret
  exact ⟨rfl, B2.out⟩
theorem length_any (A : Option Addr) (n c : Nat) (hn : n ≤ 9223372036854775807) (w : World) :
    Calls Tryz.prog 58 #[.slice A n c] w fun e w' => e = .returned (.agg (fldCells (clF n)).toArray) ∧ Below w.heap.size w w' := by
  have HFi : Hid ((Tryz.prog.info? 74).map (·.size) = some 2) := Lib.hid (by kernel_rfl)
  obtain ⟨w1, hw1⟩ : ∃ W : World, w.alloc (.cells #[.string ⟨#[]⟩, .string ⟨#[]⟩] 74) = W := ⟨_, rfl⟩
  have B1 : Hid (Below w.heap.size w w1) := Lib.hid (by rw [← hw1]; exact (Below.refl _ _).alloc (Nat.le_refl _) _)
  have Z1 : Hid (RowAt w1 w.heap.size 74 [.string ⟨#[]⟩, .string ⟨#[]⟩]) := Lib.hid (by rw [← hw1]; exact RowAt.new w 74 _)
  have DG := Lib.hid (digits_any n (by omega) w1)
  obtain ⟨D, hD⟩ : ∃ D : ByteArray, (⟨(printN n 10).toArray⟩ : ByteArray) = D := ⟨_, rfl⟩
  rw [hD] at DG
  have HD := Lib.hid hD
  clear hD
  go_enter Tryz.func58, Tryz.ntmps58
  go_wp2_with (first
    | (go_at_call 55; (with_reducible refine DG.out.mono ?_); rintro e w2 ⟨rfl, hb2⟩; have B2 := Lib.hid (below_step B1.out hb2); have Z2 := Lib.hid (Z1.out.below hb2 Z1.out.lt); clear hb2)
    | (refine wpList_store_row rfl 74 _ _ rfl w.heap.size _ [.string ⟨#[67, 111, 110, 116, 101, 110, 116, 45, 76, 101, 110, 103, 116, 104]⟩, .string D] [.string ⟨#[]⟩, .string ⟨#[]⟩] rfl rfl Z2.out rfl HFi.out (by simp [Value.oneCell']) ?_; intro wz hrz hoz; have RZ := Lib.hid hrz; have OZ := Lib.hid hoz; clear hrz hoz))
  refine bodyPost_ret (v := .agg #[.string ⟨#[67, 111, 110, 116, 101, 110, 116, 45, 76, 101, 110, 103, 116, 104]⟩, .string D]) (results_cell Tryz.results58 _ wz ⟨w.heap.size, 0, none⟩ rfl _ (run_loadVar_mid wz w.heap.size 0 74 _ _ (rangeOf RZ.out) Tryz.underlying74 rfl HFi.out)) rfl ?_
  exact ⟨by rw [← HD.out]; rfl, OZ.out.below B2.out (Nat.le_refl _)⟩
set_option maxHeartbeats 4000000 in
theorem names_any (A : Option Addr) (n c : Nat) (L : List Fld) (w : World) (hin : SliceIn w w.heap.size 2 A n c (fldsV L)) (hs : n ≤ 1000000) :
    Calls Tryz.prog 52 #[.slice A n c] w fun e w' => ∃ v, e = .returned v ∧ w'.ownsRow w.heap.size 9 1 v L.length (strsV (L.map (·.1))) ∧ Below w.heap.size w w' := by
  have hL := fld_count hin
  go_enter Tryz.func52, Tryz.ntmps52
  go_wp2
  go_loopw [3, 8] (fun v i wr => ∃ k : Nat, k ≤ n ∧ i = .int .i64 k ∧ wr.ownsRow w.heap.size 9 1 v k (strsV ((L.take k).map (·.1))) ∧ Below w.heap.size w wr) (fun _ i _ => n - (intOf i).toNat)
  case atStart => exact ⟨0, by omega, rfl, by simpa [strsV] using World.ownsRow_nil _ _ _ _, Below.refl _ _⟩
  case round =>
    obtain ⟨k, hk, rfl, hrow, hbel⟩ := hrel
    have Hrow := Lib.hid hrow; clear hrow
    by_cases hlt : k < n
    · obtain ⟨f, hf⟩ : ∃ f, L[k]? = some f := ⟨_, List.getElem?_eq_getElem (by omega)⟩
      obtain ⟨b, off, rfl, hb, c0, c1⟩ := fld_at (hin.below hbel) hf
      have hsn : (L.take (k + 1)).map (·.1) = (L.take k).map (·.1) ++ [f.1] := by rw [List.take_add_one, hf]; simp
      have Hsn := Lib.hid hsn
      clear hsn hf
      obtain ⟨X, hX⟩ : ∃ X : ByteArray, (⟨f.1.toArray⟩ : ByteArray) = X := ⟨_, rfl⟩
      obtain ⟨Y, hY⟩ : ∃ Y : ByteArray, (⟨f.2.toArray⟩ : ByteArray) = Y := ⟨_, rfl⟩
      rw [hX] at c0
      rw [hY] at c1
      have HX := Lib.hid hX
      have Hrow2 := Lib.hid ((Hrow.out.alloc (.cells #[.string X, .string Y] 74)))
      have hbel2 := hbel.alloc hbel.size (.cells #[.string X, .string Y] 74)
      have hB2 := hbel2.size
      clear hX hY
      go_wp2_with (at_builtin; refine wpList_app2 str_ty rfl _ _ rfl w.heap.size _ _ _ rfl Hrow2.out 1 1 _ _ rfl (by simp) (by rfl) (one1 _ rfl) (by omega) (by simp only [maxLen]; omega) hB2 ?_; intro v' w3 hown' hgr)
      go_roundw
      case rel =>
        refine ⟨k + 1, by omega, by go_num, ?_, hbel2.grown hgr hB2 (fun g hg => (Hrow2.out.lt g hg).1)⟩
        rw [Hsn.out, strsV_append]
        rw [← HX.out] at hown'
        exact hown'
      case measure => simp [intOf]; omega
    · obtain rfl : k = n := by omega
      have e : L.take k = L := List.take_of_length_le (by omega)
      rw [e] at Hrow
      clear e
      go_wp2
      go_ret
      exact ⟨_, rfl, own_count Hrow.out hL.symm, hbel⟩
set_option maxHeartbeats 4000000 in
theorem sized_any (base : Nat) (v : Value) (L : List Fld) (A : Option Addr) (n c : Nat) (hn : n ≤ 9223372036854775807) (hL : L.length ≤ 1000000) (w : World) (hb : base ≤ w.heap.size) (h : w.ownsRow base 74 2 v L.length (fldsV L)) :
    Calls Tryz.prog 54 #[v, .slice A n c] w fun e w' => ∃ v', e = .returned v' ∧ w'.ownsRow base 74 2 v' (L.length + 1) (fldsV (L ++ [clF n])) ∧ Below base w w' ∧ ∀ k, k < w.heap.size → v.ownBlock ≠ some k → w'.heap[k]? = w.heap[k]? := by
  obtain ⟨Av, cv, rfl, -⟩ := own_slice h
  have NM := Lib.hid (number_any n (by omega) (by omega) w)
  obtain ⟨D, hD⟩ : ∃ D : ByteArray, (⟨(printN n 10).toArray⟩ : ByteArray) = D := ⟨_, rfl⟩
  rw [hD] at NM
  have HD := Lib.hid hD
  have H := Lib.hid h
  clear hD h
  go_enter Tryz.func54, Tryz.ntmps54
  go_wp2_with (first
    | (go_at_call 48; (with_reducible refine NM.out.mono ?_); rintro e w2 ⟨rfl, hb2⟩; have B2 := Lib.hid hb2; have O2 := Lib.hid (own_below H.out hb2); clear hb2)
    | (at_builtin; refine wpList_app fld_ty rfl _ _ rfl base _ L.length (fldsV L) rfl O2.out 1 1 _ rfl (by rfl) (one2 _ _ rfl rfl) (by omega) (by simp only [maxLen]; omega) (Nat.le_trans hb B2.out.size) ?_; intro v' w3 hown' hgr; have O3 := Lib.hid hown'; have G3 := Lib.hid hgr; clear hown' hgr))
  go_ret
  refine ⟨_, rfl, ?_, (B2.out.mono hb).grown G3.out (Nat.le_trans hb B2.out.size) (fun g hg => (O2.out.lt g hg).1), fun k hk hne => ?_⟩
  · have h := O3.out
    rw [← HD.out] at h
    rw [fldsV_append]
    exact h
  · exact (G3.out.block k (Nat.lt_of_lt_of_le hk B2.out.size) (fun e => hne e.symm)).trans (B2.out.block k hk)
set_option maxHeartbeats 1000000 in
theorem cloneB_any (A : Option Addr) (n c : Nat) (L : List UInt8) (w : World) (hin : SliceIn w w.heap.size 1 A n c (bytesV L)) (hs : n ≤ 100000000) :
    Calls Tryz.prog 49 #[.slice A n c] w fun e w' => ∃ v, e = .returned v ∧ w'.ownsRow w.heap.size 5 1 v L.length (bytesV L) ∧ Below w.heap.size w w' := by
  have hL : L.length = n := by have := hin.1; rw [bytesV_length] at this; omega
  rcases A with _ | a
  · have h0 : n = 0 := by
      rcases Nat.eq_zero_or_pos n with h | h
      · exact h
      · obtain ⟨b, off, h1, _⟩ := hin.2.2.2 h; cases h1
    subst h0
    obtain rfl : L = [] := List.eq_nil_of_length_eq_zero hL
    clear hL
    have hq := fun w => eql_slice_nil (P := Tryz.prog) w 25 5 none 0 c Tryz.underlying25
    go_enter Tryz.func49, Tryz.ntmps49
    go_wp2
    go_ret
    exact ⟨_, rfl, by simpa [bytesV] using World.ownsRow_nil _ _ _ _, Below.refl _ _⟩
  · subst hL
    have hown := World.ownsRow_lit (base := w.heap.size) (e := 5) (size := 1) w #[] 0 (Nat.le_refl _) (by simp [maxLen]) rfl
    have hin2 := hin.alloc (Nat.le_refl _) (.cells #[] 5)
    have Hown := Lib.hid hown
    have Hin2 := Lib.hid hin2
    clear hown hin2 hin
    have hq := fun w => eql_slice_nil (P := Tryz.prog) w 25 5 (some a) L.length c Tryz.underlying25
    go_enter Tryz.func49, Tryz.ntmps49
    go_wp2_with (at_builtin; refine wpList_appS u8_ty rfl _ _ rfl w.heap.size _ 0 [] rfl Hown.out w.heap.size (some a) L.length c (bytesV L) rfl Hin2.out (bytesV_one L) (by omega) (by simp only [maxLen]; omega) (by simp) ?_; intro v' w3 hown' hgr)
    go_ret
    refine ⟨_, rfl, ?_, ((Below.refl _ _).alloc (Nat.le_refl _) _).grown hgr (by simp) (fun g hg => (Hown.out.lt g hg).1)⟩
    simpa using hown'
end Go.Proofs.YtniiadhhefgmcaaGreatDoor

/- slices.Grow of nothing, and slices.Concat, at fields. Conditions: at most 10^6 fields together. Printed by mkask2.py out of Ccat's text. -/
namespace Go.Proofs.YtniiadhhefgmcaaGreatDoor
open Go.RowKit IH
set_option maxRecDepth 100000
def totF (L : List (List Fld)) : Nat := (L.map List.length).sum
/-- Each cell is a slice that reads as a list of fields. -/
def PiecesF (w : World) (B : Nat) (L : List (List Fld)) (V : List Value) : Prop :=
  V.length = L.length ∧ ∀ (i : Nat) (l : List Fld), L[i]? = some l → ∃ (A : Option Addr) (n c : Nat), V[i]? = some (Value.slice A n c) ∧ SliceIn w B 2 A n c (fldsV l)
section
variable {w w' : World} {B B' : Nat} {L : List (List Fld)} {V : List Value}
theorem PiecesF.keep (h : PiecesF w B L V) (hk : ∀ p : Addr, p.block < B → w'.cell? p = w.cell? p) : PiecesF w' B L V :=
  ⟨h.1, fun i l hl => by obtain ⟨A, n, c, h1, h2⟩ := h.2 i l hl; exact ⟨A, n, c, h1, h2.keep hk⟩⟩
theorem PiecesF.below (h : PiecesF w B L V) (hb : Below B w w') : PiecesF w' B L V := h.keep fun _ hp => hb.cell hp
theorem PiecesF.more (h : PiecesF w B L V) (hB : B ≤ B') : PiecesF w B' L V :=
  ⟨h.1, fun i l hl => by obtain ⟨A, n, c, h1, h2⟩ := h.2 i l hl; exact ⟨A, n, c, h1, h2.more hB⟩⟩
end
theorem pieceF_at {w : World} {B n c : Nat} {A : Option Addr} {L : List (List Fld)} {V : List Value} (hin : SliceIn w B 1 A n c V) (hR : PiecesF w B L V) {k : Nat} {p : List Fld} (hk : L[k]? = some p) :
    ∃ (b off : Nat) (A' : Option Addr) (c' : Nat), A = some ⟨b, off, none⟩ ∧ b < B ∧ w.cell? ⟨b, off + k, none⟩ = some (.slice A' p.length c') ∧ SliceIn w B 2 A' p.length c' (fldsV p) := by
  obtain ⟨A', n', c', hV, hs⟩ := hR.2 k p hk
  have hkV := (List.getElem?_eq_some_iff.1 hV).1
  have hl : p.length = n' := by have := hs.1; rw [fldsV_length] at this; omega
  subst hl
  have h1 := hin.1
  obtain ⟨b, off, e, hb, hc⟩ := hin.2.2.2 (by omega)
  exact ⟨b, off, A', c', e, hb, hc k _ hV, hs⟩
theorem totF_take (L : List (List Fld)) (k : Nat) : totF (L.take k) ≤ totF L := by
  induction L generalizing k with
  | nil => simp [totF]
  | cons a L ih =>
    cases k with
    | zero => simp [totF]
    | succ k =>
      have := ih k
      have e : totF (a :: L) = a.length + totF L := by simp [totF]
      have e2 : totF (a :: L.take k) = a.length + totF (L.take k) := by simp [totF]
      rw [List.take_succ_cons, e, e2]; omega
theorem totF_get {L : List (List Fld)} {k : Nat} {p : List Fld} (h : L[k]? = some p) : p.length ≤ totF L := by
  induction L generalizing k with
  | nil => simp at h
  | cons a L ih =>
    have e : totF (a :: L) = a.length + totF L := by simp [totF]
    cases k with
    | zero => simp only [List.getElem?_cons_zero, Option.some.injEq] at h; subst h; omega
    | succ k => simp only [List.getElem?_cons_succ] at h; have := ih h; omega
theorem wpList_append_zerosF {P : Program} {w : World} {ops : Array Oper} {rest : List Oper} {o : Oper} {a : Act} {Q : Exit → Act → World → Prop} {t u e : TypeId} (hgd : o.guard = none) (s x : Operand) (ho : o.op = .call { callee := .builtin .append, args := #[s, x], argTypes := #[t, u] })
    (ht : P.underlying t = some (.slice e)) (hu : P.underlying u = some (.int .i64)) (hie : (P.info? e).map (fun i => (i.zero, i.size, i.bytes)) = some (some (.agg #[.string ⟨#[]⟩, .string ⟨#[]⟩]), 2, 32)) (n : Nat) (h0 : 0 < n) (hn : n ≤ 1000000) (hs : a.eval s = .slice none 0 0) (hx : a.eval x = .int .i64 n)
    (h : ∀ g cap w', w'.ownsRow w.heap.size e 2 (.slice (some ⟨g, 0, none⟩) 0 cap) 0 [] → n ≤ cap → cap ≤ maxLen → Below w.heap.size w w' → wpList P ops Q rest (a.put o.dst (.slice (some ⟨g, 0, none⟩) n cap)) w') : wpList P ops Q (o :: rest) a w := by
  obtain ⟨i, hi, hz, hsz, hby⟩ := info_parts hie
  have hge := grownCap_ge w n 0 e
  have hcm : grownCap w n 0 e ≤ maxLen := grownCap_le_maxLen w n 0 e (by simp only [maxLen]; omega)
  have hw : IntKind.i64.wrap (n : Int) = (n : Int) := IntWalk.i64_in _ ⟨by omega, by omega⟩
  have h1 : ¬ ((n : Int) < 0) := by omega
  have h2 : ¬ (281474976710656 < (n : Int) * 32) := by omega
  have h4 : ¬ (9223372036854775807 < (n : Int)) := by omega
  have h5 : ¬ (281474976710656 < Builtin.nextslicecap n 0 * 32) := by rw [nextslicecap_zero h0]; omega
  have h6 : n ≠ 0 := by omega
  have h7 : ¬ (n * 2 = 0) := by omega
  have hrun : ∃ cur : Array Value, cur.size = grownCap w n 0 e * 2 ∧ (Builtin.append_ #[t, u] o.type #[.slice none 0 0, .int .i64 n]).run P w = .ok (.slice (some ⟨w.heap.size, 0, none⟩) n (grownCap w n 0 e)) (w.drew.alloc (.cells cur e)) := by
    refine ⟨Builtin.zeroCells (Value.agg #[.string ⟨#[]⟩, .string ⟨#[]⟩]).cells n ++ Builtin.zeroCells (Value.agg #[.string ⟨#[]⟩, .string ⟨#[]⟩]).cells (grownCap w n 0 e - n), ?_, ?_⟩
    · have hz1 : (Value.agg #[.string ⟨#[]⟩, .string ⟨#[]⟩]).cells.size = 2 := rfl
      simp only [Array.size_append, size_zeroCells, hz1]
      omega
    · simp [Builtin.append_, run_underlying ht, run_underlying hu, sizeOf, typeInfo, zeroValue, hi, hz, hsz, hby, hw, h1, h2, h4, h5, h6, h7, asInt, asIntOf, Question.forced, run_firstCells_none, newRow, grownCap]
  obtain ⟨cur, hcur, hrun⟩ := hrun
  refine wpList_plain hgd fun K hK => ?_
  unfold Oper.wp execOp
  simp only [ho, resolve, invoke, builtin, Sem.run_bind, Sem.run_pure, Result.andThen_ok, List.map_toArray, List.map_cons, List.map_nil, hs, hx, hrun]
  exact hK _ _ (h _ _ _ (World.ownsRow_made (base := w.heap.size) w.drew cur _ (Nat.le_refl _) hcm hcur) hge hcm ((below_drewN (Below.refl _ _) 1).alloc (Nat.le_refl _) _))
theorem totF_snoc {L : List (List Fld)} {k : Nat} {p : List Fld} (h : L[k]? = some p) : totF (L.take (k + 1)) = totF (L.take k) + p.length := by
  rw [List.take_add_one, h]
  simp [totF]
theorem flatF_snoc {L : List (List Fld)} {k : Nat} {p : List Fld} (h : L[k]? = some p) : (L.take (k + 1)).flatten = (L.take k).flatten ++ p := by
  rw [List.take_add_one, h]; simp
theorem flatF_len (L : List (List Fld)) : L.flatten.length = totF L := by simp [totF, List.length_flatten]
set_option maxHeartbeats 4000000 in
theorem growF_any (n : Nat) (hn : n ≤ 1000000) (w : World) :
    Calls Tryz.prog 96 #[.slice none 0 0, .int .i64 n] w fun e w' => ∃ v, e = .returned v ∧ w'.ownsRow w.heap.size 74 2 v 0 [] ∧ Below w.heap.size w w' := by
  have h1 : ¬ ((n : Int) < 0) := by omega
  have hw : IntKind.i64.wrap (n : Int) = (n : Int) := IntWalk.i64_in _ ⟨by omega, by omega⟩
  by_cases h0 : n = 0
  · subst h0
    go_enter Tryz.func96, Tryz.ntmps96
    go_wp2
    go_ret
    exact ⟨_, rfl, World.ownsRow_nil _ _ _ _, Below.refl _ _⟩
  · have h0' : 0 < n := by omega
    have h0I : (0 : Int) < (n : Int) := by omega
    have H0 := Lib.hid h0'
    clear h0 h0'
    go_enter Tryz.func96, Tryz.ntmps96
    go_wp2_with (at_builtin; refine wpList_append_zerosF rfl _ _ rfl Tryz.underlying24 Tryz.underlying3 (by kernel_rfl) n H0.out hn rfl rfl ?_; intro g cap w2 hown hnc hcm hb2; have O2 := Lib.hid hown; have B2 := Lib.hid hb2; have z1 : (0 : Int) ≤ (cap : Int) := (by omega); clear hown hb2)
    go_ret
    exact ⟨_, rfl, O2.out, B2.out⟩
set_option maxHeartbeats 8000000 in
theorem concatF_any (A : Option Addr) (n c : Nat) (L : List (List Fld)) (V : List Value) (w : World) (hin : SliceIn w w.heap.size 1 A n c V) (hR : PiecesF w w.heap.size L V) (hn : n ≤ 1000000) (ht : totF L ≤ 1000000) :
    Calls Tryz.prog 53 #[.slice A n c] w fun e w' => ∃ v, e = .returned v ∧ w'.ownsRow w.heap.size 74 2 v L.flatten.length (fldsV L.flatten) ∧ Below w.heap.size w w' := by
  have hL : L.length = n := by have h1 := hin.1; have h2 := hR.1; omega
  have hnc := hin.2.1
  have GR := Lib.hid (growF_any (totF L) (by omega) w)
  have Hin := Lib.hid hin
  have HR := Lib.hid hR
  have HL := Lib.hid hL
  have HT := Lib.hid ht
  clear hin hR hL ht
  go_enter Tryz.func53, Tryz.ntmps53
  go_wp2
  go_loopw [3, 11] (fun sz i wr => ∃ k : Nat, i = .int .i64 k ∧ k ≤ n ∧ sz = .int .i64 (totF (L.take k)) ∧ w = wr) (fun _ i _ => n - (intOf i).toNat)
  case atStart => exact ⟨0, rfl, by omega, by simp [totF], by first | rfl | trivial⟩
  case round =>
    obtain ⟨k, rfl, hk, rfl, hwr⟩ := hrel
    subst hwr
    have htk := totF_take L k
    by_cases hlt : k < n
    · obtain ⟨p, hp⟩ : ∃ p, L[k]? = some p := ⟨_, List.getElem?_eq_getElem (by rw [HL.out]; exact hlt)⟩
      obtain ⟨b, off, A', c', rfl, hb, hcell, hs⟩ := pieceF_at Hin.out HR.out hp
      have hsn := totF_snoc hp
      have htk2 := totF_take L (k + 1)
      have HN := Lib.hid hsn
      obtain ⟨tk, htkE⟩ : ∃ x, totF (L.take k) = x := ⟨_, rfl⟩
      obtain ⟨pl, hpl⟩ : ∃ x, p.length = x := ⟨_, rfl⟩
      have hsm : tk + pl ≤ 1000000 := by have := HT.out; omega
      rw [htkE, hpl] at HN
      rw [hpl] at hcell
      rw [htkE]
      have hadd : IntKind.i64.wrap ((tk : Int) + (pl : Int)) = (tk : Int) + (pl : Int) := IntWalk.i64_in _ ⟨by omega, by omega⟩
      have hneg : ¬ ((tk : Int) + (pl : Int) < 0) := by omega
      clear hsn hp hs hb htk htk2 htkE hpl
      go_wp2
      go_roundw
      case rel => exact ⟨k + 1, by go_num, by omega, by rw [HN.out]; go_num, by first | rfl | trivial⟩
      case measure => simp [intOf]; omega
    · obtain rfl : k = n := by omega
      rw [List.take_of_length_le (by rw [HL.out]; exact Nat.le_refl _)]
      clear hlt htk
      go_wp2_with (go_at_call 96; (with_reducible refine GR.out.mono ?_); rintro e w2 ⟨v2, rfl, ho2, hb2⟩; have O2 := Lib.hid ho2; have B2 := Lib.hid hb2; clear ho2 hb2)
      go_loopw [6, 27] (fun v i wr => ∃ k' : Nat, i = .int .i64 k' ∧ k' ≤ k ∧ wr.ownsRow w.heap.size 74 2 v (L.take k').flatten.length (fldsV (L.take k').flatten) ∧ Below w.heap.size w wr) (fun _ i _ => k - (intOf i).toNat)
      case atStart => exact ⟨0, rfl, by omega, by simpa [fldsV] using O2.out, B2.out⟩
      case round =>
        obtain ⟨j, rfl, hj, hown, hbel⟩ := hrel
        have Hown := Lib.hid hown
        have Hbel := Lib.hid hbel
        have hlen : (L.take j).flatten.length ≤ 1000000 := by rw [flatF_len]; have := totF_take L j; have := HT.out; omega
        have hB0 := Hbel.out.size
        clear hown hbel
        by_cases hlt : j < k
        · obtain ⟨p, hp⟩ : ∃ p, L[j]? = some p := ⟨_, List.getElem?_eq_getElem (by rw [HL.out]; exact hlt)⟩
          obtain ⟨b, off, A', c', rfl, hb, hcell, hs⟩ := pieceF_at (Hin.out.below Hbel.out) (HR.out.below Hbel.out) hp
          have hsn := flatF_snoc hp
          have hpl := totF_get hp
          have hpb : p.length ≤ 1000000 := by have := HT.out; omega
          have HS := Lib.hid hs
          have HN := Lib.hid hsn
          obtain ⟨O, hO⟩ : ∃ O, (L.take j).flatten = O := ⟨_, rfl⟩
          rw [hO] at Hown hlen HN
          clear hsn hpl hs hb hO
          obtain ⟨pn, hpn⟩ : ∃ pn, p.length = pn := ⟨_, rfl⟩
          rw [hpn] at HS hcell hpb
          have HE := Lib.hid (show O.length + pn = (O ++ p).length by rw [← hpn]; exact List.length_append.symm)
          clear hpn
          go_wp2_with (at_builtin; refine wpList_appS fld_ty rfl _ _ rfl w.heap.size _ _ _ rfl Hown.out w.heap.size _ _ _ _ rfl HS.out (fldsV_one _) (by omega) (by simp only [maxLen]; omega) hB0 ?_; intro v4 w4 hown4 hgr4; rw [← fldsV_append] at hown4; have O4 := Lib.hid (own_count hown4 HE.out); have B4 := Lib.hid (Hbel.out.grown hgr4 hB0 (fun g hg => (Hown.out.lt g hg).1)); clear hown4 hgr4)
          go_roundw
          case rel =>
            refine ⟨j + 1, by go_num, by omega, ?_, B4.out⟩
            rw [HN.out]
            exact O4.out
          case measure => simp [intOf]; omega
        · obtain rfl : j = k := by omega
          rw [List.take_of_length_le (by rw [HL.out]; exact Nat.le_refl _)] at Hown
          clear hlt
          go_wp2
          go_ret
          exact ⟨_, rfl, Hown.out, Hbel.out⟩
end Go.Proofs.YtniiadhhefgmcaaGreatDoor

/- Layer 11's Pass, both ways: fields without those of a hop. Conditions: the fields within their bounds. Printed by mkask3.py. -/
namespace IH
def connN : List UInt8 := [99, 111, 110, 110, 101, 99, 116, 105, 111, 110]
def hopN : List (List UInt8) := [[99, 111, 110, 110, 101, 99, 116, 105, 111, 110], [107, 101, 101, 112, 45, 97, 108, 105, 118, 101], [112, 114, 111, 120, 121, 45, 97, 117, 116, 104, 101, 110, 116, 105, 99, 97, 116, 101], [112, 114, 111, 120, 121, 45, 97, 117, 116, 104, 111, 114, 105, 122, 97, 116, 105, 111, 110], [112, 114, 111, 120, 121, 45, 99, 111, 110, 110, 101, 99, 116, 105, 111, 110], [116, 101], [116, 114, 97, 105, 108, 101, 114], [116, 114, 97, 110, 115, 102, 101, 114, 45, 101, 110, 99, 111, 100, 105, 110, 103], [117, 112, 103, 114, 97, 100, 101]]
def passL (fs : List Fld) : List Fld := withoutL fs (hopN ++ splitL (getL fs connN))
theorem without_snoc (fs : List Fld) (a b : List (List UInt8)) : withoutL (withoutL fs a) b = withoutL fs (a ++ b) := by
  unfold withoutL
  rw [List.filter_filter]
  congr 1
  funext f
  rw [List.any_append, Bool.not_or, Bool.and_comm]
theorem without_nil (fs : List Fld) : withoutL fs [] = fs := by simp [withoutL]
end IH
namespace Go.Proofs.YtniiadhhefgmcaaGreatDoor
open Go.RowKit IH
set_option maxRecDepth 100000
theorem FldB.without {L : List Fld} {n : Nat} (h : FldB L n) (hn : n = L.length) (N : List (List UInt8)) : FldB (withoutL L N) (withoutL L N).length := by
  refine ⟨by have := without_length_le L N; have := h.n; omega, without_small N h.f, ?_⟩
  have hz := h.z
  have : ∀ l : List Fld, sizeL (withoutL l N) ≤ sizeL l := by
    intro l
    induction l with
    | nil => exact Nat.le_refl _
    | cons a l ih =>
      unfold withoutL
      rw [List.filter_cons]
      split
      · rw [sizeL_cons, sizeL_cons]
        have : sizeL (List.filter (fun f => !N.any fun n => isN f n) l) ≤ sizeL l := ih
        omega
      · rw [sizeL_cons]
        have : sizeL (List.filter (fun f => !N.any fun n => isN f n) l) ≤ sizeL l := ih
        omega
  have := this L
  omega
theorem hop_small {L : List Fld} {n : Nat} (h : FldB L n) : smallS 1000000000 (hopN ++ splitL (getL L connN)) := by
  intro x hx
  rcases List.mem_append.1 hx with h1 | h1
  · have : ∀ y ∈ hopN, y.length ≤ 1000000000 := by decide
    exact this x h1
  · exact h.split h1
set_option maxHeartbeats 8000000 in
theorem pass_any (A : Option Addr) (n c : Nat) (L : List Fld) (w : World) (hin : SliceIn w w.heap.size 2 A n c (fldsV L)) (hb : FldB L n) (hS : (splitL (getL L connN)).length ≤ 900000) :
    Calls Tryz.prog 51 #[.slice A n c] w fun e w' => ∃ v, e = .returned v ∧ w'.ownsRow w.heap.size 74 2 v (passL L).length (fldsV (passL L)) ∧ Below w.heap.size w w' := by
  obtain ⟨w1, hw1⟩ : ∃ W : World, w.alloc (.cells #[.string ⟨#[99, 111, 110, 110, 101, 99, 116, 105, 111, 110]⟩, .string ⟨#[107, 101, 101, 112, 45, 97, 108, 105, 118, 101]⟩, .string ⟨#[112, 114, 111, 120, 121, 45, 97, 117, 116, 104, 101, 110, 116, 105, 99, 97, 116, 101]⟩, .string ⟨#[112, 114, 111, 120, 121, 45, 97, 117, 116, 104, 111, 114, 105, 122, 97, 116, 105, 111, 110]⟩, .string ⟨#[112, 114, 111, 120, 121, 45, 99, 111, 110, 110, 101, 99, 116, 105, 111, 110]⟩, .string ⟨#[116, 101]⟩, .string ⟨#[116, 114, 97, 105, 108, 101, 114]⟩, .string ⟨#[116, 114, 97, 110, 115, 102, 101, 114, 45, 101, 110, 99, 111, 100, 105, 110, 103]⟩, .string ⟨#[117, 112, 103, 114, 97, 100, 101]⟩] 9) = W := ⟨_, rfl⟩
  have B1 : Hid (Below w.heap.size w w1) := Lib.hid (by rw [← hw1]; exact (Below.refl _ _).alloc (Nat.le_refl _) _)
  have O1 : Hid (w1.ownsRow w.heap.size 9 1 (.slice (some ⟨w.heap.size, 0, none⟩) 9 9) 9 (strsV hopN)) := Lib.hid (by rw [← hw1]; exact World.ownsRow_lit (base := w.heap.size) (e := 9) (size := 1) w #[.string ⟨#[99, 111, 110, 110, 101, 99, 116, 105, 111, 110]⟩, .string ⟨#[107, 101, 101, 112, 45, 97, 108, 105, 118, 101]⟩, .string ⟨#[112, 114, 111, 120, 121, 45, 97, 117, 116, 104, 101, 110, 116, 105, 99, 97, 116, 101]⟩, .string ⟨#[112, 114, 111, 120, 121, 45, 97, 117, 116, 104, 111, 114, 105, 122, 97, 116, 105, 111, 110]⟩, .string ⟨#[112, 114, 111, 120, 121, 45, 99, 111, 110, 110, 101, 99, 116, 105, 111, 110]⟩, .string ⟨#[116, 101]⟩, .string ⟨#[116, 114, 97, 105, 108, 101, 114]⟩, .string ⟨#[116, 114, 97, 110, 115, 102, 101, 114, 45, 101, 110, 99, 111, 100, 105, 110, 103]⟩, .string ⟨#[117, 112, 103, 114, 97, 100, 101]⟩] 9 (Nat.le_refl _) (by simp [maxLen]) rfl)
  have Hin := Lib.hid hin
  have HB := Lib.hid hb
  have HS := Lib.hid hS
  have GT := Lib.hid (Get_any A n c L ⟨#[99, 111, 110, 110, 101, 99, 116, 105, 111, 110]⟩ w1 ((hin.below B1.out).more B1.out.size) hb.n hb.f (by decide))
  clear hin hb hS
  go_enter Tryz.func51, Tryz.ntmps51
  go_wp2_with (first
    | (go_at_call 95; (with_reducible refine GT.out.mono ?_); rintro e w2 ⟨v2, rfl, ho2, hb2⟩; obtain ⟨A2, c2, rfl, hs2⟩ := own_slice ho2; have B2 := Lib.hid (below_step B1.out hb2); have O2 := Lib.hid (own_below O1.out hb2); have S2 := Lib.hid hs2; have SP := Lib.hid (Split_any A2 _ c2 _ w2 hs2 (HB.out.get connN)); clear ho2 hs2 hb2)
    | (go_at_call 94; (with_reducible refine SP.out.mono ?_); rintro e w3 ⟨v3, rfl, ho3, hb3⟩; obtain ⟨A3, c3, rfl, hs3⟩ := own_slice ho3; have B3 := Lib.hid (below_step B2.out hb3); have O3 := Lib.hid (own_below O2.out hb3); have S3 := Lib.hid hs3; clear ho3 hs3 hb3)
    | (at_builtin; refine wpList_appS str_ty rfl _ _ rfl w.heap.size _ 9 (strsV hopN) rfl O3.out w3.heap.size A3 _ c3 (strsV (splitL (getL L connN))) rfl S3.out (strsV_one _) (by have := HS.out; simp only [connN] at this; omega) (by have := HS.out; simp only [connN] at this; simp only [maxLen]; omega) B3.out.size ?_; intro v4 w4 hown4 hgr4; rw [← strsV_append] at hown4; obtain ⟨A4, c4, rfl, hs4⟩ := own_slice hown4; have B4 := Lib.hid (B3.out.grown hgr4 B3.out.size (fun g hg => (O3.out.lt g hg).1)); have WO := Lib.hid (Without_any A n c L A4 _ c4 _ w4 ((Hin.out.below B4.out).more B4.out.size) HB.out.n HB.out.f hs4 (by have := HS.out; simp only [connN] at this; omega) (hop_small HB.out)); clear hown4 hgr4 hs4)
    | (go_at_call 50; (with_reducible refine WO.out.mono ?_); rintro e w5 ⟨v5, rfl, ho5, hb5⟩; have O5 := Lib.hid (own_low ho5 B4.out.size); have B5 := Lib.hid (below_step B4.out hb5); clear ho5 hb5))
  go_ret
  exact ⟨_, rfl, O5.out, B5.out⟩
set_option maxHeartbeats 8000000 in
theorem rpass_any (A : Option Addr) (n c : Nat) (L : List Fld) (w : World) (hin : SliceIn w w.heap.size 2 A n c (fldsV L)) (hb : FldB L n) (hS : (splitL (getL L connN)).length ≤ 900000) :
    Calls Tryz.prog 56 #[.slice A n c] w fun e w' => ∃ A' n' c', e = .returned (.slice A' n' c') ∧ SliceIn w' w'.heap.size 2 A' n' c' (fldsV (passL L)) ∧ Below w.heap.size w w' := by
  obtain ⟨w1, hw1⟩ : ∃ W : World, w.alloc (.cells #[.string ⟨#[99, 111, 110, 110, 101, 99, 116, 105, 111, 110]⟩, .string ⟨#[107, 101, 101, 112, 45, 97, 108, 105, 118, 101]⟩, .string ⟨#[112, 114, 111, 120, 121, 45, 97, 117, 116, 104, 101, 110, 116, 105, 99, 97, 116, 101]⟩, .string ⟨#[112, 114, 111, 120, 121, 45, 97, 117, 116, 104, 111, 114, 105, 122, 97, 116, 105, 111, 110]⟩, .string ⟨#[112, 114, 111, 120, 121, 45, 99, 111, 110, 110, 101, 99, 116, 105, 111, 110]⟩, .string ⟨#[116, 101]⟩, .string ⟨#[116, 114, 97, 105, 108, 101, 114]⟩, .string ⟨#[116, 114, 97, 110, 115, 102, 101, 114, 45, 101, 110, 99, 111, 100, 105, 110, 103]⟩, .string ⟨#[117, 112, 103, 114, 97, 100, 101]⟩] 9) = W := ⟨_, rfl⟩
  have B1 : Hid (Below w.heap.size w w1) := Lib.hid (by rw [← hw1]; exact (Below.refl _ _).alloc (Nat.le_refl _) _)
  have O1 : Hid (w1.ownsRow w.heap.size 9 1 (.slice (some ⟨w.heap.size, 0, none⟩) 9 9) 9 (strsV hopN)) := Lib.hid (by rw [← hw1]; exact World.ownsRow_lit (base := w.heap.size) (e := 9) (size := 1) w #[.string ⟨#[99, 111, 110, 110, 101, 99, 116, 105, 111, 110]⟩, .string ⟨#[107, 101, 101, 112, 45, 97, 108, 105, 118, 101]⟩, .string ⟨#[112, 114, 111, 120, 121, 45, 97, 117, 116, 104, 101, 110, 116, 105, 99, 97, 116, 101]⟩, .string ⟨#[112, 114, 111, 120, 121, 45, 97, 117, 116, 104, 111, 114, 105, 122, 97, 116, 105, 111, 110]⟩, .string ⟨#[112, 114, 111, 120, 121, 45, 99, 111, 110, 110, 101, 99, 116, 105, 111, 110]⟩, .string ⟨#[116, 101]⟩, .string ⟨#[116, 114, 97, 105, 108, 101, 114]⟩, .string ⟨#[116, 114, 97, 110, 115, 102, 101, 114, 45, 101, 110, 99, 111, 100, 105, 110, 103]⟩, .string ⟨#[117, 112, 103, 114, 97, 100, 101]⟩] 9 (Nat.le_refl _) (by simp [maxLen]) rfl)
  have Hin := Lib.hid hin
  have HB := Lib.hid hb
  have HS := Lib.hid hS
  have hLn := fld_count hin
  have HLn := Lib.hid hLn
  have GT := Lib.hid (refGet_any A n c L ⟨#[99, 111, 110, 110, 101, 99, 116, 105, 111, 110]⟩ w1 ((hin.below B1.out).more B1.out.size) hb.n hb.f (by decide))
  clear hin hb hS hLn
  go_enter Tryz.func56, Tryz.ntmps56
  go_upto_region 3 with (first
    | (go_at_call 79; (with_reducible refine GT.out.mono ?_); rintro e w2 ⟨v2, rfl, ho2, hb2⟩; obtain ⟨A2, c2, rfl, hs2⟩ := own_slice ho2; have B2 := Lib.hid (below_step B1.out hb2); have O2 := Lib.hid (own_below O1.out hb2); have SP := Lib.hid (refSplit_any A2 _ c2 _ w2 hs2 (HB.out.get connN)); clear ho2 hs2 hb2)
    | (go_at_call 80; (with_reducible refine SP.out.mono ?_); rintro e w3 ⟨v3, rfl, ho3, hb3⟩; obtain ⟨A3, c3, rfl, hs3⟩ := own_slice ho3; have B3 := Lib.hid (below_step B2.out hb3); have O3 := Lib.hid (own_below O2.out hb3); have S3 := Lib.hid hs3; clear ho3 hs3 hb3)
    | (at_builtin; refine wpList_appS str_ty rfl _ _ rfl w.heap.size _ 9 (strsV hopN) rfl O3.out w3.heap.size A3 _ c3 (strsV (splitL (getL L connN))) rfl S3.out (strsV_one _) (by have := HS.out; simp only [connN] at this; omega) (by have := HS.out; simp only [connN] at this; simp only [maxLen]; omega) B3.out.size ?_; intro v4 w4 hown4 hgr4; rw [← strsV_append] at hown4; obtain ⟨A4, c4, rfl, hs4⟩ := own_slice hown4; have B4 := Lib.hid (B3.out.grown hgr4 B3.out.size (fun g hg => (O3.out.lt g hg).1)); have S4 := Lib.hid hs4; clear hown4 hgr4 hs4))
  obtain ⟨N, hN⟩ : ∃ N, hopN ++ splitL (getL L connN) = N := ⟨_, rfl⟩
  have hNs := hop_small HB.out
  have hNl : 9 + (splitL (getL L connN)).length = N.length := by rw [← hN, List.length_append]; rfl
  have hNb : N.length ≤ 900009 := by have := HS.out; omega
  obtain ⟨m, hm⟩ : ∃ m, 9 + (splitL (getL L connN)).length = m := ⟨_, rfl⟩
  have e5 : 9 + (splitL (getL L (⟨#[99, 111, 110, 110, 101, 99, 116, 105, 111, 110]⟩ : ByteArray).data.toList)).length = m := hm
  simp only [connN] at hm
  have e6 : m = N.length := by rw [← e5]; exact hNl
  have HM := Lib.hid e6
  have HN := Lib.hid hN
  have HNs := Lib.hid hNs
  have HNb := Lib.hid hNb
  have S5 : Hid (SliceIn w4 w4.heap.size 1 A4 m c4 (strsV N)) := Lib.hid (by rw [← hN, ← e5]; exact S4.out)
  try rw [e5]
  try rw [hm]
  try simp only [e5]
  clear hNs hNl hNb e5 e6 hm hN S4 O3 S3 B3 B2 O2 O1 B1 GT SP hw1
  go_wp2_with fail
  go_loopw [0, 4] (fun fv iv wr => ∃ (k : Nat) (A' : Option Addr) (n' c' : Nat), iv = .int .i64 k ∧ k ≤ m ∧ fv = .slice A' n' c' ∧ SliceIn wr wr.heap.size 2 A' n' c' (fldsV (withoutL L (N.take k))) ∧ FldB (withoutL L (N.take k)) n' ∧ Below w.heap.size w wr ∧ Below w4.heap.size w4 wr) (fun _ iv _ => m - (intOf iv).toNat)
  case atStart => exact ⟨0, A, n, c, rfl, Nat.zero_le _, rfl, by rw [List.take_zero, without_nil]; exact (Hin.out.below B4.out).more B4.out.size, by rw [List.take_zero, without_nil]; exact HB.out, B4.out, Below.refl _ _⟩
  case round =>
    obtain ⟨k, A', n', c', rfl, hk, rfl, hs, hfb, hb, hb4⟩ := hrel
    have HSl := Lib.hid hs
    have HFB := Lib.hid hfb
    have B := Lib.hid hb
    have B4r := Lib.hid hb4
    clear hs hfb
    by_cases hlt : k < m
    · obtain ⟨x, hx⟩ : ∃ x, N[k]? = some x := ⟨_, List.getElem?_eq_getElem (by have := HM.out; omega)⟩
      obtain ⟨b, off, rfl, hbk, c0⟩ := str_at (S5.out.below hb4) hx
      have hxs : (⟨x.toArray⟩ : ByteArray).size ≤ 1000000000 := by rw [size_mk]; have := HNs.out; rw [HN.out] at this; exact this x (List.mem_of_getElem? hx)
      have RW := Lib.hid (refWithout_any A' n' c' (withoutL L (N.take k)) ⟨x.toArray⟩ wr HSl.out HFB.out.n HFB.out.f hxs)
      have hsn : withoutL (withoutL L (N.take k)) [(⟨x.toArray⟩ : ByteArray).data.toList] = withoutL L (N.take (k + 1)) := by
        rw [without_snoc, List.take_add_one, hx]
        rfl
      have hcn := fld_count HSl.out
      rw [hsn] at RW
      have HTK : Hid (N.take (k + 1) = N.take k ++ [x]) := Lib.hid (by rw [List.take_add_one, hx]; rfl)
      have HCN := Lib.hid hcn
      obtain ⟨X, hX⟩ : ∃ X : ByteArray, (⟨x.toArray⟩ : ByteArray) = X := ⟨_, rfl⟩
      rw [hX] at c0 RW
      have hki : (k : Int) < (m : Int) := by omega
      have hadd : IntKind.i64.wrap ((k : Int) + 1) = ((k + 1 : Nat) : Int) := by rw [IntWalk.i64_in _ ⟨by omega, by have := HNb.out; have := HM.out; omega⟩]; rfl
      clear hsn hcn hxs hX hx hbk
      go_wp2_with (go_at_call 57; (with_reducible refine RW.out.mono ?_); rintro e w6 ⟨v6, rfl, ho6, hb6⟩; obtain ⟨A6, c6, rfl, hs6⟩ := own_slice ho6; have S6 := Lib.hid hs6; have B6 := Lib.hid (below_step B.out hb6); have B46 := Lib.hid (below_step B4r.out hb6); clear ho6 hs6 hb6)
      go_roundw
      case rel =>
        refine ⟨k + 1, A6, _, c6, by first | rfl | go_num, hlt, rfl, S6.out, ?_, B6.out, B46.out⟩
        have h := HFB.out.without HCN.out.symm [x]
        rw [without_snoc] at h
        have e : N.take k ++ [x] = N.take (k + 1) := HTK.out.symm
        rw [e] at h
        exact h
      case measure => simp [intOf]; omega
    · obtain rfl : k = m := by omega
      have hki : ¬ (k : Int) < (k : Int) := by omega
      have e : N.take k = N := List.take_of_length_le (by have := HM.out; omega)
      rw [e] at HSl
      clear e
      go_wp2_with fail
      go_ret
      exact ⟨A', n', c', rfl, by unfold passL; rw [HN.out]; exact HSl.out, B.out⟩
end Go.Proofs.YtniiadhhefgmcaaGreatDoor

/- Layer 23: origin.Ask. Conditions: few fields, short ones. Printed by mkask4.py. -/
namespace IH
def fixN : List (List UInt8) := [[104, 111, 115, 116], [99, 111, 110, 116, 101, 110, 116, 45, 108, 101, 110, 103, 116, 104], [101, 120, 112, 101, 99, 116]]
def hostL (h : List UInt8) (p : Int) : List UInt8 := if p = 80 then h else h ++ 58 :: printN p 10
def restL (L more : List Fld) : List Fld := withoutL (passL L) (fixN ++ more.map (·.1))
def askF (h : List UInt8) (p : Int) (L more : List Fld) (X : List UInt8) : List Fld := ([72, 111, 115, 116], hostL h p) :: (restL L more ++ more) ++ (if X = [] then [] else [clF X.length])
def askM (me h : List UInt8) (p : Int) (pa : List UInt8) (L more : List Fld) (X : List UInt8) : Msg := ⟨{ Sta.zero with method := me, target := pa, minor := 1 }, askF h p L more X, X⟩
theorem rest_length (L more : List Fld) : (restL L more).length ≤ L.length := by
  unfold restL passL
  have h1 := without_length_le L (hopN ++ splitL (getL L connN))
  have h2 := without_length_le (withoutL L (hopN ++ splitL (getL L connN))) (fixN ++ more.map (·.1))
  omega
end IH
namespace Go.Proofs.YtniiadhhefgmcaaGreatDoor
open Go.RowKit IH
set_option maxRecDepth 100000
set_option linter.unusedVariables false
theorem row_pastA {w w' : World} {g base size n : Nat} {t e : TypeId} {cs xs : List Value} {v : Value} (h : RowAt w g t cs) (hg : w.grownBy w' v.ownBlock) (hown : w.ownsRow base e size v n xs) (hne : t ≠ e) : RowAt w' g t cs :=
  h.keep (hg.block g h.lt (fun he => ne_type hown h hne g he.symm rfl))
theorem own_block_keep {W W' : World} {b1 b2 s1 s2 n1 n2 : Nat} {e1 e2 : TypeId} {u v : Value} {xs ys : List Value} (h : W.ownsRow b1 e1 s1 u n1 xs) (ho : W.ownsRow b2 e2 s2 v n2 ys) (hne : e1 ≠ e2) (hk : ∀ k, k < W.heap.size → v.ownBlock ≠ some k → W'.heap[k]? = W.heap[k]?) : W'.ownsRow b1 e1 s1 u n1 xs := by
  refine ⟨h.1, ?_⟩
  rcases h.2 with h2 | ⟨g', cap, cur, hv, hg', hh, r⟩
  · exact .inl h2
  · refine .inr ⟨g', cap, cur, hv, hg', (hk g' (Array.getElem?_eq_some_iff.1 hh).1 (fun he => ?_)).trans hh, r⟩
    rcases ho.2 with ⟨h3, _⟩ | ⟨g2, cap2, cur2, hv2, _, hh2, _⟩
    · rw [h3] at he; cases he
    · rw [hv2] at he
      simp only [Value.ownBlock, Option.some.injEq] at he
      subst he
      rw [hh] at hh2
      simp only [Option.some.injEq, Obj.cells.injEq] at hh2
      exact hne hh2.2.1
theorem get_total (L : List Fld) (s : List UInt8) : IH.total (getL L s) + 2 ≤ sizeL L := by
  induction L with
  | nil => simp [getL, IH.total, sizeL]
  | cons f L ih =>
    rw [sizeL_cons]
    unfold getL at ih ⊢
    rw [List.filter_cons]
    split
    · simp only [List.map_cons, IH.total, List.map_cons, List.sum_cons] at ih ⊢
      omega
    · omega
theorem ShortM.conn {L : List Fld} {n : Nat} (h : ShortM L n) : (splitL (getL L connN)).length ≤ 900000 := by
  have h1 := splitL_length (getL L connN)
  have h2 := get_total L connN
  have h3 := h.sizeF
  unfold IH.total at h2
  omega
theorem fix_small {L : List Fld} {n : Nat} (h : ShortM L n) : smallS 1000000000 (fixN ++ L.map (·.1)) := by
  intro x hx
  rcases List.mem_append.1 hx with h1 | h1
  · have : ∀ y ∈ fixN, y.length ≤ 1000000000 := by decide
    exact this x h1
  · obtain ⟨f, hf, rfl⟩ := List.mem_map.1 h1
    have := (h.f f hf).1
    omega
set_option maxHeartbeats 32000000 in
theorem ask_any (C : List Value) (hC : RightC C) (me : ByteArray) (A1 A2 : Option Addr) (n1 n2 c1 c2 : Nat) (h0 : C[0]? = some (.string me)) (h5 : C[5]? = some (.slice A1 n1 c1)) (h6 : C[6]? = some (.slice A2 n2 c2)) (L : List Fld) (X : List UInt8) (Hu Pa : ByteArray) (pu : Int) (A3 : Option Addr) (n3 c3 : Nat) (more : List Fld) (w : World)
    (s1 : SliceIn w w.heap.size 2 A1 n1 c1 (fldsV L)) (s2 : SliceIn w w.heap.size 1 A2 n2 c2 (bytesV X)) (s3 : SliceIn w w.heap.size 2 A3 n3 c3 (fldsV more)) (b1 : ShortM L n2) (b3 : ShortM more 0) (b4 : Hu.size ≤ 300) (b5 : -9223372036854775808 ≤ pu) (b6 : pu ≤ 9223372036854775807) :
    Calls Tryz.prog 23 #[.agg C.toArray, .agg #[.string Hu, .int .i64 pu, .string Pa], .slice A3 n3 c3] w fun e w' => ∃ C', e = .returned (.agg C'.toArray) ∧ MsgO w' (askM me.data.toList Hu.data.toList pu Pa.data.toList L more X) C' ∧ Below w.heap.size w w' := by
  have HMi : Hid ((Tryz.prog.info? 27).map (·.size) = some 7) := Lib.hid (by kernel_rfl)
  obtain ⟨w1, hw1⟩ : ∃ W : World, w.alloc (.cells C.toArray 27) = W := ⟨_, rfl⟩
  have B1 : Hid (Below w.heap.size w w1) := Lib.hid (by rw [← hw1]; exact (Below.refl _ _).alloc (Nat.le_refl _) _)
  have Ra1 : Hid (RowAt w1 w.heap.size 27 C) := Lib.hid (by rw [← hw1]; exact RowAt.new w 27 C)
  obtain ⟨w2, hw2⟩ : ∃ W : World, w1.alloc (.cells #[.string Hu, .int .i64 pu, .string Pa] 53) = W := ⟨_, rfl⟩
  have b12 : Below w1.heap.size w1 w2 := by rw [← hw2]; exact (Below.refl _ _).alloc (Nat.le_refl _) _
  have Ru2 : Hid (RowAt w2 w1.heap.size 53 [.string Hu, .int .i64 pu, .string Pa]) := Lib.hid (by rw [← hw2]; exact RowAt.new w1 53 _)
  obtain ⟨w3, hw3⟩ : ∃ W : World, w2.alloc (.cells #[.string ⟨#[]⟩, .string ⟨#[]⟩, .int .i64 0, .string ⟨#[]⟩, .int .i64 0, .slice none 0 0, .slice none 0 0] 27) = W := ⟨_, rfl⟩
  have b23 : Below w2.heap.size w2 w3 := by rw [← hw3]; exact (Below.refl _ _).alloc (Nat.le_refl _) _
  have Rr3 : Hid (RowAt w3 w2.heap.size 27 [.string ⟨#[]⟩, .string ⟨#[]⟩, .int .i64 0, .string ⟨#[]⟩, .int .i64 0, .slice none 0 0, .slice none 0 0]) := Lib.hid (by rw [← hw3]; exact RowAt.new w2 27 _)
  have B3 : Hid (Below w.heap.size w w3) := Lib.hid (below_step (below_step B1.out b12) b23)
  have Ra3 : Hid (RowAt w3 w.heap.size 27 C) := Lib.hid ((Ra1.out.below b12 Ra1.out.lt).below b23 (Ra1.out.below b12 Ra1.out.lt).lt)
  have Ru3 : Hid (RowAt w3 w1.heap.size 53 [.string Hu, .int .i64 pu, .string Pa]) := Lib.hid (Ru2.out.below b23 Ru2.out.lt)
  have HZ1 : Hid (w.heap.size < w1.heap.size ∧ w1.heap.size < w2.heap.size ∧ w2.heap.size < w3.heap.size) := Lib.hid ⟨Ra1.out.lt, Ru2.out.lt, Rr3.out.lt⟩
  obtain ⟨gr, hgr⟩ : ∃ x, w2.heap.size = x := ⟨_, rfl⟩
  obtain ⟨gu, hgu⟩ : ∃ x, w1.heap.size = x := ⟨_, rfl⟩
  rw [hgr] at Rr3 HZ1
  rw [hgu] at Ru3 HZ1
  have Hc := Lib.hid (And.intro h0 (And.intro h5 h6))
  have Hs1 := Lib.hid s1
  have Hs2 := Lib.hid s2
  have Hs3 := Lib.hid s3
  have HB1 := Lib.hid b1
  have HB3 := Lib.hid b3
  have HB4 := Lib.hid b4
  have hL1 := fld_count s1
  have hL3 := fld_count s3
  have hX := s2.1
  rw [bytesV_length] at hX
  have HL : Hid (L.length = n1 ∧ more.length = n3 ∧ X.length = n2 ∧ n1 ≤ 40 ∧ n3 ≤ 40 ∧ n2 ≤ 2000) := Lib.hid ⟨hL1, hL3, by omega, by have := b1.l; omega, by have := b3.l; omega, b1.n⟩
  have u0 := Ru3.out.cell (j := 0) rfl
  have u1 := Ru3.out.cell (j := 1) rfl
  have zH : Hu.size ≤ 300 := b4
  have PU := Lib.hid (And.intro b5 b6)
  clear b12 b23 hC h0 h5 h6 s1 s2 s3 b1 b3 b4 b5 b6 hL1 hL3 hX Ra1 Ru2 B1
  go_enter Tryz.func23, Tryz.ntmps23
  go_upto_if 14 with fail
  clear hw1 hw2 hw3 hgu hgr
  obtain ⟨ib, hib⟩ : ∃ x, (pu != 80) = x := ⟨_, rfl⟩
  try simp only [hib]
  have HIB := Lib.hid hib
  clear hib
  go_cut [7] from 15 to 20 (fun s7 wx => ∃ H : ByteArray, s7 = .string H ∧ H.data.toList = hostL Hu.data.toList pu ∧ H.size ≤ 400 ∧ Below w3.heap.size w3 wx)
  case first =>
    cases ib
    · have e : pu = 80 := by have := HIB.out; simpa using this
      have e2 : hostL Hu.data.toList pu = Hu.data.toList := by rw [e]; rfl
      have E2 := Lib.hid e2
      clear e e2
      go_wp2_with fail
      go_meet
      exact ⟨Hu, rfl, E2.out.symm, by have := HB4.out; omega, Below.refl _ _⟩
    · have e : ¬ pu = 80 := by have := HIB.out; simpa using this
      have e2 : hostL Hu.data.toList pu = Hu.data.toList ++ 58 :: printN pu 10 := by unfold hostL; rw [if_neg e]
      have E2 := Lib.hid e2
      have NM := Lib.hid (number_any pu PU.out.1 PU.out.2 w3)
      have zD : (⟨(printN pu 10).toArray⟩ : ByteArray).size ≤ 64 := by rw [size_mk]; have := pN_len pu; omega
      obtain ⟨D, hD⟩ : ∃ D : ByteArray, (⟨(printN pu 10).toArray⟩ : ByteArray) = D := ⟨_, rfl⟩
      rw [hD] at NM zD
      have HD := Lib.hid hD
      have zS : ((⟨#[58]⟩ : ByteArray) ++ D).size ≤ 65 := by rw [ByteArray.size_append]; show 1 + D.size ≤ 65; omega
      clear e e2 hD
      go_wp2_with (go_at_call 48; (with_reducible refine NM.out.mono ?_); rintro e w4 ⟨rfl, hb4⟩; have B4 := Lib.hid hb4; clear hb4)
      go_meet
      refine ⟨_, rfl, ?_, by rw [ByteArray.size_append]; omega, B4.out⟩
      rw [append_data, append_data, E2.out, ← HD.out]
      rfl
  case rest =>
  obtain ⟨H, rfl, hH, hHs, hb⟩ := hcut
  obtain ⟨w4, hw4⟩ : ∃ W : World, W = wc := ⟨_, rfl⟩
  subst hw4
  have HH := Lib.hid hH
  have B4 := Lib.hid (below_step B3.out hb)
  have Ra4 := Lib.hid (Ra3.out.below hb Ra3.out.lt)
  have Ru4 := Lib.hid (Ru3.out.below hb Ru3.out.lt)
  have Rr4 := Lib.hid (Rr3.out.below hb Rr3.out.lt)
  have HZ4 : Hid (w3.heap.size ≤ w4.heap.size) := Lib.hid hb.size
  clear hH hb u0 u1 zH B3 Ra3 Ru3 Rr3 HIB
  have CL := Lib.hid (fun (W : World) (h : SliceIn W W.heap.size 1 A2 n2 c2 (bytesV X)) => cloneB_any A2 n2 c2 X W h (by have := HL.out; omega))
  go_upto_region 4 with fail
  go_cut [8] from 21 to 30 (fun s8 wx => ∃ (gm : Nat) (Ab : Option Addr) (nb cb : Nat), s8 = .pointer (some ⟨gm, 0, none⟩) ∧ RowAt wx gm 27 [.string me, .string Pa, .int .i64 0, .string ⟨#[]⟩, .int .i64 1, .slice none 0 0, .slice Ab nb cb] ∧ wx.ownsRow w4.heap.size 5 1 (.slice Ab nb cb) nb (bytesV X) ∧ nb = n2 ∧ w4.heap.size ≤ gm ∧ Below w4.heap.size w4 wx)
  case first =>
    refine wp_region_tree (fun W => Below w4.heap.size w4 W) (.take 0 (.take 1 (.take 2 (.take 3 (.take 4 (.take 5 (.take 6 (.take 7 (.node (.fork 8 (.take 9 (.node (.fork 10 (.node (.fork 11 (.done) (.stop))) (.stop)))) (.fork 10 (.node (.fork 8 (.take 9 (.node (.fork 11 (.done) (.stop)))) (.stop))) (.stop)))))))))))) (by kernel_rfl) (by kernel_rfl) (of_decide_eq_true (by kernel_rfl)) rfl (by kernel_rfl) (below_drewN (Below.refl _ _) 1) ?_
    intro w1 hH
    iterate 8
      refine tree_take (v := ?_) rfl (by rfl) ?_ ?_
      rotate_left
      · intro w2 hSw
        have ra := Ra4.out.below hSw Ra4.out.lt
        have ru := Ru4.out.below hSw Ru4.out.lt
        have z0 := ra.cell Hc.out.1
        have z6 := ra.cell Hc.out.2.2
        have u2 := ru.cell (j := 2) rfl
        clear ra ru
        clear hSw
        go_simp
        try with_reducible rfl
      try simp only [Act.put, List.setIfInBounds_toArray, List.set_cons_zero, List.set_cons_succ]
    refine tree_node ?_
    refine tree_move rfl (by rfl) (fun K hK => ?_) ?_
    · go_simp
      have SB := Lib.hid hH.out.size
      (with_reducible refine (CL.out _ ((Hs2.out.below (below_step B4.out hH.out)).more (below_step B4.out hH.out).size)).mono ?_)
      rintro e w5 ⟨v5, rfl, ho5, hb5⟩
      obtain ⟨Ab, cb, rfl, -⟩ := own_slice ho5
      refine hK.out _ _ (below_step hH.out hb5) ?_
      try (replace FB := Lib.hid (FB.out.below hb5 FB.out.lt))
      have OB := Lib.hid (own_low ho5 SB.out)
      clear hH hK K ho5 hb5
      intro hH
      try simp only [Act.put, List.setIfInBounds_toArray, List.set_cons_zero, List.set_cons_succ]
      iterate 1
        refine tree_take (v := ?_) rfl (by rfl) ?_ ?_
        rotate_left
        · intro w2 hSw
          have ra := Ra4.out.below hSw Ra4.out.lt
          have ru := Ru4.out.below hSw Ru4.out.lt
          have z0 := ra.cell Hc.out.1
          have z6 := ra.cell Hc.out.2.2
          have u2 := ru.cell (j := 2) rfl
          clear ra ru
          clear hSw
          go_simp
          try with_reducible rfl
        try simp only [Act.put, List.setIfInBounds_toArray, List.set_cons_zero, List.set_cons_succ]
      refine tree_node ?_
      refine tree_move rfl (by rfl) (fun K hK => ?_) ?_
      · go_simp
        refine hK.out _ _ (hH.out.alloc hH.out.size _) ?_
        have FB := Lib.hid (row_at hH 27 [.string ⟨#[]⟩, .string ⟨#[]⟩, .int .i64 0, .string ⟨#[]⟩, .int .i64 0, .slice none 0 0, .slice none 0 0])
        have HGm := Lib.hid hH.out.size
        try (replace OB := Lib.hid (OB.out.alloc (.cells #[.string ⟨#[]⟩, .string ⟨#[]⟩, .int .i64 0, .string ⟨#[]⟩, .int .i64 0, .slice none 0 0, .slice none 0 0] 27)))
        clear hH hK K
        intro hH
        try simp only [Act.put, List.setIfInBounds_toArray, List.set_cons_zero, List.set_cons_succ]
        refine tree_node ?_
        refine tree_move rfl (by rfl) (fun K hK => ?_) ?_
        · refine wp_store_row 27 _ _ rfl _ _ [.string me, .string Pa, .int .i64 0, .string ⟨#[]⟩, .int .i64 1, .slice none 0 0, .slice Ab X.length cb] _ rfl rfl (row_size FB.out (by simp)) rfl HMi.out (by simp [Value.oneCell']) ?_
          intro w7 hr7 ho7
          refine hK.out _ _ (ho7.below hH.out (by have := HGm.out; first | exact this | (simp at this; omega))) ?_
          have FR7 := Lib.hid hr7
          have OB7 := Lib.hid (own_only_ty OB.out ho7 FB.out (by decide))
          clear hH hK K hr7 ho7 FB OB
          intro hH
          try simp only [Act.put]
          refine tree_done ?_
          have hF := hH.out
          clear hH
          go_wp2_with fail
          go_meet
          exact ⟨_, Ab, X.length, cb, rfl, FR7.out, OB7.out, HL.out.2.2.1, HGm.out, hF⟩
        exact tree_stop
      exact tree_stop
    refine tree_move rfl (by rfl) (fun K hK => ?_) ?_
    · go_simp
      refine hK.out _ _ (hH.out.alloc hH.out.size _) ?_
      have FB := Lib.hid (row_at hH 27 [.string ⟨#[]⟩, .string ⟨#[]⟩, .int .i64 0, .string ⟨#[]⟩, .int .i64 0, .slice none 0 0, .slice none 0 0])
      have HGm := Lib.hid hH.out.size
      try (replace OB := Lib.hid (OB.out.alloc (.cells #[.string ⟨#[]⟩, .string ⟨#[]⟩, .int .i64 0, .string ⟨#[]⟩, .int .i64 0, .slice none 0 0, .slice none 0 0] 27)))
      clear hH hK K
      intro hH
      try simp only [Act.put, List.setIfInBounds_toArray, List.set_cons_zero, List.set_cons_succ]
      refine tree_node ?_
      refine tree_move rfl (by rfl) (fun K hK => ?_) ?_
      · go_simp
        have SB := Lib.hid hH.out.size
        (with_reducible refine (CL.out _ ((Hs2.out.below (below_step B4.out hH.out)).more (below_step B4.out hH.out).size)).mono ?_)
        rintro e w5 ⟨v5, rfl, ho5, hb5⟩
        obtain ⟨Ab, cb, rfl, -⟩ := own_slice ho5
        refine hK.out _ _ (below_step hH.out hb5) ?_
        try (replace FB := Lib.hid (FB.out.below hb5 FB.out.lt))
        have OB := Lib.hid (own_low ho5 SB.out)
        clear hH hK K ho5 hb5
        intro hH
        try simp only [Act.put, List.setIfInBounds_toArray, List.set_cons_zero, List.set_cons_succ]
        iterate 1
          refine tree_take (v := ?_) rfl (by rfl) ?_ ?_
          rotate_left
          · intro w2 hSw
            have ra := Ra4.out.below hSw Ra4.out.lt
            have ru := Ru4.out.below hSw Ru4.out.lt
            have z0 := ra.cell Hc.out.1
            have z6 := ra.cell Hc.out.2.2
            have u2 := ru.cell (j := 2) rfl
            clear ra ru
            clear hSw
            go_simp
            try with_reducible rfl
          try simp only [Act.put, List.setIfInBounds_toArray, List.set_cons_zero, List.set_cons_succ]
        refine tree_node ?_
        refine tree_move rfl (by rfl) (fun K hK => ?_) ?_
        · refine wp_store_row 27 _ _ rfl _ _ [.string me, .string Pa, .int .i64 0, .string ⟨#[]⟩, .int .i64 1, .slice none 0 0, .slice Ab X.length cb] _ rfl rfl (row_size FB.out (by simp)) rfl HMi.out (by simp [Value.oneCell']) ?_
          intro w7 hr7 ho7
          refine hK.out _ _ (ho7.below hH.out (by have := HGm.out; first | exact this | (simp at this; omega))) ?_
          have FR7 := Lib.hid hr7
          have OB7 := Lib.hid (own_only_ty OB.out ho7 FB.out (by decide))
          clear hH hK K hr7 ho7 FB OB
          intro hH
          try simp only [Act.put]
          refine tree_done ?_
          have hF := hH.out
          clear hH
          go_wp2_with fail
          go_meet
          exact ⟨_, Ab, X.length, cb, rfl, FR7.out, OB7.out, HL.out.2.2.1, HGm.out, hF⟩
        exact tree_stop
      exact tree_stop
    exact tree_stop
  case rest =>
  obtain ⟨gm, Ab, nb, cb, rfl, hrm, hob, hnb, hgm, hb⟩ := hcut
  obtain ⟨w5, hw5⟩ : ∃ W : World, W = wc := ⟨_, rfl⟩
  subst hw5
  have Rm5 := Lib.hid hrm
  have OB5 := Lib.hid hob
  have NB := Lib.hid hnb
  have GM := Lib.hid hgm
  have B5 := Lib.hid (below_step B4.out hb)
  have Ra5 := Lib.hid (Ra4.out.below hb Ra4.out.lt)
  have Rr5 := Lib.hid (Rr4.out.below hb Rr4.out.lt)
  clear hrm hob hnb hgm hb B4 Ra4 Ru4 Rr4 CL
  have a5 := Ra5.out.cell Hc.out.2.1
  have FBL : Hid (FldB L n1) := Lib.hid (by rw [← HL.out.1]; exact HB1.out.fldB)
  have PA := Lib.hid (pass_any A1 n1 c1 L w5 ((Hs1.out.below B5.out).more B5.out.size) FBL.out HB1.out.conn)
  have NA := Lib.hid (fun (W : World) (h : Below w.heap.size w W) => names_any A3 n3 c3 more W ((Hs3.out.below h).more h.size) (by have := HL.out; omega))
  have kb : Hid (∀ W : World, Below W.heap.size W (W.alloc (.cells #[.string ⟨#[104, 111, 115, 116]⟩, .string ⟨#[99, 111, 110, 116, 101, 110, 116, 45, 108, 101, 110, 103, 116, 104]⟩, .string ⟨#[101, 120, 112, 101, 99, 116]⟩] 9))) := Lib.hid (fun W => (Below.refl _ _).alloc (Nat.le_refl _) _)
  go_upto_region 6 with (first
    | (go_at_call 51; (with_reducible refine PA.out.mono ?_); rintro e w6 ⟨v6, rfl, ho6, hb6⟩; obtain ⟨A6, c6, rfl, hs6⟩ := own_slice ho6; have B6 := Lib.hid (below_step B5.out hb6); have Rm6 := Lib.hid (Rm5.out.below hb6 Rm5.out.lt); have Rr6 := Lib.hid (Rr5.out.below hb6 Rr5.out.lt); have OB6 := Lib.hid (own_below OB5.out hb6); have S6 := Lib.hid ho6; have b7 : Below w6.heap.size w6 (w6.alloc (.cells #[.string ⟨#[104, 111, 115, 116]⟩, .string ⟨#[99, 111, 110, 116, 101, 110, 116, 45, 108, 101, 110, 103, 116, 104]⟩, .string ⟨#[101, 120, 112, 101, 99, 116]⟩] 9)) := kb.out w6; have B7 := Lib.hid (below_step B6.out b7); have Rm7 := Lib.hid (Rm6.out.below b7 Rm6.out.lt); have Rr7 := Lib.hid (Rr6.out.below b7 Rr6.out.lt); have OB7 := Lib.hid (own_below OB6.out b7); have S7 := Lib.hid (own_below S6.out b7); have OF7 : Hid ((w6.alloc (.cells #[.string ⟨#[104, 111, 115, 116]⟩, .string ⟨#[99, 111, 110, 116, 101, 110, 116, 45, 108, 101, 110, 103, 116, 104]⟩, .string ⟨#[101, 120, 112, 101, 99, 116]⟩] 9)).ownsRow w.heap.size 9 1 (.slice (some ⟨w6.heap.size, 0, none⟩) 3 3) 3 (strsV fixN)) := Lib.hid (World.ownsRow_lit (base := w.heap.size) (e := 9) (size := 1) w6 #[.string ⟨#[104, 111, 115, 116]⟩, .string ⟨#[99, 111, 110, 116, 101, 110, 116, 45, 108, 101, 110, 103, 116, 104]⟩, .string ⟨#[101, 120, 112, 101, 99, 116]⟩] 3 B6.out.size (by simp [maxLen]) rfl); have NA7 := Lib.hid (NA.out _ B7.out); clear ho6 hb6 hs6 b7 B6 Rm6 Rr6 OB6 S6)
    | (go_at_call 52; (with_reducible refine NA7.out.mono ?_); rintro e w8 ⟨v8, rfl, ho8, hb8⟩; obtain ⟨A8, c8, rfl, hs8⟩ := own_slice ho8; have B8 := Lib.hid (below_step B7.out hb8); have Rm8 := Lib.hid (Rm7.out.below hb8 Rm7.out.lt); have Rr8 := Lib.hid (Rr7.out.below hb8 Rr7.out.lt); have OB8 := Lib.hid (own_below OB7.out hb8); have S8 := Lib.hid (own_below S7.out hb8); have OF8 := Lib.hid (own_below OF7.out hb8); have SN8 := Lib.hid hs8; clear ho8 hb8 hs8)
    | (at_builtin; refine wpList_appS str_ty rfl _ _ rfl w.heap.size _ 3 (strsV fixN) rfl OF8.out w8.heap.size A8 _ c8 (strsV (more.map (·.1))) rfl SN8.out (strsV_one _) (by have := HL.out; omega) (by have := HL.out; simp only [maxLen]; omega) B8.out.size ?_; intro v9 w9 hown9 hgr9; rw [← strsV_append] at hown9; obtain ⟨A9, c9, rfl, hs9⟩ := own_slice hown9; have B9 := Lib.hid (B8.out.grown hgr9 B8.out.size (fun g hg => (OF8.out.lt g hg).1)); have Rm9 := Lib.hid (row_pastA Rm8.out hgr9 OF8.out (by decide)); have Rr9 := Lib.hid (row_pastA Rr8.out hgr9 OF8.out (by decide)); have OB9 := Lib.hid (own_grown_ty OB8.out OF8.out hgr9 (by decide)); have WO := Lib.hid (Without_any A6 _ c6 (passL L) A9 _ c9 _ w9 (SliceIn.of_own (own_grown_ty S8.out OF8.out hgr9 (by decide))) (by have h := without_length_le L (hopN ++ splitL (getL L connN)); have := HL.out; unfold passL; omega) (without_small _ FBL.out.f) hs9 (by have := HL.out; omega) (fix_small HB3.out)); clear hown9 hgr9 hs9)
    | (go_at_call 50; (with_reducible refine WO.out.mono ?_); rintro e wb ⟨vb, rfl, hob, hbb⟩; obtain ⟨Ar, cr, rfl, hsr⟩ := own_slice hob; have Bb := Lib.hid (below_step B9.out hbb); have Rmb := Lib.hid (Rm9.out.below hbb Rm9.out.lt); have Rrb := Lib.hid (Rr9.out.below hbb Rr9.out.lt); have OBb := Lib.hid (own_below OB9.out hbb); have SRb := Lib.hid hsr; clear hob hbb hsr))
  have hFr : (restL L more).length ≤ 40 := by have := rest_length L more; have := HL.out; omega
  obtain ⟨R, hR⟩ : ∃ R, withoutL (passL L) (fixN ++ more.map (·.1)) = R := ⟨_, rfl⟩
  rw [hR] at SRb
  obtain ⟨rn, hrn⟩ : ∃ x, R.length = x := ⟨_, rfl⟩
  have hrn0 : (withoutL (passL L) (fixN ++ more.map (·.1))).length = rn := by rw [hR]; exact hrn
  try rw [hrn] at SRb
  try rw [hrn0]
  have HR : Hid (R = restL L more ∧ rn ≤ 40 ∧ R.length = rn) := Lib.hid ⟨hR.symm, by rw [← hrn, ← hR]; exact hFr, hrn⟩
  clear hR hrn hrn0 hFr a5
  have CC0 := (fun (W : World) (gx : Nat) (V : List Value) (h1 : SliceIn W W.heap.size 1 (some ⟨gx, 0, none⟩) 3 3 V) (h2 : PiecesF W W.heap.size [[([72, 111, 115, 116], H.data.toList)], R, more] V) => concatF_any (some ⟨gx, 0, none⟩) 3 3 [[([72, 111, 115, 116], H.data.toList)], R, more] V W h1 h2 (by decide) (by have := HR.out; have := HL.out; simp only [totF, List.map_cons, List.map_nil, List.sum_cons, List.sum_nil, List.length_cons, List.length_nil]; omega))
  obtain ⟨FF, hFF⟩ : ∃ x, List.flatten [[([72, 111, 115, 116], H.data.toList)], R, more] = x := ⟨_, rfl⟩
  obtain ⟨fn, hfn⟩ : ∃ x, FF.length = x := ⟨_, rfl⟩
  simp only [hFF, hfn] at CC0
  have CC := Lib.hid CC0
  have HF : Hid (FF = ([72, 111, 115, 116], H.data.toList) :: (R ++ more) ∧ FF.length = fn ∧ fn ≤ 81) := Lib.hid (by
    have e : FF = ([72, 111, 115, 116], H.data.toList) :: (R ++ more) := by rw [← hFF]; simp
    refine ⟨e, hfn, ?_⟩
    rw [← hfn, e, List.length_cons, List.length_append]
    have := HR.out
    have := HL.out
    omega)
  clear CC0 hFF hfn
  have KEY : Hid (∀ (W : World) (gx : Nat) (Va : Value), W = (wb.alloc (.cells #[.string ⟨#[72, 111, 115, 116]⟩, .string H] 74)).alloc (.cells #[.slice (some ⟨wb.heap.size, 0, none⟩) 1 1, .slice Ar rn cr, .slice A3 n3 c3] 24) → gx = wb.heap.size + 1 → SliceIn W W.heap.size 1 (some ⟨gx, 0, none⟩) 3 3 [.slice (some ⟨wb.heap.size, 0, none⟩) 1 1, .slice Ar rn cr, .slice A3 n3 c3] ∧ PiecesF W W.heap.size [[([72, 111, 115, 116], H.data.toList)], R, more] [.slice (some ⟨wb.heap.size, 0, none⟩) 1 1, .slice Ar rn cr, .slice A3 n3 c3] ∧ Below wb.heap.size wb W) := Lib.hid (by
    intro W gx Va hW hg
    subst hg
    obtain ⟨wc1, hwc1⟩ : ∃ W : World, wb.alloc (.cells #[.string ⟨#[72, 111, 115, 116]⟩, .string H] 74) = W := ⟨_, rfl⟩
    rw [hwc1] at hW
    have b1 : Below wb.heap.size wb wc1 := by rw [← hwc1]; exact (Below.refl _ _).alloc (Nat.le_refl _) _
    have r1 : RowAt wc1 wb.heap.size 74 (fldsV [([72, 111, 115, 116], H.data.toList)]) := by
      rw [← hwc1]
      have h := RowAt.new wb 74 (fldsV [([72, 111, 115, 116], H.data.toList)])
      have e : (fldsV [([72, 111, 115, 116], H.data.toList)]).toArray = #[.string ⟨#[72, 111, 115, 116]⟩, .string H] := by
        show #[Value.string ⟨#[72, 111, 115, 116]⟩, Value.string ⟨H.data.toList.toArray⟩] = _
        rw [show (⟨H.data.toList.toArray⟩ : ByteArray) = H from by rw [Array.toArray_toList]]
      rw [e] at h
      exact h
    have hz : wc1.heap.size = wb.heap.size + 1 := by rw [← hwc1]; simp
    have b2 : Below wc1.heap.size wc1 W := by rw [hW]; exact (Below.refl _ _).alloc (Nat.le_refl _) _
    have r2 : RowAt W (wb.heap.size + 1) 24 [.slice (some ⟨wb.heap.size, 0, none⟩) 1 1, .slice Ar rn cr, .slice A3 n3 c3] := by
      rw [hW, ← hz]
      exact RowAt.new wc1 24 _
    have bb := below_step b1 b2
    refine ⟨r2.slice (size := 1) (n := 3) (c := 3) rfl (Nat.le_refl _) (by simp [maxLen]), ⟨rfl, fun i l hl => ?_⟩, bb⟩
    match i, hl with
    | 0, hl =>
      injection hl with hl
      subst hl
      exact ⟨_, 1, 1, rfl, (r1.below b2 r1.lt).slice (size := 2) (n := 1) (c := 1) rfl (Nat.le_refl _) (by simp [maxLen])⟩
    | 1, hl =>
      injection hl with hl
      subst hl
      exact ⟨_, _, _, rfl, (SRb.out.below bb).more bb.size⟩
    | 2, hl =>
      injection hl with hl
      subst hl
      exact ⟨_, _, _, rfl, (Hs3.out.below (Bb.out.trans (bb.mono Bb.out.size))).more (Below.trans Bb.out (bb.mono Bb.out.size)).size⟩)
  go_upto_region 7 with (go_at_call 53; (with_reducible refine (CC.out _ _ _ (KEY.out _ _ (.int .i64 0) rfl (by first | rfl | simp)).1 (KEY.out _ _ (.int .i64 0) rfl (by first | rfl | simp)).2.1).mono ?_); rintro e wd ⟨vd, rfl, hod, hbd⟩; obtain ⟨Ad, cd, rfl, -⟩ := own_slice hod; have kb2 := (KEY.out _ _ (.int .i64 0) rfl rfl).2.2; have bd := below_step kb2 hbd; have Bd := Lib.hid (below_step Bb.out bd); have Rmd := Lib.hid (Rmb.out.below bd Rmb.out.lt); have Rrd := Lib.hid (Rrb.out.below bd Rrb.out.lt); have OBd := Lib.hid (own_below OBb.out bd); have ODd := Lib.hid (own_low hod (Nat.le_trans Bb.out.size kb2.size)); have m5 := Rmd.out.cell (j := 5) rfl; have f5 := Rmd.out.frozen (j := 5) (by show 5 < 7; decide); clear hod hbd kb2 bd)
  obtain ⟨we, hwe⟩ : ∃ W : World, wd.setCell ⟨gm, 5, none⟩ (.slice Ad fn cd) = W := ⟨_, rfl⟩
  rw [hwe]
  have hoe : Only gm wd we := by rw [← hwe]; exact Only.setCell gm 5 wd _
  have hgr : gr ≠ gm := by have := HZ1.out; have := HZ4.out; have := GM.out; omega
  have HGR := Lib.hid hgr
  have Rme : Hid (RowAt we gm 27 [.string me, .string Pa, .int .i64 0, .string ⟨#[]⟩, .int .i64 1, .slice Ad fn cd, .slice Ab nb cb]) := Lib.hid (by rw [← hwe]; exact Rmd.out.set_ (j := 5) (by show 5 < 7; decide) _)
  have Rre : Hid (RowAt we gr 27 [.string ⟨#[]⟩, .string ⟨#[]⟩, .int .i64 0, .string ⟨#[]⟩, .int .i64 0, .slice none 0 0, .slice none 0 0]) := Lib.hid (by rw [← hwe]; exact Rrd.out.far hgr _)
  have ODe := Lib.hid (own_only_ty ODd.out hoe Rmd.out (by decide))
  have OBe := Lib.hid (own_only_ty OBd.out hoe Rmd.out (by decide))
  have Be : Hid (Below w.heap.size w we) := Lib.hid (by rw [← hwe]; exact Bd.out.setCell (show w.heap.size ≤ gm by have := HZ1.out; have := HZ4.out; have := GM.out; omega) _)
  have y5 := Rme.out.cell (j := 5) rfl
  have y6 := Rme.out.cell (j := 6) rfl
  clear hwe hoe hgr m5 f5 Rmd Rrd ODd OBd Bd KEY CC Bb Rmb Rrb OBb SRb B9 B8 B7 B5
  go_upto_if 50 with fail
  obtain ⟨ib, hib⟩ : ∃ x, decide (0 < nb) = x := ⟨_, rfl⟩
  simp only [hib]
  have HIB := Lib.hid hib
  clear hib
  go_cut [] from 51 to 56 (fun wx => ∃ (Af : Option Addr) (kf cf : Nat), RowAt wx gm 27 [.string me, .string Pa, .int .i64 0, .string ⟨#[]⟩, .int .i64 1, .slice Af kf cf, .slice Ab nb cb] ∧ wx.ownsRow w.heap.size 74 2 (.slice Af kf cf) kf (fldsV (askF Hu.data.toList pu L more X)) ∧ wx.ownsRow w4.heap.size 5 1 (.slice Ab nb cb) nb (bytesV X) ∧ RowAt wx gr 27 [.string ⟨#[]⟩, .string ⟨#[]⟩, .int .i64 0, .string ⟨#[]⟩, .int .i64 0, .slice none 0 0, .slice none 0 0] ∧ Below w.heap.size w wx)
  case first =>
    have hask : askF Hu.data.toList pu L more X = FF ++ (if X = [] then [] else [clF X.length]) := by
      unfold askF
      rw [HF.out.1, HR.out.1, HH.out]
    have HASK := Lib.hid hask
    clear hask
    cases ib
    · have h0 : nb = 0 := by have := of_decide_eq_false HIB.out; omega
      have hX : X = [] := List.eq_nil_of_length_eq_zero (by have := HL.out; have := NB.out; omega)
      have HX := Lib.hid hX
      clear h0 hX
      go_wp2_with fail
      go_meet
      refine ⟨Ad, fn, cd, Rme.out, ?_, OBe.out, Rre.out, Be.out⟩
      rw [HASK.out, if_pos HX.out, List.append_nil]
      exact ODe.out
    · have h0 : 0 < nb := of_decide_eq_true HIB.out
      have hX : X ≠ [] := fun e => by have h1 := HL.out; have h2 := NB.out; rw [e] at h1; simp only [List.length_nil] at h1; omega
      have hXl : X.length = nb := by have := HL.out; have := NB.out; omega
      have HX := Lib.hid (And.intro hX hXl)
      have SZ := Lib.hid (sized_any w.heap.size (.slice Ad fn cd) FF Ab nb cb (by have := HL.out; have := NB.out; omega) (by have := HF.out; omega) we Be.out.size (own_count ODe.out HF.out.2.1.symm))
      clear h0 hX hXl
      go_wp2_with (go_at_call 54; (with_reducible refine SZ.out.mono ?_); rintro e wf ⟨vf, rfl, hof, hbf, hkf⟩; obtain ⟨Af, cf, rfl, -⟩ := own_slice hof; have Bf := Lib.hid (Be.out.trans hbf); have Rmf := Lib.hid (Rme.out.keep (hkf gm Rme.out.lt (fun he => ne_type ODe.out Rme.out (by decide) gm he rfl))); have Rrf := Lib.hid (Rre.out.keep (hkf gr Rre.out.lt (fun he => ne_type ODe.out Rre.out (by decide) gr he rfl))); have OBf := Lib.hid (own_block_keep OBe.out ODe.out (by decide) hkf); have ODf := Lib.hid hof; have m5 := Rmf.out.cell (j := 5) rfl; have f5 := Rmf.out.frozen (j := 5) (by show 5 < 7; decide); clear hof hbf hkf)
      go_meet
      have hoe := Only.setCell gm 5 wf (.slice Af (FF.length + 1) cf)
      refine ⟨Af, FF.length + 1, cf, Rmf.out.set_ (j := 5) (by show 5 < 7; decide) _, ?_, own_only_ty OBf.out hoe Rmf.out (by decide), Rrf.out.far HGR.out _, Bf.out.setCell (show w.heap.size ≤ gm by have := HZ1.out; have := HZ4.out; have := GM.out; omega) _⟩
      rw [HASK.out, if_neg HX.out.1, HX.out.2]
      exact own_only_ty ODf.out hoe Rmf.out (by decide)
  case rest =>
  obtain ⟨Af, kf, cf, hrm, hod, hob, hrr, hb⟩ := hcut
  obtain ⟨wg, hwg⟩ : ∃ W : World, W = wc := ⟨_, rfl⟩
  subst hwg
  obtain ⟨CM, hCM⟩ : ∃ x, [Value.string me, .string Pa, .int .i64 0, .string ⟨#[]⟩, .int .i64 1, .slice Af kf cf, .slice Ab nb cb] = x := ⟨_, rfl⟩
  rw [hCM] at hrm
  have HCM := Lib.hid hCM
  have CRM : Hid (RightC CM) := Lib.hid (by rw [← hCM]; exact ⟨rfl, by simp [Value.oneCell']⟩)
  have HiM : Hid ((Tryz.prog.info? 27).map (·.size) = some CM.length) := Lib.hid (by rw [CRM.out.1]; exact HMi.out)
  have Rmg := Lib.hid hrm
  have Rrg := Lib.hid hrr
  have ODg := Lib.hid hod
  have OBg := Lib.hid hob
  have Bg := Lib.hid hb
  clear hCM hrm hrr hod hob hb Rme Rre ODe OBe Be y5 y6
  go_wp2_with (first
    | (refine wpList_load_g (by first | exact wanted_un rfl | exact wanted_yes rfl rfl rfl rfl | exact (wanted_is rfl rfl rfl rfl).trans (by simp; omega) | exact (wanted_is rfl rfl rfl rfl).trans (by simp)) 27 _ rfl gm 0 rfl CM _ (rangeOf Rmg.out) Tryz.underlying27 rfl HiM.out ?_)
    | (refine wpList_store_row rfl 27 _ _ rfl gr _ CM [.string ⟨#[]⟩, .string ⟨#[]⟩, .int .i64 0, .string ⟨#[]⟩, .int .i64 0, .slice none 0 0, .slice none 0 0] rfl rfl Rrg.out (by rw [CRM.out.1]; rfl) HiM.out CRM.out.2 ?_; intro wz hrz hoz; have RZ := Lib.hid hrz; have OZ := Lib.hid hoz; clear hrz hoz))
  refine bodyPost_ret (v := .agg CM.toArray) (results_cell Tryz.results23 _ wz ⟨gr, 0, none⟩ rfl (.agg CM.toArray) (run_loadVar_mid wz gr 0 27 CM _ (rangeOf RZ.out) Tryz.underlying27 rfl HiM.out)) rfl ?_
  refine ⟨CM, rfl, ⟨Af, kf, cf, Ab, nb, cb, ?_, own_low (own_only_ty ODg.out OZ.out Rrg.out (by decide)) (Nat.zero_le _), own_low (own_only_ty OBg.out OZ.out Rrg.out (by decide)) (Nat.zero_le _)⟩, OZ.out.below Bg.out (by have := HZ1.out; omega)⟩
  rw [← HCM.out]
  show [Value.string me, .string Pa, .int .i64 0, .string ⟨#[]⟩, .int .i64 1, .slice Af kf cf, .slice Ab nb cb] = [Value.string ⟨me.data.toList.toArray⟩, .string ⟨Pa.data.toList.toArray⟩, .int .i64 0, .string ⟨#[]⟩, .int .i64 1, .slice Af kf cf, .slice Ab nb cb]
  rw [show (⟨me.data.toList.toArray⟩ : ByteArray) = me from by rw [Array.toArray_toList], show (⟨Pa.data.toList.toArray⟩ : ByteArray) = Pa from by rw [Array.toArray_toList]]
end Go.Proofs.YtniiadhhefgmcaaGreatDoor

/- Layer 23: the document's Ask. Conditions: few fields, short ones. Printed by mkask5.py. -/
namespace IH
/-- The fields of an ask, as the document lays them. -/
theorem rest_fold (L more : List Fld) (k : Nat) (f : Fld) (h : more[k]? = some f) : withoutL (withoutL (passL L) (fixN ++ (more.take k).map (·.1))) [f.1] = withoutL (passL L) (fixN ++ (more.take (k + 1)).map (·.1)) := by
  rw [without_snoc, List.take_add_one, h]
  simp
end IH
namespace Go.Proofs.YtniiadhhefgmcaaGreatDoor
open Go.RowKit IH
set_option maxRecDepth 100000
set_option linter.unusedVariables false
theorem rw_any (A : Option Addr) (n c : Nat) (L : List Fld) (s : ByteArray) (W : World) (hin : SliceIn W W.heap.size 2 A n c (fldsV L)) (hb : FldB L n) (hz : s.size ≤ 1000000000) :
    Calls Tryz.prog 57 #[.slice A n c, .string s] W fun e w' => ∃ A' n' c', e = .returned (.slice A' n' c') ∧ SliceIn w' w'.heap.size 2 A' n' c' (fldsV (withoutL L [s.data.toList])) ∧ FldB (withoutL L [s.data.toList]) n' ∧ Below W.heap.size W w' := by
  refine (refWithout_any A n c L s W hin hb.n hb.f hz).mono ?_
  rintro e w' ⟨v, rfl, ho, hb'⟩
  obtain ⟨A', c', rfl, hs⟩ := own_slice ho
  exact ⟨A', _, c', rfl, hs, hb.without (fld_count hin).symm _, hb'⟩
set_option maxHeartbeats 32000000 in
theorem rask_any (C : List Value) (me : ByteArray) (A1 A2 : Option Addr) (n1 n2 c1 c2 : Nat) (h0 : C[0]? = some (.string me)) (h5 : C[5]? = some (.slice A1 n1 c1)) (h6 : C[6]? = some (.slice A2 n2 c2)) (L : List Fld) (X : List UInt8) (Hu Pa : ByteArray) (pu : Int) (A3 : Option Addr) (n3 c3 : Nat) (more : List Fld) (w : World)
    (s1 : SliceIn w w.heap.size 2 A1 n1 c1 (fldsV L)) (s2 : SliceIn w w.heap.size 1 A2 n2 c2 (bytesV X)) (s3 : SliceIn w w.heap.size 2 A3 n3 c3 (fldsV more)) (b1 : ShortM L n2) (b3 : ShortM more 0) (b4 : Hu.size ≤ 300) (b5 : -9223372036854775808 ≤ pu) (b6 : pu ≤ 9223372036854775807) :
    Calls Tryz.prog 24 #[.agg C.toArray, .agg #[.string Hu, .int .i64 pu, .string Pa], .slice A3 n3 c3] w fun e w' => ∃ C', e = .returned (.agg C'.toArray) ∧ IsMsg (toldOf (askM me.data.toList Hu.data.toList pu Pa.data.toList L more X).start (askM me.data.toList Hu.data.toList pu Pa.data.toList L more X).fields X) C' w' ∧ Below w.heap.size w w' := by
  have HMi : Hid ((Tryz.prog.info? 27).map (·.size) = some 7) := Lib.hid (by kernel_rfl)
  obtain ⟨w1, hw1⟩ : ∃ W : World, w.alloc (.cells C.toArray 27) = W := ⟨_, rfl⟩
  have B1 : Hid (Below w.heap.size w w1) := Lib.hid (by rw [← hw1]; exact (Below.refl _ _).alloc (Nat.le_refl _) _)
  have Ra1 : Hid (RowAt w1 w.heap.size 27 C) := Lib.hid (by rw [← hw1]; exact RowAt.new w 27 C)
  obtain ⟨w2, hw2⟩ : ∃ W : World, w1.alloc (.cells #[.string Hu, .int .i64 pu, .string Pa] 53) = W := ⟨_, rfl⟩
  have b12 : Below w1.heap.size w1 w2 := by rw [← hw2]; exact (Below.refl _ _).alloc (Nat.le_refl _) _
  have Ru2 : Hid (RowAt w2 w1.heap.size 53 [.string Hu, .int .i64 pu, .string Pa]) := Lib.hid (by rw [← hw2]; exact RowAt.new w1 53 _)
  obtain ⟨w3, hw3⟩ : ∃ W : World, w2.alloc (.cells #[.string ⟨#[]⟩, .string ⟨#[]⟩, .int .i64 0, .string ⟨#[]⟩, .int .i64 0, .slice none 0 0, .slice none 0 0] 27) = W := ⟨_, rfl⟩
  have b23 : Below w2.heap.size w2 w3 := by rw [← hw3]; exact (Below.refl _ _).alloc (Nat.le_refl _) _
  have Rr3 : Hid (RowAt w3 w2.heap.size 27 [.string ⟨#[]⟩, .string ⟨#[]⟩, .int .i64 0, .string ⟨#[]⟩, .int .i64 0, .slice none 0 0, .slice none 0 0]) := Lib.hid (by rw [← hw3]; exact RowAt.new w2 27 _)
  have B3 : Hid (Below w.heap.size w w3) := Lib.hid (below_step (below_step B1.out b12) b23)
  have Ra3 : Hid (RowAt w3 w.heap.size 27 C) := Lib.hid ((Ra1.out.below b12 Ra1.out.lt).below b23 (Ra1.out.below b12 Ra1.out.lt).lt)
  have Ru3 : Hid (RowAt w3 w1.heap.size 53 [.string Hu, .int .i64 pu, .string Pa]) := Lib.hid (Ru2.out.below b23 Ru2.out.lt)
  have HZ1 : Hid (w.heap.size < w1.heap.size ∧ w1.heap.size < w2.heap.size ∧ w2.heap.size < w3.heap.size) := Lib.hid ⟨Ra1.out.lt, Ru2.out.lt, Rr3.out.lt⟩
  obtain ⟨gr, hgr⟩ : ∃ x, w2.heap.size = x := ⟨_, rfl⟩
  obtain ⟨gu, hgu⟩ : ∃ x, w1.heap.size = x := ⟨_, rfl⟩
  rw [hgr] at Rr3 HZ1
  rw [hgu] at Ru3 HZ1
  have Hc := Lib.hid (And.intro h0 (And.intro h5 h6))
  have Hs1 := Lib.hid s1
  have Hs2 := Lib.hid s2
  have Hs3 := Lib.hid s3
  have HB1 := Lib.hid b1
  have HB3 := Lib.hid b3
  have HB4 := Lib.hid b4
  have hL1 := fld_count s1
  have hL3 := fld_count s3
  have hX := s2.1
  rw [bytesV_length] at hX
  have HL : Hid (L.length = n1 ∧ more.length = n3 ∧ X.length = n2 ∧ n1 ≤ 40 ∧ n3 ≤ 40 ∧ n2 ≤ 2000) := Lib.hid ⟨hL1, hL3, by omega, by have := b1.l; omega, by have := b3.l; omega, b1.n⟩
  have u0 := Ru3.out.cell (j := 0) rfl
  have u1 := Ru3.out.cell (j := 1) rfl
  have zH : Hu.size ≤ 300 := b4
  have PU := Lib.hid (And.intro b5 b6)
  clear b12 b23 h0 h5 h6 s1 s2 s3 b1 b3 b4 b5 b6 hL1 hL3 hX Ra1 Ru2 B1
  go_enter Tryz.func24, Tryz.ntmps24
  go_upto_if 15 with fail
  clear hw1 hw2 hw3 hgu hgr
  obtain ⟨ib, hib⟩ : ∃ x, (pu != 80) = x := ⟨_, rfl⟩
  try simp only [hib]
  have HIB := Lib.hid hib
  clear hib
  go_cut [7] from 16 to 21 (fun s7 wx => ∃ H : ByteArray, s7 = .string H ∧ H.data.toList = hostL Hu.data.toList pu ∧ H.size ≤ 400 ∧ Below w3.heap.size w3 wx)
  case first =>
    cases ib
    · have e : pu = 80 := by have := HIB.out; simpa using this
      have e2 : hostL Hu.data.toList pu = Hu.data.toList := by rw [e]; rfl
      have E2 := Lib.hid e2
      clear e e2
      go_wp2_with fail
      go_meet
      exact ⟨Hu, rfl, E2.out.symm, by have := HB4.out; omega, Below.refl _ _⟩
    · have e : ¬ pu = 80 := by have := HIB.out; simpa using this
      have e2 : hostL Hu.data.toList pu = Hu.data.toList ++ 58 :: printN pu 10 := by unfold hostL; rw [if_neg e]
      have E2 := Lib.hid e2
      have NM := Lib.hid (digits_any pu PU.out.2 w3)
      have zD : (⟨(printN pu 10).toArray⟩ : ByteArray).size ≤ 64 := by rw [size_mk]; have := pN_len pu; omega
      obtain ⟨D, hD⟩ : ∃ D : ByteArray, (⟨(printN pu 10).toArray⟩ : ByteArray) = D := ⟨_, rfl⟩
      rw [hD] at NM zD
      have HD := Lib.hid hD
      have zS : (Hu ++ (⟨#[58]⟩ : ByteArray)).size ≤ 301 := by rw [ByteArray.size_append]; show Hu.size + 1 ≤ 301; omega
      clear e e2 hD
      go_wp2_with (go_at_call 55; (with_reducible refine NM.out.mono ?_); rintro e w4 ⟨rfl, hb4⟩; have B4 := Lib.hid hb4; clear hb4)
      go_meet
      refine ⟨_, rfl, ?_, by rw [ByteArray.size_append]; omega, B4.out⟩
      rw [append_data, append_data, E2.out, ← HD.out]
      simp
  case rest =>
  obtain ⟨H, rfl, hH, hHs, hb⟩ := hcut
  obtain ⟨w4, hw4⟩ : ∃ W : World, W = wc := ⟨_, rfl⟩
  subst hw4
  have HH := Lib.hid hH
  have B4 := Lib.hid (below_step B3.out hb)
  have Ra4 := Lib.hid (Ra3.out.below hb Ra3.out.lt)
  have Ru4 := Lib.hid (Ru3.out.below hb Ru3.out.lt)
  have Rr4 := Lib.hid (Rr3.out.below hb Rr3.out.lt)
  clear hH hb u0 u1 zH B3 Ra3 Ru3 Rr3 HIB
  have a5 := Ra4.out.cell Hc.out.2.1
  have FBL : Hid (FldB L n1) := Lib.hid (by rw [← HL.out.1]; exact HB1.out.fldB)
  have FP : Hid (∀ n', n' = (passL L).length → FldB (passL L) n') := Lib.hid (fun n' h => by rw [h]; exact FBL.out.without HL.out.1.symm _)
  have PA := Lib.hid (rpass_any A1 n1 c1 L w4 ((Hs1.out.below B4.out).more B4.out.size) FBL.out HB1.out.conn)
  go_upto_region 5 with (go_at_call 56; (with_reducible refine PA.out.mono ?_); rintro e w5 ⟨A5, n5, c5, rfl, hs5, hb5⟩; have B5 := Lib.hid (below_step B4.out hb5); have Ra5 := Lib.hid (Ra4.out.below hb5 Ra4.out.lt); have Ru5 := Lib.hid (Ru4.out.below hb5 Ru4.out.lt); have Rr5 := Lib.hid (Rr4.out.below hb5 Rr4.out.lt); have W1 := Lib.hid (rw_any A5 n5 c5 (passL L) ⟨#[104, 111, 115, 116]⟩ w5 hs5 (FP.out _ (fld_count hs5).symm) (by decide)); clear hs5 hb5)
  clear a5 PA B4 Ra4 Ru4 Rr4
  go_upto_region 6 with (go_at_call 57; (with_reducible refine W1.out.mono ?_); rintro e w6 ⟨A6, n6, c6, rfl, hs6, hf6, hb6⟩; have B6 := Lib.hid (below_step B5.out hb6); have Ra6 := Lib.hid (Ra5.out.below hb6 Ra5.out.lt); have Ru6 := Lib.hid (Ru5.out.below hb6 Ru5.out.lt); have Rr6 := Lib.hid (Rr5.out.below hb6 Rr5.out.lt); have W2 := Lib.hid (rw_any A6 n6 c6 _ ⟨#[99, 111, 110, 116, 101, 110, 116, 45, 108, 101, 110, 103, 116, 104]⟩ w6 hs6 hf6 (by decide)); clear hs6 hf6 hb6)
  clear W1 B5 Ra5 Ru5 Rr5
  go_upto_region 7 with (go_at_call 57; (with_reducible refine W2.out.mono ?_); rintro e w7 ⟨A7, n7, c7, rfl, hs7, hf7, hb7⟩; have B7 := Lib.hid (below_step B6.out hb7); have Ra7 := Lib.hid (Ra6.out.below hb7 Ra6.out.lt); have Ru7 := Lib.hid (Ru6.out.below hb7 Ru6.out.lt); have Rr7 := Lib.hid (Rr6.out.below hb7 Rr6.out.lt); have W3 := Lib.hid (rw_any A7 n7 c7 _ ⟨#[101, 120, 112, 101, 99, 116]⟩ w7 hs7 hf7 (by decide)); clear hs7 hf7 hb7)
  clear W2 B6 Ra6 Ru6 Rr6
  go_upto_region 8 with (go_at_call 57; (with_reducible refine W3.out.mono ?_); rintro e w8 ⟨A8, n8, c8, rfl, hs8, hf8, hb8⟩; have B8 := Lib.hid (below_step B7.out hb8); have Ra8 := Lib.hid (Ra7.out.below hb8 Ra7.out.lt); have Ru8 := Lib.hid (Ru7.out.below hb8 Ru7.out.lt); have Rr8 := Lib.hid (Rr7.out.below hb8 Rr7.out.lt); have S8 := Lib.hid hs8; have F8 := Lib.hid hf8; clear hs8 hf8 hb8)
  clear W3 B7 Ra7 Ru7 Rr7
  have hfx : withoutL (withoutL (withoutL (passL L) [(⟨#[104, 111, 115, 116]⟩ : ByteArray).data.toList]) [(⟨#[99, 111, 110, 116, 101, 110, 116, 45, 108, 101, 110, 103, 116, 104]⟩ : ByteArray).data.toList]) [(⟨#[101, 120, 112, 101, 99, 116]⟩ : ByteArray).data.toList] = withoutL (passL L) (fixN ++ (more.take 0).map (·.1)) := by
    rw [without_snoc, without_snoc]
    rfl
  rw [hfx] at S8 F8
  clear hfx
  go_wp2_with fail
  go_loopw [8, 9] (fun lv iv wr => ∃ (k : Nat) (A' : Option Addr) (n' c' : Nat), iv = .int .i64 k ∧ k ≤ n3 ∧ lv = .slice A' n' c' ∧ SliceIn wr wr.heap.size 2 A' n' c' (fldsV (withoutL (passL L) (fixN ++ (more.take k).map (·.1)))) ∧ FldB (withoutL (passL L) (fixN ++ (more.take k).map (·.1))) n' ∧ Below w.heap.size w wr ∧ RowAt wr w.heap.size 27 C ∧ RowAt wr gu 53 [.string Hu, .int .i64 pu, .string Pa] ∧ RowAt wr gr 27 [.string ⟨#[]⟩, .string ⟨#[]⟩, .int .i64 0, .string ⟨#[]⟩, .int .i64 0, .slice none 0 0, .slice none 0 0]) (fun _ iv _ => n3 - (intOf iv).toNat)
  case atStart => exact ⟨0, A8, n8, c8, rfl, Nat.zero_le _, rfl, S8.out, F8.out, B8.out, Ra8.out, Ru8.out, Rr8.out⟩
  case round =>
    clear S8 F8 B8 Ra8 Ru8 Rr8
    obtain ⟨wq, hwq⟩ : ∃ x : World, x = wr := ⟨_, rfl⟩
    subst hwq
    obtain ⟨k, A', n', c', rfl, hk, rfl, hs, hf, hb, hra, hru, hrr⟩ := hrel
    have Sq := Lib.hid hs
    have Fq := Lib.hid hf
    have Bq := Lib.hid hb
    have Raq := Lib.hid hra
    have Ruq := Lib.hid hru
    have Rrq := Lib.hid hrr
    clear hs hf hb hra hru hrr
    by_cases hlt : k < n3
    · obtain ⟨f, hfk⟩ : ∃ f, more[k]? = some f := ⟨_, List.getElem?_eq_getElem (by have := HL.out; omega)⟩
      obtain ⟨b, off, rfl, hbk, f0, f1⟩ := fld_at ((Hs3.out.below Bq.out).more Bq.out.size) hfk
      have hfz := (HB3.out.f f (List.mem_of_getElem? hfk)).1
      have hst := rest_fold L more k f hfk
      have W4 := rw_any A' n' c' _ ⟨f.1.toArray⟩ wq Sq.out Fq.out (by rw [size_mk]; omega)
      have e1 : (⟨f.1.toArray⟩ : ByteArray).data.toList = f.1 := rfl
      rw [e1, hst] at W4
      obtain ⟨Xn, hXn⟩ : ∃ Xn : ByteArray, (⟨f.1.toArray⟩ : ByteArray) = Xn := ⟨_, rfl⟩
      rw [hXn] at f0 W4
      replace W4 := Lib.hid W4
      have hki : (k : Int) < (n3 : Int) := by omega
      have hadd : IntKind.i64.wrap ((k : Int) + 1) = ((k + 1 : Nat) : Int) := by rw [IntWalk.i64_in _ ⟨by omega, by have := HL.out; omega⟩]; rfl
      clear hfk hfz hst e1 hXn f1 hbk
      go_wp2_with (go_at_call 57; (with_reducible refine W4.out.mono ?_); rintro e w9 ⟨A9, n9, c9, rfl, hs9, hf9, hb9⟩; have B9 := Lib.hid (below_step Bq.out hb9); have Ra9 := Lib.hid (Raq.out.below hb9 Raq.out.lt); have Ru9 := Lib.hid (Ruq.out.below hb9 Ruq.out.lt); have Rr9 := Lib.hid (Rrq.out.below hb9 Rrq.out.lt); have S9 := Lib.hid hs9; have F9 := Lib.hid hf9; clear hs9 hf9 hb9)
      go_roundw
      case rel => exact ⟨k + 1, A9, n9, c9, by first | rfl | go_num, hlt, rfl, S9.out, F9.out, B9.out, Ra9.out, Ru9.out, Rr9.out⟩
      case measure => simp [intOf]; omega
    · obtain rfl : k = n3 := by omega
      have hki : ¬ (k : Int) < (k : Int) := by omega
      have hrl : withoutL (passL L) (fixN ++ (more.take k).map (·.1)) = restL L more := by
        unfold restL
        rw [List.take_of_length_le (by have := HL.out; omega)]
      rw [hrl] at Sq Fq
      have hrn := fld_count Sq.out
      have HRn : Hid ((restL L more).length = n' ∧ n' ≤ 40) := Lib.hid ⟨hrn, by have := rest_length L more; have := HL.out; omega⟩
      have hr0 : Hid (n' ≤ 40) := Lib.hid HRn.out.2
      clear hrl hrn hlt
      -- the literal list of the host
      have hof0 : (wq.alloc (.cells #[.string ⟨#[72, 111, 115, 116]⟩, .string H] 74)).ownsRow w.heap.size 74 2 (.slice (some ⟨wq.heap.size, 0, none⟩) 1 1) 1 [.string ⟨#[72, 111, 115, 116]⟩, .string H] := World.ownsRow_lit (base := w.heap.size) (e := 74) (size := 2) wq #[.string ⟨#[72, 111, 115, 116]⟩, .string H] 1 Bq.out.size (by simp [maxLen]) rfl
      have OF0 := Lib.hid hof0
      obtain ⟨wl, hwl⟩ : ∃ W : World, wq.alloc (.cells #[.string ⟨#[72, 111, 115, 116]⟩, .string H] 74) = W := ⟨_, rfl⟩
      have bl : Below wq.heap.size wq wl := by rw [← hwl]; exact (Below.refl _ _).alloc (Nat.le_refl _) _
      rw [hwl] at OF0
      have Bl := Lib.hid (below_step Bq.out bl)
      have Ral := Lib.hid (Raq.out.below bl Raq.out.lt)
      have Rul := Lib.hid (Ruq.out.below bl Ruq.out.lt)
      have Rrl := Lib.hid (Rrq.out.below bl Rrq.out.lt)
      have Sl := Lib.hid ((Sq.out.below bl).more bl.size)
      go_upto_region 13 with fail
      try rw [hwl]
      clear hof0 bl hwl Bq Raq Ruq Rrq Sq
      have hF1 : [Value.string ⟨#[72, 111, 115, 116]⟩, .string H] = fldsV [([72, 111, 115, 116], H.data.toList)] := by
        show _ = [Value.string ⟨#[72, 111, 115, 116]⟩, .string ⟨H.data.toList.toArray⟩]
        rw [show (⟨H.data.toList.toArray⟩ : ByteArray) = H from by rw [Array.toArray_toList]]
      rw [hF1] at OF0
      clear hF1
      go_upto_region 14 with (at_builtin; refine wpList_appS fld_ty rfl _ _ rfl w.heap.size (.slice (some ⟨wq.heap.size, 0, none⟩) 1 1) 1 (fldsV [([72, 111, 115, 116], H.data.toList)]) rfl OF0.out wl.heap.size A' n' c' (fldsV (restL L more)) rfl Sl.out (fldsV_one _) (by have := hr0.out; omega) (by have := hr0.out; simp only [maxLen]; omega) Bl.out.size ?_; intro va wa hown hgr; rw [← fldsV_append] at hown; obtain ⟨Aa, ca, rfl, -⟩ := own_slice hown; have Oa := Lib.hid hown; have Ba := Lib.hid (Bl.out.grown hgr Bl.out.size (fun g hg => (OF0.out.lt g hg).1)); have Raa := Lib.hid (row_pastA Ral.out hgr OF0.out (by decide)); have Rua := Lib.hid (row_pastA Rul.out hgr OF0.out (by decide)); have Rra := Lib.hid (row_pastA Rrl.out hgr OF0.out (by decide)); clear hown hgr)
      clear OF0 Bl Ral Rul Rrl Sl
      obtain ⟨na, hna⟩ : ∃ x, 1 + n' = x := ⟨_, rfl⟩
      try rw [hna] at Oa
      try rw [hna]
      have HNA : Hid (na = 1 + n' ∧ na ≤ 41) := Lib.hid ⟨hna.symm, by have := hr0.out; omega⟩
      clear hna
      go_upto_region 15 with (at_builtin; refine wpList_appS fld_ty rfl _ _ rfl w.heap.size (.slice Aa na ca) na (fldsV ([([72, 111, 115, 116], H.data.toList)] ++ restL L more)) rfl Oa.out wa.heap.size A3 k c3 (fldsV more) rfl ((Hs3.out.below Ba.out).more Ba.out.size) (fldsV_one _) (by have := HNA.out; have := HL.out; omega) (by have := HNA.out; have := HL.out; simp only [maxLen]; omega) Ba.out.size ?_; intro vb wb hown hgr; rw [← fldsV_append] at hown; obtain ⟨Ab, cb, rfl, -⟩ := own_slice hown; have Ob := Lib.hid hown; have Bb := Lib.hid (Ba.out.grown hgr Ba.out.size (fun g hg => (Oa.out.lt g hg).1)); have Rab := Lib.hid (row_pastA Raa.out hgr Oa.out (by decide)); have Rub := Lib.hid (row_pastA Rua.out hgr Oa.out (by decide)); have Rrb := Lib.hid (row_pastA Rra.out hgr Oa.out (by decide)); clear hown hgr)
      clear Oa Ba Raa Rua Rra
      obtain ⟨nb, hnb⟩ : ∃ x, na + k = x := ⟨_, rfl⟩
      try rw [hnb] at Ob
      try rw [hnb]
      obtain ⟨FF, hFF⟩ : ∃ x, ([([72, 111, 115, 116], H.data.toList)] ++ restL L more) ++ more = x := ⟨_, rfl⟩
      rw [hFF] at Ob
      have HNB : Hid (nb ≤ 81 ∧ FF.length = nb) := Lib.hid ⟨by have := HNA.out; have := HL.out; omega, by have h1 := fld_count (SliceIn.of_own Ob.out); exact h1⟩
      have HFF : Hid (FF = ([72, 111, 115, 116], H.data.toList) :: (restL L more ++ more)) := Lib.hid (by rw [← hFF]; simp)
      clear hnb hFF
      have a6 := Rab.out.cell Hc.out.2.2
      go_upto_if 56 with fail
      obtain ⟨ib, hib⟩ : ∃ x, decide (0 < n2) = x := ⟨_, rfl⟩
      try simp only [hib]
      have HIB := Lib.hid hib
      clear hib
      go_cut [10] from 57 to 62 (fun s10 wx => ∃ (Af : Option Addr) (kf cf : Nat), s10 = .slice Af kf cf ∧ wx.ownsRow w.heap.size 74 2 (.slice Af kf cf) kf (fldsV (askF Hu.data.toList pu L more X)) ∧ RowAt wx w.heap.size 27 C ∧ RowAt wx gu 53 [.string Hu, .int .i64 pu, .string Pa] ∧ RowAt wx gr 27 [.string ⟨#[]⟩, .string ⟨#[]⟩, .int .i64 0, .string ⟨#[]⟩, .int .i64 0, .slice none 0 0, .slice none 0 0] ∧ Below w.heap.size w wx)
      case first =>
        have hask : askF Hu.data.toList pu L more X = FF ++ (if X = [] then [] else [clF X.length]) := by
          unfold askF
          rw [HFF.out, HH.out]
        have HASK := Lib.hid hask
        clear hask
        cases ib
        · have h0 : n2 = 0 := by have := of_decide_eq_false HIB.out; omega
          have hX : X = [] := List.eq_nil_of_length_eq_zero (by have := HL.out; omega)
          have HX := Lib.hid hX
          clear h0 hX
          go_wp2_with fail
          go_meet
          refine ⟨Ab, nb, cb, rfl, ?_, Rab.out, Rub.out, Rrb.out, Bb.out⟩
          rw [HASK.out, if_pos HX.out, List.append_nil]
          exact Ob.out
        · have h0 : 0 < n2 := of_decide_eq_true HIB.out
          have hX : X ≠ [] := fun e => by have h1 := HL.out; rw [e] at h1; simp only [List.length_nil] at h1; omega
          have hXl : X.length = n2 := by have := HL.out; omega
          have HX := Lib.hid (And.intro hX hXl)
          have LE := Lib.hid (length_any A2 n2 c2 (by have := HL.out; omega) wb)
          have ecl : fldCells (clF n2) = [Value.string ⟨#[67, 111, 110, 116, 101, 110, 116, 45, 76, 101, 110, 103, 116, 104]⟩, .string ⟨(printN n2 10).toArray⟩] := rfl
          rw [ecl] at LE
          obtain ⟨D, hD⟩ : ∃ D : ByteArray, (⟨(printN n2 10).toArray⟩ : ByteArray) = D := ⟨_, rfl⟩
          rw [hD] at LE
          have HD := Lib.hid hD
          clear h0 hX hXl ecl hD
          go_wp2_with (first
            | (go_at_call 58; (with_reducible refine LE.out.mono ?_); rintro e wd ⟨rfl, hbd⟩; have Bd := Lib.hid (below_step Bb.out hbd); have Rad := Lib.hid (Rab.out.below hbd Rab.out.lt); have Rud := Lib.hid (Rub.out.below hbd Rub.out.lt); have Rrd := Lib.hid (Rrb.out.below hbd Rrb.out.lt); have Od := Lib.hid (own_below Ob.out hbd); clear hbd)
            | (at_builtin; refine wpList_app fld_ty rfl _ _ rfl w.heap.size (.slice Ab nb cb) nb (fldsV FF) rfl Od.out 1 1 [.string ⟨#[67, 111, 110, 116, 101, 110, 116, 45, 76, 101, 110, 103, 116, 104]⟩, .string D] rfl (by rfl) (one2 _ _ rfl rfl) (by have := HNB.out; omega) (by have := HNB.out; simp only [maxLen]; omega) Bd.out.size ?_; intro ve we hown hgr; obtain ⟨Ae, ce, rfl, -⟩ := own_slice hown; have Oe := Lib.hid hown; have Be := Lib.hid (Bd.out.grown hgr Bd.out.size (fun g hg => (Od.out.lt g hg).1)); have Rae := Lib.hid (row_pastA Rad.out hgr Od.out (by decide)); have Rue := Lib.hid (row_pastA Rud.out hgr Od.out (by decide)); have Rre := Lib.hid (row_pastA Rrd.out hgr Od.out (by decide)); clear hown hgr))
          go_meet
          refine ⟨Ae, nb + 1, ce, rfl, ?_, Rae.out, Rue.out, Rre.out, Be.out⟩
          rw [HASK.out, if_neg HX.out.1, HX.out.2, fldsV_append]
          have h := Oe.out
          rw [← HD.out] at h
          exact h
      case rest =>
      obtain ⟨Af, kf, cf, rfl, hof, hra, hru, hrr, hb⟩ := hcut
      obtain ⟨wg, hwg⟩ : ∃ W : World, W = wc := ⟨_, rfl⟩
      subst hwg
      have Og := Lib.hid hof
      have Bg := Lib.hid hb
      have Rrg := Lib.hid hrr
      have y0 := hra.cell Hc.out.1
      have y6 := hra.cell Hc.out.2.2
      have v2 := hru.cell (j := 2) rfl
      clear hof hra hru hrr hb a6 Ob Bb Rab Rub Rrb
      go_wp2_with (refine wpList_store_row rfl 27 _ _ rfl gr _ [.string me, .string Pa, .int .i64 0, .string ⟨#[]⟩, .int .i64 1, .slice Af kf cf, .slice A2 n2 c2] [.string ⟨#[]⟩, .string ⟨#[]⟩, .int .i64 0, .string ⟨#[]⟩, .int .i64 0, .slice none 0 0, .slice none 0 0] rfl rfl Rrg.out rfl HMi.out (by simp [Value.oneCell']) ?_; intro wz hrz hoz; have RZ := Lib.hid hrz; have OZ := Lib.hid hoz; clear hrz hoz)
      refine bodyPost_ret (v := .agg #[.string me, .string Pa, .int .i64 0, .string ⟨#[]⟩, .int .i64 1, .slice Af kf cf, .slice A2 n2 c2]) (results_cell Tryz.results24 _ wz ⟨gr, 0, none⟩ rfl _ (run_loadVar_mid wz gr 0 27 _ _ (rangeOf RZ.out) Tryz.underlying27 rfl HMi.out)) rfl ?_
      have bz := OZ.out.below Bg.out (show w.heap.size ≤ gr by have := HZ1.out; omega)
      refine ⟨[.string me, .string Pa, .int .i64 0, .string ⟨#[]⟩, .int .i64 1, .slice Af kf cf, .slice A2 n2 c2], rfl, ⟨Af, kf, cf, A2, n2, c2, ?_, SliceIn.of_own (own_only_ty Og.out OZ.out Rrg.out (by decide)), (Hs2.out.below bz).more bz.size⟩, bz⟩
      show [Value.string me, .string Pa, .int .i64 0, .string ⟨#[]⟩, .int .i64 1, .slice Af kf cf, .slice A2 n2 c2] = [Value.string ⟨me.data.toList.toArray⟩, .string ⟨Pa.data.toList.toArray⟩, .int .i64 0, .string ⟨#[]⟩, .int .i64 1, .slice Af kf cf, .slice A2 n2 c2]
      rw [show (⟨me.data.toList.toArray⟩ : ByteArray) = me from by rw [Array.toArray_toList], show (⟨Pa.data.toList.toArray⟩ : ByteArray) = Pa from by rw [Array.toArray_toList]]
end Go.Proofs.YtniiadhhefgmcaaGreatDoor

