/- Layer 8's laws: MessageTakes, walked. Condition: the world's shape. Printed by mklaw08h.py. -/
import Derived.Test.YteocdpkenlkmbaaGreatDoorTak2
import Derived.Test.YteocdpkenlkmbaaGreatDoorPb
import Derived.Test.YteocdpkenlkmbaaGreatDoorKt
namespace Go.Proofs.YteocdpkenlkmbaaGreatDoor
open Go.RowKit IH
set_option maxRecDepth 100000
theorem row_pastT {w w' : World} {g base size n : Nat} {t e : TypeId} {cs xs : List Value} {v : Value} (h : RowAt w g t cs) (hg : w.grownBy w' v.ownBlock) (hown : w.ownsRow base e size v n xs) (hne : t ≠ e) : RowAt w' g t cs :=
  h.keep (hg.block g h.lt (fun he => ne_type hown h hne g he.symm rfl))
theorem runM_out : ∀ (k : Nat) (r : Rd) (b : List UInt8), b.length ≤ k → (runM r b).1.length ≤ (runM r b).2.1 := by
  intro k
  induction k with
  | zero =>
    intro r b hb
    have hle := stepM_le (r := r) (b := b)
    have ho := stepM_out r b
    rw [runM_step]
    split
    · exact Nat.zero_le _
    · rw [if_pos (by omega)]
      show (stepM r b).1.length ≤ 0
      omega
  | succ k ih =>
    intro r b hb
    have hle := stepM_le (r := r) (b := b)
    have ho := stepM_out r b
    rw [runM_step]
    split
    · exact Nat.zero_le _
    · split
      · show (stepM r b).1.length ≤ 0
        omega
      · have h1 := ih (stepM r b).2.2.2 (b.drop (stepM r b).2.1) (by rw [List.length_drop]; omega)
        unfold aheadM
        split
        · exact Nat.zero_le _
        · show ((stepM r b).1 ++ _).length ≤ (stepM r b).2.1 + _
          rw [List.length_append]
          omega
theorem fed_out {asks : Bool} {method l out : List UInt8} {took : Nat} {r : Rd} (h : Fed asks method l out took r) : out.length ≤ took := by
  have := runM_out l.length (Rd.new asks method) l (Nat.le_refl _)
  rw [h.run] at this
  exact this
theorem fed_few {asks : Bool} {method l out : List UInt8} {took : Nat} {r : Rd} (h : Fed asks method l out took r) : r.fields.length ≤ 128 := by
  have := runM_few l.length (Rd.new asks method) l (Nat.le_refl _) (by simp [Rd.new])
  rw [h.run] at this
  exact this
theorem fresh_at {b g : Nat} {w' W W' : World} (_h : Fresh b w' W) (_ho : Only g W W') (hg : g < b ∨ w'.heap.size ≤ g) : Hid (g < b ∨ w'.heap.size ≤ g) := Lib.hid hg
theorem Fresh.grown {b : Nat} {w' W W' : World} {row : Option Nat} (h : Fresh b w' W) (hg : W.grownBy W' row) (hr : ∀ q, row = some q → q < b) : Fresh b w' W' :=
  ⟨Nat.le_trans h.size hg.size, fun k h1 h2 => (hg.block k (by have := h.size; omega) (fun he => by have := hr k he.symm; omega)).trans (h.block k h1 h2)⟩
theorem own_setT {W : World} {y base size n j : Nat} {t e : TypeId} {cs xs : List Value} {v : Value} (h : W.ownsRow base e size v n xs) (hy : RowAt W y t cs) (hne : t ≠ e) (u : Value) : (W.setCell ⟨y, j, none⟩ u).ownsRow base e size v n xs := by
  have hn := ne_type h hy hne
  refine ⟨h.1, ?_⟩
  rcases h.2 with h2 | ⟨g', cap, cur, hv, hg', hh, r⟩
  · exact .inl h2
  · exact .inr ⟨g', cap, cur, hv, hg', (Below.heap_setCell W ⟨y, j, none⟩ u g' (hn g' (by rw [hv]; rfl))).trans hh, r⟩
theorem RdSt.setT {W : World} {g dg y n c j : Nat} {r : Rd} {A : Option Addr} {cs : List Value} (h : RdSt W g dg r A n c) (hy : RowAt W y 49 cs) (h1 : y ≠ g) (h2 : y ≠ dg) (u : Value) : RdSt (W.setCell ⟨y, j, none⟩ u) g dg r A n c := by
  have hb : ∀ b o, A = some ⟨b, o, none⟩ → b ≠ y := by
    intro b o hA he
    subst he
    obtain ⟨cur, fz, h3⟩ := h.ty b o hA
    obtain ⟨cur2, lo, hi, h4, -⟩ := hy
    rw [h3] at h4
    simp only [Option.some.injEq, Obj.cells.injEq] at h4
    exact absurd h4.2.1 (by decide)
  have ho := Only.setCell y j W u
  exact ⟨h.row.far (Ne.symm h1) u, h.dec.far (Ne.symm h2) u, by rw [ho.size]; exact h.fl.onlyNe ho hb, h.ne, h.gd, h.ty.onlyNe ho hb⟩
/-- The document's Told, what it made being fresh. -/
theorem told_fresh (asks : Bool) (M : ByteArray) (A : Option Addr) (n c : Nat) (l : List UInt8) (w : World) (hin : SliceIn w w.heap.size 1 A n c (bytesV l)) (hn : n ≤ 65535) :
    Calls Tryz.prog 24 #[.slice A n c, .bool asks, .string M] w fun e w' => ∃ C, e = .returned (.tuple #[.agg C.toArray, .bool (toldM asks M.data.toList l).framed, .int .i64 (toldM asks M.data.toList l).n, .bool (toldM asks M.data.toList l).over, .int .i64 (toldM asks M.data.toList l).e]) ∧ RightC C ∧ (∀ W', Fresh w.heap.size w' W' → IsMsg (toldM asks M.data.toList l) C W') ∧ Below w.heap.size w w' := by
  refine (rtold8_any asks M A n c l w hin hn).mono ?_
  rintro e w' ⟨vF, vB, rfl, h1, h2, h3⟩
  obtain ⟨AF, cF, rfl, -⟩ := own_slice h1
  obtain ⟨AB, cB, rfl, -⟩ := own_slice h2
  exact ⟨_, rfl, msgC_right _ _ _ _ _ _ _, fun W' hf => ⟨_, _, _, _, _, _, rfl, SliceIn.of_own (own_fresh h1 hf), SliceIn.of_own (own_fresh h2 hf)⟩, h3⟩
set_option maxHeartbeats 8000000 in
theorem mtk_far (A : Option Addr) (n c : Nat) (asks : Bool) (M : ByteArray) (A1 : Option Addr) (n1 c1 : Nat) (w : World) (hsh : w.ShapedOpen Tryz.prog) (h : 4000 < n ∨ 100 < n1 ∨ 100 < M.size) :
    Calls Tryz.prog 5 #[.slice A n c, .agg #[.bool asks, .string M, .slice A1 n1 c1]] w fun e w' => e = .returned (.bool true) ∧ Below w.heap.size w w' := by
  have AW := Lib.hid (fun W (hW : Below w.heap.size w W) => awake08_any W (shaped_below hsh hW))
  clear hsh
  obtain ⟨w1, hw1⟩ : ∃ W : World, w.alloc (.cells #[.bool asks, .string M, .slice A1 n1 c1] 40) = W := ⟨_, rfl⟩
  have B1 : Hid (Below w.heap.size w w1) := Lib.hid (by rw [← hw1]; exact (Below.refl _ _).alloc (Nat.le_refl _) _)
  have Rb1 : Hid (RowAt w1 w.heap.size 40 [.bool asks, .string M, .slice A1 n1 c1]) := Lib.hid (by rw [← hw1]; exact RowAt.new w 40 [.bool asks, .string M, .slice A1 n1 c1])
  have tokA : Hid True := Lib.hid trivial
  have key : ∀ (i1 i2 i3 : Bool), decide ((4000 : Int) < (n : Int)) = i1 → decide ((100 : Int) < (n1 : Int)) = i2 → decide ((100 : Int) < (M.size : Int)) = i3 → (i1 || (i2 || i3)) = true := by
    intro i1 i2 i3 h1 h2 h3
    rw [← h1, ← h2, ← h3]
    simp only [Bool.or_eq_true, decide_eq_true_eq]
    omega
  by_cases hA : (4000 : Int) < (n : Int)
  · clear key h
    go_enter Tryz.func5, Tryz.ntmps5
    go_wp2_with (first
      | (have _t := tokA; go_at_call 21; (with_reducible refine (AW.out _ B1.out).mono ?_); rintro e w2 ⟨rfl, hb2⟩; have B2 := Lib.hid (below_step B1.out hb2); have Rb2 := Rb1.out.below hb2 Rb1.out.lt; have x1 := Rb2.cell (j := 1) rfl; have x2 := Rb2.cell (j := 2) rfl; clear Rb2 hb2 tokA _t)
      | (go_at_call 21; (with_reducible refine (AW.out _ B2.out).mono ?_); rintro e w3 ⟨rfl, hb3⟩; have B3 := Lib.hid (below_step B2.out hb3); clear hb3))
    go_ret
    exact ⟨rfl, B3.out⟩
  · by_cases hB : (100 : Int) < (n1 : Int)
    · clear key h
      go_enter Tryz.func5, Tryz.ntmps5
      go_wp2_with (first
        | (have _t := tokA; go_at_call 21; (with_reducible refine (AW.out _ B1.out).mono ?_); rintro e w2 ⟨rfl, hb2⟩; have B2 := Lib.hid (below_step B1.out hb2); have Rb2 := Rb1.out.below hb2 Rb1.out.lt; have x1 := Rb2.cell (j := 1) rfl; have x2 := Rb2.cell (j := 2) rfl; clear Rb2 hb2 tokA _t)
        | (go_at_call 21; (with_reducible refine (AW.out _ B2.out).mono ?_); rintro e w3 ⟨rfl, hb3⟩; have B3 := Lib.hid (below_step B2.out hb3); clear hb3))
      go_ret
      exact ⟨rfl, B3.out⟩
    · have hC : (100 : Int) < (M.size : Int) := by omega
      clear key h
      go_enter Tryz.func5, Tryz.ntmps5
      go_wp2_with (first
        | (have _t := tokA; go_at_call 21; (with_reducible refine (AW.out _ B1.out).mono ?_); rintro e w2 ⟨rfl, hb2⟩; have B2 := Lib.hid (below_step B1.out hb2); have Rb2 := Rb1.out.below hb2 Rb1.out.lt; have x1 := Rb2.cell (j := 1) rfl; have x2 := Rb2.cell (j := 2) rfl; clear Rb2 hb2 tokA _t)
        | (go_at_call 21; (with_reducible refine (AW.out _ B2.out).mono ?_); rintro e w3 ⟨rfl, hb3⟩; have B3 := Lib.hid (below_step B2.out hb3); clear hb3))
      go_ret
      exact ⟨rfl, B3.out⟩
set_option maxHeartbeats 64000000 in
theorem mtk_good (A : Option Addr) (n c : Nat) (L : List UInt8) (asks : Bool) (M : ByteArray) (A1 : Option Addr) (n1 c1 : Nat) (K : List UInt8) (w : World) (hsh : w.ShapedOpen Tryz.prog) (hin : SliceIn w w.heap.size 1 A n c (bytesV L)) (hk : SliceIn w w.heap.size 1 A1 n1 c1 (bytesV K)) (hn : n ≤ 4000) (hn1 : n1 ≤ 100) (hM : M.size ≤ 100) :
    Calls Tryz.prog 5 #[.slice A n c, .agg #[.bool asks, .string M, .slice A1 n1 c1]] w fun e w' => e = .returned (.bool true) ∧ Below w.heap.size w w' := by
  have HMi : Hid ((Tryz.prog.info? 49).map (·.size) = some 7) := Lib.hid (by kernel_rfl)
  have GI : Hid (∀ E : List Value, RightC E → (Tryz.prog.info? 49).map (·.size) = some E.length) := Lib.hid (fun E h => by rw [h.1]; exact HMi.out)
  have kc : ∀ w : World, (convert 38 38 (.slice (some ⟨w.heap.size, 0, none⟩) 18 18)).run Tryz.prog (w.alloc (.cells #[.int .u8 71, .int .u8 69, .int .u8 84, .int .u8 32, .int .u8 47, .int .u8 32, .int .u8 72, .int .u8 84, .int .u8 84, .int .u8 80, .int .u8 47, .int .u8 49, .int .u8 46, .int .u8 49, .int .u8 13, .int .u8 10, .int .u8 13, .int .u8 10] 5)) = .ok (.slice (some ⟨w.heap.size, 0, none⟩) 18 18) (w.alloc (.cells #[.int .u8 71, .int .u8 69, .int .u8 84, .int .u8 32, .int .u8 47, .int .u8 32, .int .u8 72, .int .u8 84, .int .u8 84, .int .u8 80, .int .u8 47, .int .u8 49, .int .u8 46, .int .u8 49, .int .u8 13, .int .u8 10, .int .u8 13, .int .u8 10] 5 (18, 19))) := fun w => const_bytes 38 5 #[.int .u8 71, .int .u8 69, .int .u8 84, .int .u8 32, .int .u8 47, .int .u8 32, .int .u8 72, .int .u8 84, .int .u8 84, .int .u8 80, .int .u8 47, .int .u8 49, .int .u8 46, .int .u8 49, .int .u8 13, .int .u8 10, .int .u8 13, .int .u8 10] 18 18 Tryz.underlying38 Tryz.underlying5 w
  have Hkc := Lib.hid kc
  have AW := Lib.hid (fun W (hW : Below w.heap.size w W) => awake08_any W (shaped_below hsh hW))
  have NR := Lib.hid (fun W => mnew_any asks M W)
  have TD := Lib.hid (fun (W : World) (k : Nat) (A' : Option Addr) (hk : k ≤ n) (h : SliceIn W W.heap.size 1 A' k c (bytesV (L.take k))) => told_fresh asks M A' k c (L.take k) W h (by omega))
  have HSH := Lib.hid hsh
  have hLl : L.length = n := by have := hin.1; rw [bytesV_length] at this; omega
  have hKl : K.length = n1 := by have := hk.1; rw [bytesV_length] at this; omega
  have HLl := Lib.hid hLl
  have HKl := Lib.hid hKl
  have Hin := Lib.hid hin
  have Hk := Lib.hid hk
  have Hz : Hid (n ≤ 4000 ∧ n1 ≤ 100 ∧ n ≤ c ∧ c ≤ maxLen ∧ M.size ≤ 100) := Lib.hid ⟨hn, hn1, hin.2.1, hin.2.2.1, hM⟩
  have hI1 : ¬ (4000 : Int) < (n : Int) := by omega
  have hI2 : ¬ (100 : Int) < (n1 : Int) := by omega
  have hI3 : ¬ (100 : Int) < (M.size : Int) := by omega
  obtain ⟨w1, hw1⟩ : ∃ W : World, w.alloc (.cells #[.bool asks, .string M, .slice A1 n1 c1] 40) = W := ⟨_, rfl⟩
  have B1 : Hid (Below w.heap.size w w1) := Lib.hid (by rw [← hw1]; exact (Below.refl _ _).alloc (Nat.le_refl _) _)
  have Rb1 : Hid (RowAt w1 w.heap.size 40 [.bool asks, .string M, .slice A1 n1 c1]) := Lib.hid (by rw [← hw1]; exact RowAt.new w 40 [.bool asks, .string M, .slice A1 n1 c1])
  have tokA : Hid True := Lib.hid trivial
  clear hsh hin hk hn hn1 hM hLl hKl kc
  go_enter Tryz.func5, Tryz.ntmps5
  go_upto_region 6 with (first
    | (have _t := tokA; go_at_call 21; (with_reducible refine (AW.out _ B1.out).mono ?_); rintro e w2 ⟨rfl, hb2⟩; have B2 := Lib.hid (below_step B1.out hb2); have Rb2 := Lib.hid (Rb1.out.below hb2 Rb1.out.lt); have x0 := Rb2.out.cell (j := 0) rfl; have x1 := Rb2.out.cell (j := 1) rfl; have x2 := Rb2.out.cell (j := 2) rfl; clear hb2 tokA _t)
    | (go_at_call 22; (with_reducible refine (NR.out _).mono ?_); rintro e wa ⟨g, dg, rfl, hg1, hg2, hg3, hr, hd, hba⟩; have Ba := Lib.hid (below_step B2.out hba); have Rba := Lib.hid (Rb2.out.below hba Rb2.out.lt); have STa : Hid (RdSt wa g dg (Rd.new asks M.data.toList) none 0 0) := Lib.hid ⟨hr, hd, SliceIn.none_ (Nat.zero_le _), (fun b o h => by cases h), hg3, (fun b o h => by cases h)⟩; have HG : Hid (w2.heap.size ≤ g ∧ w2.heap.size ≤ dg ∧ g < wa.heap.size ∧ dg < wa.heap.size ∧ w.heap.size < w2.heap.size) := Lib.hid ⟨hg1, hg2, hr.lt, hd.lt, Rb2.out.lt⟩; clear hr hd hba hg1 hg2 hg3 x0 x1 x2))
  clear AW NR B1 B2 Rb1 Rb2
  have RIa : Hid (RdIn (Rd.new asks M.data.toList)) := Lib.hid (newR_in asks M.data.toList (by have := Hz.out; rw [data_len]; omega))
  go_wp2_with fail
  go_loopw [6, 7, 8, 9] (fun ov tv av iv wr => ∃ (O : List UInt8) (tk a i : Nat) (r : Rd) (A2 : Option Addr) (n2 c2 : Nat), tv = .int .i64 tk ∧ av = .int .i64 a ∧ iv = .int .i64 i ∧ Fed asks M.data.toList (L.take a) O tk r ∧ a ≤ n ∧ i ≤ n1 + 1 ∧ (i = n1 + 1 → a = n) ∧ wr.ownsRow wa.heap.size 5 1 ov O.length (bytesV O) ∧ RdSt wr g dg r A2 n2 c2 ∧ RdIn r ∧ r.fault = 0 ∧ Below w.heap.size w wr ∧ RowAt wr w.heap.size 40 [.bool asks, .string M, .slice A1 n1 c1] ∧ wa.heap.size ≤ wr.heap.size) (fun _ _ _ iv _ => n1 + 1 - (intOf iv).toNat)
  case atStart =>
    exact ⟨[], 0, 0, 0, _, none, 0, 0, rfl, rfl, rfl, ⟨by rw [List.take_zero]; exact fed_zero asks _⟩, Nat.zero_le _, Nat.zero_le _, (fun h => by omega), by simpa [bytesV] using World.ownsRow_nil _ _ _ _, STa.out, RIa.out, rfl, Ba.out, Rba.out, Nat.le_refl _⟩
  case round =>
    obtain ⟨wq, hwq⟩ : ∃ x : World, x = wr := ⟨_, rfl⟩
    subst hwq
    obtain ⟨O, tk, a, i, r, A2, n2, c2, rfl, rfl, rfl, hfed, han, hi1, hian, hown, hst, hri, hf0, hbq, hbx, hsz⟩ := hrel
    obtain ⟨Av, cv, rfl, -⟩ := own_slice hown
    have FED := Lib.hid hfed
    have HAN := Lib.hid han
    have HI1 := Lib.hid hi1
    have HIAN := Lib.hid hian
    have OWq := Lib.hid hown
    have STq := Lib.hid hst
    have RIq := Lib.hid hri
    have HF0 := Lib.hid hf0
    have Bq := Lib.hid hbq
    have Rbq := Lib.hid hbx
    have SZq := Lib.hid hsz
    have x2 := hbx.cell (j := 2) rfl
    clear hfed han hi1 hian hown hst hri hf0 hbq hbx hsz
    by_cases hi : i ≤ n1
    · have hiI : (i : Int) ≤ (n1 : Int) := by omega
      have HI := Lib.hid hi
      clear hi
      go_upto_if 66 with fail
      obtain ⟨ib, hib⟩ : ∃ x, decide (i < n1) = x := ⟨_, rfl⟩
      simp only [hib]
      have HIB := Lib.hid hib
      clear hib
      go_cut [8] from 67 to 79 (fun s8 wx => ∃ k : Nat, s8 = .int .i64 k ∧ a ≤ k ∧ k ≤ n ∧ (i = n1 → k = n) ∧ wx = wq)
      case first =>
        have h5 := HAN.out
        cases ib
        · have hi' : ¬ ((i : Int) < (n1 : Int)) := by have := of_decide_eq_false HIB.out; omega
          go_wp2_with fail
          go_meet
          exact ⟨n, rfl, h5, Nat.le_refl _, fun _ => rfl, rfl⟩
        · have hi : i < n1 := of_decide_eq_true HIB.out
          have hi' : (i : Int) < (n1 : Int) := by omega
          obtain ⟨b1, o1, hA, hb1, hcel⟩ := Hk.out.2.2.2 (by omega)
          obtain ⟨u, hu⟩ : ∃ u, K[i]? = some u := ⟨_, List.getElem?_eq_getElem (by have := HKl.out; omega)⟩
          have hcl := hcel i (byteV u) (by rw [bytesV_get, hu]; rfl)
          have hcq := (Bq.out.cell (p := ⟨b1, o1 + i, none⟩) hb1).trans hcl
          unfold byteV at hcq
          obtain ⟨k, hk⟩ : ∃ k, min n (a + u.toNat) = k := ⟨_, rfl⟩
          have hul := u.toNat_lt
          have hmn : min (n : Int) ((a : Int) + (u.toNat : Int)) = (k : Int) := by omega
          have hadd : IntKind.i64.wrap ((a : Int) + (u.toNat : Int)) = (a : Int) + (u.toNat : Int) := IntWalk.i64_in _ ⟨by omega, by have := Hz.out; omega⟩
          have Hk2 := Lib.hid hk
          have hu0 : (u.toNat : Int) < 256 := by omega
          obtain ⟨un, hun⟩ : ∃ x, u.toNat = x := ⟨_, rfl⟩
          rw [hun] at hcq hmn hadd hu0
          have Hun := Lib.hid hun
          clear hk hcl hcel hu hun hul
          subst hA
          go_wp2_with fail
          go_meet
          exact ⟨k, rfl, by have := Hk2.out; omega, by have := Hk2.out; omega, fun h => by omega, rfl⟩
      case rest =>
      obtain ⟨k, rfl, hak, hkn, hikn, hwc⟩ := hcut
      subst wc
      have HAK := Lib.hid hak
      have HKN := Lib.hid hkn
      have HIKN := Lib.hid hikn
      clear hak hkn hikn x2
      have htka : tk ≤ a := by
        have := fed_le FED.out
        rw [List.length_take] at this
        omega
      have hlt : (L.take a).length = a := by rw [List.length_take]; have := HLl.out; have := HAN.out; omega
      have fs := fed_says FED.out (b := L) (k := k) (by rw [hlt]; exact HAK.out) (by rw [hlt]) (by have := HLl.out; have := Hz.out; omega)
      have hrin := runM_in _ r ((L.take k).drop tk) (Nat.le_refl _) RIq.out HF0.out
      have TKc := fun (W : World) (g' cap : Nat) (hst : RdSt W g dg r A2 n2 c2) (hin' : SliceIn W W.heap.size 1 (some ⟨g', 0, none⟩) (k - tk) cap (bytesV ((L.take k).drop tk))) (hb : Below w.heap.size w W) (hne : g' ≠ g ∧ g' ≠ dg) => rdtake_any w.heap.size g dg r A2 n2 c2 g' 0 (k - tk) cap _ W hb.size (by have := HG.out; omega) (fun W' hW' => shaped_below HSH.out (hb.trans hW')) (by have := HG.out; omega) hst RIq.out HF0.out hin' (by have := HKN.out; have := Hz.out; omega) hne
      have TDk := fun (W : World) (A' : Option Addr) (h : SliceIn W W.heap.size 1 A' k c (bytesV (L.take k))) => TD.out W k A' HKN.out h
      obtain ⟨R, hR⟩ : ∃ R, runM r ((L.take k).drop tk) = R := ⟨_, rfl⟩
      obtain ⟨T, hT⟩ : ∃ T, toldM asks M.data.toList (L.take k) = T := ⟨_, rfl⟩
      rw [hR, hT] at fs
      rw [hR] at hrin
      simp only [hR] at TKc
      simp only [hT] at TDk
      clear hR hT
      obtain ⟨X, rn, re, r2⟩ := R
      obtain ⟨ts, tf, tb, tfr, tn, tov, te⟩ := T
      obtain ⟨f1, f2, f3, f4, f5, f6, f7, f8⟩ := fs
      simp only at f1 f2 f3 f4 f5 f6 f7 f8 hrin TKc TDk
      obtain ⟨xl, hxl⟩ : ∃ x, X.length = x := ⟨_, rfl⟩
      simp only [hxl] at TKc
      have HXL := Lib.hid hxl
      clear hxl
      subst f1
      have F2 := Lib.hid f2
      have F3 := Lib.hid f3
      have F4 := Lib.hid f4
      have F5 := Lib.hid f5
      have F6 := Lib.hid f6
      have F7 := Lib.hid f7
      have F8 := Lib.hid f8
      have HRIN := Lib.hid hrin
      replace TKc := Lib.hid TKc
      replace TDk := Lib.hid TDk
      have HTKA := Lib.hid htka
      clear f2 f3 f4 f5 f6 f7 f8 hrin hlt htka
      have Hown0 := Lib.hid (World.ownsRow_lit (base := wq.heap.size) (e := 5) (size := 1) wq #[] 0 (Nat.le_refl _) (by simp [maxLen]) rfl)
      have HinS := Lib.hid ((sub_any ((Hin.out.below Bq.out).more Bq.out.size) tk k (by have := HTKA.out; have := HAK.out; omega) HKN.out).alloc (Nat.le_refl _) (.cells #[] 5))
      go_upto_region 15 with (first
        | (refine wpList_slice_lh rfl 38 5 _ _ _ rfl Tryz.underlying38 (by kernel_rfl) A n c tk k rfl rfl rfl (by have := HTKA.out; have := HAK.out; omega) (by have := HKN.out; have := Hz.out; omega) ?_)
        | (at_builtin; refine wpList_appN u8_ty rfl _ _ rfl wq.heap.size _ 0 [] rfl Hown0.out (by intro h; cases h) wq.heap.size (sliceA A c tk) (k - tk) (c - tk) (bytesV ((L.take k).drop tk)) rfl HinS.out (bytesV_one _) (by have := HKN.out; have := Hz.out; omega) (by have := HKN.out; have := Hz.out; simp only [maxLen]; omega) (by simp) ?_; intro g3 cap3 w3 hown' hgr; rw [Nat.zero_add, List.nil_append] at hown'; simp only [Nat.zero_add]; have b3 := ((Below.refl wq.heap.size wq).alloc (Nat.le_refl _) (.cells #[] 5)).grown hgr (by simp) (fun q hq => (Hown0.out.lt q hq).1); have B3 := Lib.hid (below_step Bq.out b3); have ST3 := Lib.hid (STq.out.at_ b3); have OW3 := Lib.hid (own_below OWq.out b3); have Rb3 := Lib.hid (Rbq.out.below b3 Rbq.out.lt); have SL3 := Lib.hid (SliceIn.of_own hown'); have NE3 : Hid (g3 ≠ g ∧ g3 ≠ dg) := Lib.hid (by have h1 := (hown'.lt g3 rfl).1; have h2 := STq.out.row.lt; have h3 := STq.out.dec.lt; exact ⟨by omega, by omega⟩); have SZ3 := Lib.hid (Nat.le_trans SZq.out b3.size); clear hown' hgr b3)
        | (go_at_call 23; (with_reducible refine (TKc.out _ _ _ ST3.out SL3.out B3.out NE3.out).mono ?_); rintro e w4 ⟨v4, A4, n4, c4, rfl, ho4, hst4, hs4⟩; obtain ⟨Ax, cx, rfl, hsx⟩ := own_slice ho4; have B4 : Hid (Below w.heap.size w w4) := Lib.hid (B3.out.trans ((hs4.mono B3.out.size).below (by have := HG.out; omega) (by have := HG.out; omega))); have OW4 := Lib.hid (own_save2 OW3.out hs4 (by have := HG.out; omega) (by have := HG.out; omega)); have Rb4 := Lib.hid (Rb3.out.save2 hs4 (by have := HG.out; omega) (by have := HG.out; omega) Rb3.out.lt); have ST4 := Lib.hid hst4; have SX4 := Lib.hid hsx; have SZ4 := Lib.hid (Nat.le_trans SZ3.out hs4.size); clear ho4 hst4 hs4 hsx))
      clear TKc B3 ST3 OW3 Rb3 SL3 NE3 SZ3 Hown0 HinS OWq STq Rbq SZq
      go_cut [13, 14, 15, 16, 17] from 92 to 105 (fun s13 s14 s15 s16 s17 wx => ∃ (gy b : Nat) (C : List Value) (w5 : World), s13 = .pointer (some ⟨gy, 0, none⟩) ∧ s14 = .bool tfr ∧ s15 = .int .i64 tn ∧ s16 = .bool tov ∧ s17 = .int .i64 re ∧ RowAt wx gy 49 C ∧ RightC C ∧ (∀ W', Fresh b w5 W' → IsMsg ⟨ts, tf, tb, tfr, tn, tov, re⟩ C W') ∧ Fresh b w5 wx ∧ w4.heap.size ≤ b ∧ (gy < b ∨ w5.heap.size ≤ gy) ∧ w4.heap.size ≤ gy ∧ Below w4.heap.size w4 wx)
      case first =>
        have hkc : k ≤ c := by have := HKN.out; have := Hz.out; omega
        refine wp_region_tree (fun W => Below w4.heap.size w4 W) (.take 0 (.take 1 (.take 2 (.take 3 (.take 4 (.take 5 (.take 6 (.node (.fork 7 (.take 8 (.take 9 (.take 10 (.take 11 (.take 12 (.take 13 (.node (.fork 14 (.node (.fork 15 (.take 16 (.take 17 (.take 18 (.take 19 (.done))))) (.stop))) (.stop))))))))) (.fork 14 (.node (.fork 7 (.take 8 (.take 9 (.take 10 (.take 11 (.take 12 (.take 13 (.node (.fork 15 (.take 16 (.take 17 (.take 18 (.take 19 (.done))))) (.stop))))))))) (.stop))) (.stop))))))))))) (by kernel_rfl) (by kernel_rfl) (of_decide_eq_true (by kernel_rfl)) rfl (by kernel_rfl) (below_drewN (Below.refl _ _) 1) ?_
        intro w1 hH
        iterate 7
          refine tree_take (v := ?_) rfl (by rfl) ?_ ?_
          rotate_left
          · intro w2 hSw
            have ra := Rb4.out.below hSw Rb4.out.lt
            have z0 := ra.cell (j := 0) rfl
            have z1 := ra.cell (j := 1) rfl
            clear ra
            clear hSw
            go_simp
            try with_reducible rfl
          try simp only [Act.put, List.setIfInBounds_toArray, List.set_cons_zero, List.set_cons_succ]
        refine tree_node ?_
        refine tree_move rfl (by rfl) (fun K hK => ?_) ?_
        · go_simp
          try (have GL := Lib.hid FB.out.lt)
          have SB := Lib.hid hH.out.size
          (with_reducible refine (TDk.out _ _ (take_any ((Hin.out.below (below_step B4.out hH.out)).more (below_step B4.out hH.out).size) k HKN.out (fun _ => rfl))).mono ?_)
          rintro e w5 ⟨C, rfl, hC5, hF5, hb5⟩
          refine hK.out _ _ (below_step hH.out hb5) ?_
          try (replace FB := Lib.hid (FB.out.below hb5 FB.out.lt))
          have EE := Lib.hid hC5
          have FR := fresh_start (hF5 _)
          have HF5 := Lib.hid hF5
          clear hH hK K hC5 hF5 hb5
          intro hH
          try simp only [Act.put, List.setIfInBounds_toArray, List.set_cons_zero, List.set_cons_succ]
          iterate 6
            refine tree_take (v := ?_) rfl (by rfl) ?_ ?_
            rotate_left
            · intro w2 hSw
              have ra := Rb4.out.below hSw Rb4.out.lt
              have z0 := ra.cell (j := 0) rfl
              have z1 := ra.cell (j := 1) rfl
              clear ra
              clear hSw
              go_simp
              try with_reducible rfl
            try simp only [Act.put, List.setIfInBounds_toArray, List.set_cons_zero, List.set_cons_succ]
          refine tree_node ?_
          refine tree_move rfl (by rfl) (fun K hK => ?_) ?_
          · go_simp
            refine hK.out _ _ (hH.out.alloc hH.out.size _) ?_
            have FB := Lib.hid (row_at hH 49 [.string ⟨#[]⟩, .string ⟨#[]⟩, .int .i64 0, .string ⟨#[]⟩, .int .i64 0, .slice none 0 0, .slice none 0 0])
            have HGy := Lib.hid hH.out.size
            try (replace FR := Lib.hid (FR.out.alloc (.cells #[.string ⟨#[]⟩, .string ⟨#[]⟩, .int .i64 0, .string ⟨#[]⟩, .int .i64 0, .slice none 0 0, .slice none 0 0] 49)))
            clear hH hK K
            intro hH
            try simp only [Act.put, List.setIfInBounds_toArray, List.set_cons_zero, List.set_cons_succ]
            refine tree_node ?_
            refine tree_move rfl (by rfl) (fun K hK => ?_) ?_
            · refine wp_store_row 49 _ _ rfl _ _ C _ rfl rfl (row_size FB.out (by simp)) (by rw [EE.out.1]; rfl) (GI.out _ EE.out) EE.out.2 ?_
              intro w7 hr7 ho7
              refine hK.out _ _ (ho7.below hH.out (by have := HGy.out; first | exact this | (simp at this; omega))) ?_
              have FR7 := Lib.hid hr7
              have HD7 := fresh_at FR.out ho7 (by first | exact Or.inl GL.out | exact Or.inr (Nat.le_refl _) | exact Or.inl (by have := GL.out; simp at this; omega))
              have HH := Lib.hid (FR.out.only ho7 HD7.out)
              clear hH hK K hr7 ho7 FB FR
              intro hH
              try simp only [Act.put]
              iterate 4
                refine tree_take (v := ?_) rfl (by rfl) ?_ ?_
                rotate_left
                · intro w2 hSw
                  have ra := Rb4.out.below hSw Rb4.out.lt
                  have z0 := ra.cell (j := 0) rfl
                  have z1 := ra.cell (j := 1) rfl
                  clear ra
                  clear hSw
                  go_simp
                  try with_reducible rfl
                try simp only [Act.put, List.setIfInBounds_toArray, List.set_cons_zero, List.set_cons_succ]
              refine tree_done ?_
              go_wp2_with fail
              go_meet
              exact ⟨_, _, C, _, rfl, rfl, rfl, rfl, rfl, FR7.out, EE.out, HF5.out, HH.out, SB.out, HD7.out, HGy.out, hH.out⟩
            exact tree_stop
          exact tree_stop
        refine tree_move rfl (by rfl) (fun K hK => ?_) ?_
        · go_simp
          refine hK.out _ _ (hH.out.alloc hH.out.size _) ?_
          have FB := Lib.hid (row_at hH 49 [.string ⟨#[]⟩, .string ⟨#[]⟩, .int .i64 0, .string ⟨#[]⟩, .int .i64 0, .slice none 0 0, .slice none 0 0])
          have HGy := Lib.hid hH.out.size
          try (replace FR := Lib.hid (FR.out.alloc (.cells #[.string ⟨#[]⟩, .string ⟨#[]⟩, .int .i64 0, .string ⟨#[]⟩, .int .i64 0, .slice none 0 0, .slice none 0 0] 49)))
          clear hH hK K
          intro hH
          try simp only [Act.put, List.setIfInBounds_toArray, List.set_cons_zero, List.set_cons_succ]
          refine tree_node ?_
          refine tree_move rfl (by rfl) (fun K hK => ?_) ?_
          · go_simp
            try (have GL := Lib.hid FB.out.lt)
            have SB := Lib.hid hH.out.size
            (with_reducible refine (TDk.out _ _ (take_any ((Hin.out.below (below_step B4.out hH.out)).more (below_step B4.out hH.out).size) k HKN.out (fun _ => rfl))).mono ?_)
            rintro e w5 ⟨C, rfl, hC5, hF5, hb5⟩
            refine hK.out _ _ (below_step hH.out hb5) ?_
            try (replace FB := Lib.hid (FB.out.below hb5 FB.out.lt))
            have EE := Lib.hid hC5
            have FR := fresh_start (hF5 _)
            have HF5 := Lib.hid hF5
            clear hH hK K hC5 hF5 hb5
            intro hH
            try simp only [Act.put, List.setIfInBounds_toArray, List.set_cons_zero, List.set_cons_succ]
            iterate 6
              refine tree_take (v := ?_) rfl (by rfl) ?_ ?_
              rotate_left
              · intro w2 hSw
                have ra := Rb4.out.below hSw Rb4.out.lt
                have z0 := ra.cell (j := 0) rfl
                have z1 := ra.cell (j := 1) rfl
                clear ra
                clear hSw
                go_simp
                try with_reducible rfl
              try simp only [Act.put, List.setIfInBounds_toArray, List.set_cons_zero, List.set_cons_succ]
            refine tree_node ?_
            refine tree_move rfl (by rfl) (fun K hK => ?_) ?_
            · refine wp_store_row 49 _ _ rfl _ _ C _ rfl rfl (row_size FB.out (by simp)) (by rw [EE.out.1]; rfl) (GI.out _ EE.out) EE.out.2 ?_
              intro w7 hr7 ho7
              refine hK.out _ _ (ho7.below hH.out (by have := HGy.out; first | exact this | (simp at this; omega))) ?_
              have FR7 := Lib.hid hr7
              have HD7 := fresh_at FR.out ho7 (by first | exact Or.inl GL.out | exact Or.inr (Nat.le_refl _) | exact Or.inl (by have := GL.out; simp at this; omega))
              have HH := Lib.hid (FR.out.only ho7 HD7.out)
              clear hH hK K hr7 ho7 FB FR
              intro hH
              try simp only [Act.put]
              iterate 4
                refine tree_take (v := ?_) rfl (by rfl) ?_ ?_
                rotate_left
                · intro w2 hSw
                  have ra := Rb4.out.below hSw Rb4.out.lt
                  have z0 := ra.cell (j := 0) rfl
                  have z1 := ra.cell (j := 1) rfl
                  clear ra
                  clear hSw
                  go_simp
                  try with_reducible rfl
                try simp only [Act.put, List.setIfInBounds_toArray, List.set_cons_zero, List.set_cons_succ]
              refine tree_done ?_
              go_wp2_with fail
              go_meet
              exact ⟨_, _, C, _, rfl, rfl, rfl, rfl, rfl, FR7.out, EE.out, HF5.out, HH.out, SB.out, HD7.out, HGy.out, hH.out⟩
            exact tree_stop
          exact tree_stop
        exact tree_stop
      case rest =>
      obtain ⟨gy, b, C, w5, rfl, rfl, rfl, rfl, rfl, hry, hCR, hFM, hFR, hbb, hgy, hgy2, hb6⟩ := hcut
      obtain ⟨w6, hw6⟩ : ∃ W : World, W = wc := ⟨_, rfl⟩
      subst hw6
      have B6 := Lib.hid (below_step B4.out hb6)
      have OW6 := Lib.hid (own_below OW4.out hb6)
      have Rb6 := Lib.hid (Rb4.out.below hb6 Rb4.out.lt)
      have ST6 := Lib.hid (ST4.out.at_ hb6)
      have SX6 := Lib.hid ((SX4.out.below hb6).more hb6.size)
      have SZ6 := Lib.hid (Nat.le_trans SZ4.out hb6.size)
      have RY6 := Lib.hid hry
      have CR := Lib.hid hCR
      have FM := Lib.hid hFM
      have FR6 := Lib.hid hFR
      have BBs := Lib.hid hbb
      have GY := Lib.hid hgy
      have GY2 := Lib.hid hgy2
      have dn := rddone_any g dg r2 (.slice A4 n4 c4) w6 ST6.out.row
      rw [F2.out] at dn
      have DN := Lib.hid dn
      clear hry hCR hFM hFR hbb hgy hgy2 hb6 dn TDk B4 Rb4 ST4 SX4
      by_cases he : re = 0
      · subst he
        have hol : O.length + xl ≤ 4000 ∧ tk + rn = tn := by
          have h0 := F4.out rfl
          have h1 := fed_out h0
          have h2 := fed_le h0
          rw [List.length_append, HXL.out] at h1
          rw [List.length_take] at h2
          have := HKN.out
          have := Hz.out
          exact ⟨by omega, F5.out rfl⟩
        obtain ⟨hol, htn⟩ := hol
        have FEW := Lib.hid (fed_few (F4.out rfl))
        have G4 : Hid (Fed asks M.data.toList (L.take k) (O ++ X) tn r2) := Lib.hid (by have h1 := F4.out rfl; rw [F5.out rfl] at h1; exact h1)
        have W2F : Hid (tfr = false → r2.w < 2) := Lib.hid (fun h => by have h1 := F6.out rfl; rw [h] at h1; rcases Int.lt_or_le r2.w 2 with h2 | h2 <;> first | exact h2 | exact absurd (h1.1 h2) (by decide))
        have W2T : Hid (tfr = true → ¬ r2.w < 2) := Lib.hid (fun h => by have h1 := (F6.out rfl).2 h; omega)
        have W7 : Hid (tfr = true → r2.start = ts ∧ r2.fields = tf) := Lib.hid (fun h => F7.out rfl h)
        have WR : Hid (RdIn r2 ∧ r2.fault = 0) := Lib.hid (HRIN.out rfl)
        have hw22 : IntKind.i64.wrap ((tk : Int) + (rn : Int)) = (tn : Int) := by
          have h0 := F4.out rfl
          have h2 := fed_le h0
          rw [List.length_take] at h2
          have := HKN.out
          have := Hz.out
          rw [IntWalk.i64_in _ ⟨by omega, by omega⟩]
          omega
        have HOL := Lib.hid hol
        clear hol htn
        go_upto_region 23 with (first
          | (go_at_call 25; (with_reducible refine DN.out.mono ?_); rintro e wd ⟨rfl, hwd⟩; subst hwd)
          | (at_builtin; refine wpList_appS u8_ty rfl _ _ rfl wa.heap.size (.slice Av O.length cv) O.length (bytesV O) rfl OW6.out w6.heap.size Ax xl cx (bytesV X) rfl SX6.out (bytesV_one X) (by have := HOL.out; omega) (by have := HOL.out; simp only [maxLen]; omega) SZ6.out ?_; intro v7 w7 hown7 hgr7; rw [← bytesV_append] at hown7; obtain ⟨Av7, cv7, rfl, -⟩ := own_slice hown7; have OW7 := Lib.hid hown7; have ST7 := Lib.hid (ST6.out.grown OW6.out (by have := HG.out; omega) (by have := HG.out; omega) hgr7); have Rb7 := Lib.hid (row_pastT Rb6.out hgr7 OW6.out (by decide)); have RY7 := Lib.hid (row_pastT RY6.out hgr7 OW6.out (by decide)); have FR7 := Lib.hid (FR6.out.grown hgr7 (fun q hq => Nat.lt_of_lt_of_le (OW4.out.lt q hq).2 BBs.out)); have B7 := Lib.hid (B6.out.grown hgr7 B6.out.size (fun q hq => Nat.le_trans Ba.out.size (OW6.out.lt q hq).1)); have SZ7 := Lib.hid (Nat.le_trans SZ6.out hgr7.size); clear hown7 hgr7))
        clear hw22 DN Rb6 ST6 SX6 RY6 FR6 OW6 OW4
        cases tfr
        · have HD : Hid (Calls Tryz.prog 26 #[.pointer (some ⟨g, 0, none⟩)] w7 fun e w' => e = .returned (.tuple #[.agg zeroM.toArray, .bool false]) ∧ Below w7.heap.size w7 w') := Lib.hid (by
            refine (rdhead_any g dg r2 A4 n4 c4 w7 ST7.out (by have := fld_count ST7.out.fl; have := FEW.out; omega)).mono ?_
            rintro e w' ⟨h | h, hb⟩
            · exact ⟨h.2, hb⟩
            · exfalso; have h1 := W2F.out (by first | rfl | trivial); have h2 := h.1; omega)
          go_upto_region 24 with (first
            | (go_at_call 26; (with_reducible refine HD.out.mono ?_); rintro e w8 ⟨rfl, hb8⟩; have B8 := Lib.hid (below_step B7.out hb8); have Rb8 := Lib.hid (Rb7.out.below hb8 Rb7.out.lt); have RY8 := Lib.hid (RY7.out.below hb8 RY7.out.lt); have ST8 := Lib.hid (ST7.out.at_ hb8); have OW8 := Lib.hid (own_below OW7.out hb8); have FR8 := Lib.hid (FR7.out.below hb8); have SZ8 := Lib.hid (Nat.le_trans SZ7.out hb8.size);  clear hb8)
            | (refine wpList_store_row rfl 49 _ _ rfl w8.heap.size _ zeroM zeroM rfl rfl (RowAt.new w8 49 _) rfl HMi.out (by simp [zeroM, Value.oneCell']) ?_; intro w9 hro hoo; have hb9 := hoo.below ((Below.refl w8.heap.size w8).alloc (Nat.le_refl _) _) (Nat.le_refl _); have B9 := Lib.hid (below_step B8.out hb9); have Rb9 := Lib.hid (Rb8.out.below hb9 Rb8.out.lt); have RY9 := Lib.hid (RY8.out.below hb9 RY8.out.lt); have ST9 := Lib.hid (ST8.out.at_ hb9); have OW9 := Lib.hid (own_below OW8.out hb9); have FR9 := Lib.hid (FR8.out.below hb9); have SZ9 := Lib.hid (Nat.le_trans SZ8.out hb9.size); have RH9 := Lib.hid hro;  clear hro hoo hb9))
          have gy8 : gy < w8.heap.size := RY8.out.lt
          have hne1 : ¬ gy = w8.heap.size := by omega
          have hne2 : ¬ w8.heap.size = gy := by omega
          have d6y := RY9.out.cell (j := 6) (List.getElem?_eq_getElem (by have := CR.out.1; omega))
          have f6y := RY9.out.frozen (j := 6) (by have := CR.out.1; omega)
          have d6h := RH9.out.cell (j := 6) rfl
          have f6h := RH9.out.frozen (j := 6) (by first | decide | simp [msgC, staC])
          have GY8 := Lib.hid gy8
          clear B8 Rb8 RY8 ST8 OW8 FR8 SZ8 gy8
          go_upto_region 25 with fail
          obtain ⟨w10, hw10⟩ : ∃ W : World, (w9.setCell ⟨gy, 6, none⟩ (.slice Av7 (O.length + xl) cv7)).setCell ⟨w8.heap.size, 6, none⟩ (.slice Av7 (O.length + xl) cv7) = W := ⟨_, rfl⟩
          rw [hw10]
          have RY10 : Hid (RowAt w10 gy 49 (C.set 6 (.slice Av7 (O.length + xl) cv7))) := Lib.hid (by rw [← hw10]; exact (RY9.out.set_ (by have := CR.out.1; omega) _).far hne1 _)
          have RH9b : RowAt (w9.setCell ⟨gy, 6, none⟩ (.slice Av7 (O.length + xl) cv7)) w8.heap.size 49 zeroM := RH9.out.far hne2 _
          have RH10 : Hid (RowAt w10 w8.heap.size 49 ((zeroM).set 6 (.slice Av7 (O.length + xl) cv7))) := Lib.hid (by rw [← hw10]; exact RH9b.set_ (by first | decide | simp [msgC, staC]) _)
          have hwy0 : w.heap.size < gy := by have := GY2.out; have := HG.out; have := SZ4.out; omega
          have hwy : w.heap.size ≠ gy := by omega
          have hwh : w.heap.size ≠ w8.heap.size := by have := GY8.out; omega
          have hgb : gy ≠ g ∧ gy ≠ dg ∧ w8.heap.size ≠ g ∧ w8.heap.size ≠ dg ∧ w.heap.size ≤ gy ∧ w.heap.size ≤ w8.heap.size := by have := GY2.out; have := HG.out; have := SZ4.out; have := GY8.out; exact ⟨by omega, by omega, by omega, by omega, by omega, by omega⟩
          have Rb10 : Hid (RowAt w10 w.heap.size 40 [.bool asks, .string M, .slice A1 n1 c1]) := Lib.hid (by rw [← hw10]; exact (Rb9.out.far (show w.heap.size ≠ gy from hwy) _).far (show w.heap.size ≠ w8.heap.size from hwh) _)
          have ST10 : Hid (RdSt w10 g dg r2 A4 n4 c4) := Lib.hid (by rw [← hw10]; exact (ST9.out.setT RY9.out hgb.1 hgb.2.1 _).setT RH9b hgb.2.2.1 hgb.2.2.2.1 _)
          have OW10 : Hid (w10.ownsRow wa.heap.size 5 1 (.slice Av7 (O.length + xl) cv7) (O.length + xl) (bytesV (O ++ X))) := Lib.hid (by rw [← hw10]; exact own_setT (own_setT OW9.out RY9.out (by decide) _) RH9b (by decide) _)
          have B10 : Hid (Below w.heap.size w w10) := Lib.hid (by rw [← hw10]; exact (B9.out.setCell hgb.2.2.2.2.1 _).setCell hgb.2.2.2.2.2 _)
          have SZ10 : Hid (wa.heap.size ≤ w10.heap.size) := Lib.hid (by rw [← hw10]; simpa using SZ9.out)
          clear hw10 d6y f6y d6h f6h hne1 hne2 RH9b hgb hwy0 hwy hwh B9 Rb9 RY9 ST9 OW9 FR9 SZ9 RH9
          go_wp2_with fail
          go_roundw
          case rel =>
            refine ⟨O ++ X, tn, k, i + 1, r2, A4, n4, c4, by first | rfl | go_num, by first | rfl | go_num, by go_num, ?_, HKN.out, by have := HI.out; omega, fun h => HIKN.out (by omega), ?_, ST10.out, WR.out.1, WR.out.2, B10.out, Rb10.out, SZ10.out⟩
            · exact G4.out
            · exact own_count OW10.out (by rw [List.length_append, HXL.out])
          case measure => simp [intOf]; have := HI.out; omega
        · have HD : Hid (Calls Tryz.prog 26 #[.pointer (some ⟨g, 0, none⟩)] w7 fun e w' => ∃ AH nH cH, e = .returned (.tuple #[.agg (msgC ts (.slice AH nH cH) (.slice none 0 0)).toArray, .bool true]) ∧ w'.ownsRow w7.heap.size 119 2 (.slice AH nH cH) nH (fldsV tf) ∧ Below w7.heap.size w7 w') := Lib.hid (by
            refine (rdhead_any g dg r2 A4 n4 c4 w7 ST7.out (by have := fld_count ST7.out.fl; have := FEW.out; omega)).mono ?_
            rintro e w' ⟨h | h, hb⟩
            · exfalso; have h1 := W2T.out (by first | rfl | trivial); have h2 := h.1; omega
            · obtain ⟨-, AH, nH, cH, rfl, ho⟩ := h
              obtain ⟨e1, e2⟩ := W7.out (by first | rfl | trivial)
              exact ⟨AH, nH, cH, by rw [← e1], by rw [← e2]; exact ho, hb⟩)
          go_upto_region 24 with (first
            | (go_at_call 26; (with_reducible refine HD.out.mono ?_); rintro e w8 ⟨AH, nH, cH, rfl, hoH, hb8⟩; have B8 := Lib.hid (below_step B7.out hb8); have Rb8 := Lib.hid (Rb7.out.below hb8 Rb7.out.lt); have RY8 := Lib.hid (RY7.out.below hb8 RY7.out.lt); have ST8 := Lib.hid (ST7.out.at_ hb8); have OW8 := Lib.hid (own_below OW7.out hb8); have FR8 := Lib.hid (FR7.out.below hb8); have SZ8 := Lib.hid (Nat.le_trans SZ7.out hb8.size); have OH8 := Lib.hid hoH; have FH8 := Lib.hid (Fresh.refl w7.heap.size w8); have B78 := Lib.hid hb8.size; clear hoH; clear hb8)
            | (refine wpList_store_row rfl 49 _ _ rfl w8.heap.size _ (msgC ts (.slice AH nH cH) (.slice none 0 0)) zeroM rfl rfl (RowAt.new w8 49 _) rfl HMi.out (msgC_one _ _ _ _ _ _ _) ?_; intro w9 hro hoo; have hb9 := hoo.below ((Below.refl w8.heap.size w8).alloc (Nat.le_refl _) _) (Nat.le_refl _); have B9 := Lib.hid (below_step B8.out hb9); have Rb9 := Lib.hid (Rb8.out.below hb9 Rb8.out.lt); have RY9 := Lib.hid (RY8.out.below hb9 RY8.out.lt); have ST9 := Lib.hid (ST8.out.at_ hb9); have OW9 := Lib.hid (own_below OW8.out hb9); have FR9 := Lib.hid (FR8.out.below hb9); have SZ9 := Lib.hid (Nat.le_trans SZ8.out hb9.size); have RH9 := Lib.hid hro; have FH9 := Lib.hid (FH8.out.below hb9); clear hro hoo hb9))
          have gy8 : gy < w8.heap.size := RY8.out.lt
          have hne1 : ¬ gy = w8.heap.size := by omega
          have hne2 : ¬ w8.heap.size = gy := by omega
          have d6y := RY9.out.cell (j := 6) (List.getElem?_eq_getElem (by have := CR.out.1; omega))
          have f6y := RY9.out.frozen (j := 6) (by have := CR.out.1; omega)
          have d6h := RH9.out.cell (j := 6) rfl
          have f6h := RH9.out.frozen (j := 6) (by first | decide | simp [msgC, staC])
          have GY8 := Lib.hid gy8
          clear B8 Rb8 RY8 ST8 OW8 FR8 SZ8 gy8
          go_upto_region 25 with fail
          obtain ⟨w10, hw10⟩ : ∃ W : World, (w9.setCell ⟨gy, 6, none⟩ (.slice Av7 (O.length + xl) cv7)).setCell ⟨w8.heap.size, 6, none⟩ (.slice Av7 (O.length + xl) cv7) = W := ⟨_, rfl⟩
          rw [hw10]
          have RY10 : Hid (RowAt w10 gy 49 (C.set 6 (.slice Av7 (O.length + xl) cv7))) := Lib.hid (by rw [← hw10]; exact (RY9.out.set_ (by have := CR.out.1; omega) _).far hne1 _)
          have RH9b : RowAt (w9.setCell ⟨gy, 6, none⟩ (.slice Av7 (O.length + xl) cv7)) w8.heap.size 49 (msgC ts (.slice AH nH cH) (.slice none 0 0)) := RH9.out.far hne2 _
          have RH10 : Hid (RowAt w10 w8.heap.size 49 (((msgC ts (.slice AH nH cH) (.slice none 0 0))).set 6 (.slice Av7 (O.length + xl) cv7))) := Lib.hid (by rw [← hw10]; exact RH9b.set_ (by first | decide | simp [msgC, staC]) _)
          have hwy0 : w.heap.size < gy := by have := GY2.out; have := HG.out; have := SZ4.out; omega
          have hwy : w.heap.size ≠ gy := by omega
          have hwh : w.heap.size ≠ w8.heap.size := by have := GY8.out; omega
          have hgb : gy ≠ g ∧ gy ≠ dg ∧ w8.heap.size ≠ g ∧ w8.heap.size ≠ dg ∧ w.heap.size ≤ gy ∧ w.heap.size ≤ w8.heap.size := by have := GY2.out; have := HG.out; have := SZ4.out; have := GY8.out; exact ⟨by omega, by omega, by omega, by omega, by omega, by omega⟩
          have Rb10 : Hid (RowAt w10 w.heap.size 40 [.bool asks, .string M, .slice A1 n1 c1]) := Lib.hid (by rw [← hw10]; exact (Rb9.out.far (show w.heap.size ≠ gy from hwy) _).far (show w.heap.size ≠ w8.heap.size from hwh) _)
          have ST10 : Hid (RdSt w10 g dg r2 A4 n4 c4) := Lib.hid (by rw [← hw10]; exact (ST9.out.setT RY9.out hgb.1 hgb.2.1 _).setT RH9b hgb.2.2.1 hgb.2.2.2.1 _)
          have OW10 : Hid (w10.ownsRow wa.heap.size 5 1 (.slice Av7 (O.length + xl) cv7) (O.length + xl) (bytesV (O ++ X))) := Lib.hid (by rw [← hw10]; exact own_setT (own_setT OW9.out RY9.out (by decide) _) RH9b (by decide) _)
          have B10 : Hid (Below w.heap.size w w10) := Lib.hid (by rw [← hw10]; exact (B9.out.setCell hgb.2.2.2.2.1 _).setCell hgb.2.2.2.2.2 _)
          have SZ10 : Hid (wa.heap.size ≤ w10.heap.size) := Lib.hid (by rw [← hw10]; simpa using SZ9.out)
          have FR10 : Fresh b w5 w10 := by rw [← hw10]; exact (FR9.out.only (Only.setCell gy 6 w9 _) GY.out).only (Only.setCell w8.heap.size 6 _ _) (Or.inr (by have := FR7.out.size; have := B78.out; omega))
          have FH10 : Fresh w7.heap.size w8 w10 := by rw [← hw10]; exact (FH9.out.only (Only.setCell gy 6 w9 _) (Or.inl RY7.out.lt)).only (Only.setCell w8.heap.size 6 _ _) (Or.inr (Nat.le_refl _))
          obtain ⟨AF, nF, cF, AB, nB, cB, hCe, hFs, -⟩ := FM.out w10 FR10
          have HH := own_fresh OH8.out FH10
          have hCs : C.set 6 (.slice Av7 (O.length + xl) cv7) = msgC ts (.slice AF nF cF) (.slice Av7 (O.length + xl) cv7) := by rw [hCe]; rfl
          have hEs : (msgC ts (.slice AH nH cH) (.slice none 0 0)).set 6 (.slice Av7 (O.length + xl) cv7) = msgC ts (.slice AH nH cH) (.slice Av7 (O.length + xl) cv7) := rfl
          rw [hCs] at RY10
          rw [hEs] at RH10
          have SAME := Lib.hid (rsame8_any ts tf (O ++ X) AH Av7 AF Av7 nH (O.length + xl) nF (O.length + xl) cH cv7 cF cv7 w10 (SliceIn.of_own HH) (SliceIn.of_own OW10.out) hFs (SliceIn.of_own OW10.out) (by have h1 := fld_count (SliceIn.of_own HH); have h2 := FEW.out; have h3 := (W7.out (by first | rfl | trivial)).2; rw [h3] at h2; omega))
          obtain ⟨CW, hCW⟩ : ∃ x, msgC ts (.slice AF nF cF) (.slice Av7 (O.length + xl) cv7) = x := ⟨_, rfl⟩
          obtain ⟨CH, hCH⟩ : ∃ x, msgC ts (.slice AH nH cH) (.slice Av7 (O.length + xl) cv7) = x := ⟨_, rfl⟩
          have zW : Hid (CW.length = 7) := Lib.hid (by rw [← hCW]; rfl)
          have zH : Hid (CH.length = 7) := Lib.hid (by rw [← hCH]; rfl)
          rw [hCW] at RY10 SAME
          rw [hCH] at RH10 SAME
          have HiW : Hid ((Tryz.prog.info? 49).map (·.size) = some CW.length) := Lib.hid (by rw [zW.out]; exact HMi.out)
          have HiH : Hid ((Tryz.prog.info? 49).map (·.size) = some CH.length) := Lib.hid (by rw [zH.out]; exact HMi.out)
          clear hCW hCH hCs hEs hCe hFs HH FR10 FH10 OH8 FH8 FH9 B78
          clear hw10 d6y f6y d6h f6h hne1 hne2 RH9b hgb hwy0 hwy hwh B9 Rb9 RY9 ST9 OW9 FR9 SZ9 RH9
          go_wp2_with (first
            | (refine wpList_load_g (by first | exact wanted_un rfl | exact wanted_yes rfl rfl rfl rfl | exact (wanted_is rfl rfl rfl rfl).trans (by simp; omega) | exact (wanted_is rfl rfl rfl rfl).trans (by simp)) 49 _ rfl w8.heap.size 0 rfl CH _ (rangeOf RH10.out) Tryz.underlying49 rfl HiH.out ?_)
            | (refine wpList_load_g (by first | exact wanted_un rfl | exact wanted_yes rfl rfl rfl rfl | exact (wanted_is rfl rfl rfl rfl).trans (by simp; omega) | exact (wanted_is rfl rfl rfl rfl).trans (by simp)) 49 _ rfl gy 0 rfl CW _ (rangeOf RY10.out) Tryz.underlying49 rfl HiW.out ?_)
            | (go_at_call 27; (with_reducible refine SAME.out.mono ?_); rintro e w11 ⟨rfl, hb11⟩; have B11 := Lib.hid (below_step B10.out hb11); have Rb11 := Lib.hid (Rb10.out.below hb11 Rb10.out.lt); have ST11 := Lib.hid (ST10.out.at_ hb11); have OW11 := Lib.hid (own_below OW10.out hb11); have SZ11 := Lib.hid (Nat.le_trans SZ10.out hb11.size); clear hb11))
          go_roundw
          case rel =>
            refine ⟨O ++ X, tn, k, i + 1, r2, A4, n4, c4, by first | rfl | go_num, by first | rfl | go_num, by go_num, ?_, HKN.out, by have := HI.out; omega, fun h => HIKN.out (by omega), ?_, ST11.out, WR.out.1, WR.out.2, B11.out, Rb11.out, SZ11.out⟩
            · exact G4.out
            · exact own_count OW11.out (by rw [List.length_append, HXL.out])
          case measure => simp [intOf]; have := HI.out; omega
      · have fb := F3.out he
        obtain ⟨hX0, hrn0, hfl⟩ := fb
        have hxl0 : xl = 0 := by rw [← HXL.out, hX0]; rfl
        have hene : (re != 0) = true := by rw [bne_iff_ne]; exact he
        have TF := fun (A' : Option Addr) (m' k' : Nat) (W : World) (h : RowAt W g 110 (rdV dg r2 (.slice A4 n4 c4))) => rdtake_fault g dg r2 (.slice A4 n4 c4) A' m' k' W h (by rw [hfl]; exact he)
        simp only [hfl] at TF
        replace TF := Lib.hid TF
        subst hrn0 hxl0
        have kc := Hkc.out
        clear he hX0 hfl
        go_wp2_with (first
          | (go_at_call 25; (with_reducible refine DN.out.mono ?_); rintro e wd ⟨rfl, hwd⟩; subst hwd)
          | (go_at_call 23; (with_reducible refine (TF.out _ _ _ _ (ST6.out.row.alloc _)).mono ?_); rintro e w7 ⟨rfl, hb7⟩; have B7 := Lib.hid (below_step (B6.out.alloc B6.out.size _) hb7); clear hb7))
        go_ret
        exact ⟨by first | rfl | simp, B7.out⟩
    · have hiI : ¬ ((i : Int) ≤ (n1 : Int)) := by omega
      have han : a = n := HIAN.out (by have := HI1.out; omega)
      have hLt : L.take n = L := List.take_of_length_le (by rw [HLl.out]; exact Nat.le_refl _)
      have fedL := FED.out
      rw [han, hLt] at fedL
      have hs := told_says asks M.data.toList L
      rw [fedL.run] at hs
      have TDn := TD.out wq n A (Nat.le_refl _) (by rw [hLt]; exact ((Hin.out.below Bq.out).more Bq.out.size))
      rw [hLt] at TDn
      obtain ⟨T, hT⟩ : ∃ T, toldM asks M.data.toList L = T := ⟨_, rfl⟩
      rw [hT] at hs
      simp only [hT] at TDn
      have hbody : T.body = O := (hs.body hs.err.symm).symm
      have HBD := Lib.hid hbody
      replace TDn := Lib.hid TDn
      have z0 := Rbq.out.cell (j := 0) rfl
      have z1 := Rbq.out.cell (j := 1) rfl
      have tokE : Hid True := Lib.hid trivial
      clear hi han hLt fedL hs hT hbody
      go_upto_region 28 with (first
        | (go_at_call 24; (with_reducible refine TDn.out.mono ?_); rintro e w5 ⟨C, rfl, hC5, hF5, hb5⟩; have B5 := Lib.hid (below_step Bq.out hb5); have OW5 := Lib.hid (own_below OWq.out hb5); have CR := Lib.hid hC5; have FM := Lib.hid hF5; clear hC5 hF5 hb5)
        | (refine wpList_store_row rfl 49 _ _ rfl w5.heap.size _ C zeroM rfl rfl (RowAt.new w5 49 _) (by rw [CR.out.1]; rfl) (GI.out _ CR.out) CR.out.2 ?_; intro w6 hro hoo; have hb6 := hoo.below ((Below.refl w5.heap.size w5).alloc (Nat.le_refl _) _) (Nat.le_refl _); have B6 := Lib.hid (below_step B5.out hb6); have OW6 := Lib.hid (own_below OW5.out hb6); have RW6 := Lib.hid hro; have FR6 := Lib.hid (Fresh.only (Fresh.alloc (Fresh.refl wq.heap.size w5) _) hoo (Or.inr (Nat.le_refl _))); clear hro hoo hb6))
      obtain ⟨AF, nF, cF, AB, nB, cB, hCe, -, hB⟩ := FM.out w6 FR6.out
      rw [HBD.out] at hB
      have d6 := RW6.out.cell (j := 6) (u := .slice AB nB cB) (by rw [hCe]; rfl)
      have q1 := run_string_of (P := Tryz.prog) (SliceIn.of_own OW6.out) 38 9 5 Tryz.underlying38 Tryz.underlying5 Tryz.underlying9
      have q2 := run_string_of (P := Tryz.prog) hB 38 9 5 Tryz.underlying38 Tryz.underlying5 Tryz.underlying9
      clear hCe hB x2 z0 z1
      go_wp2_with fail
      go_ret
      exact ⟨by first | rfl | simp, B6.out⟩
theorem mtakes_walk (w : World) (hsh : w.ShapedOpen Tryz.prog) (A : Option Addr) (n c : Nat) (L : List UInt8) (hin : SliceIn w w.heap.size 1 A n c (bytesV L)) (asks : Bool) (M : ByteArray) (A1 : Option Addr) (n1 c1 : Nat) (K : List UInt8) (hk : SliceIn w w.heap.size 1 A1 n1 c1 (bytesV K)) (_ : M.size ≤ maxLen) :
    Calls Tryz.prog 5 #[.slice A n c, .agg #[.bool asks, .string M, .slice A1 n1 c1]] w fun e w' => e = .returned (.bool true) ∧ Below w.heap.size w w' := by
  by_cases h : 4000 < n ∨ 100 < n1 ∨ 100 < M.size
  · exact mtk_far A n c asks M A1 n1 c1 w hsh h
  · exact mtk_good A n c L asks M A1 n1 c1 K w hsh hin hk (by omega) (by omega) (by omega)
end Go.Proofs.YteocdpkenlkmbaaGreatDoor
