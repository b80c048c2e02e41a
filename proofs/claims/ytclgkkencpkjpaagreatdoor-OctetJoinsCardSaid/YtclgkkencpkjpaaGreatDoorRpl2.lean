/- strings.Replacer's table at work: every quotation mark and backslash behind a backslash. Condition: lengths within bounds. -/
import Derived.Test.YtclgkkencpkjpaaGreatDoorRpl1
import Derived.Test.YtclgkkencpkjpaaGreatDoorQuo1
import Derived.Shelf.Spec.SlicesInsert
namespace IH
theorem escs_count (l : List UInt8) : (l.flatMap escQ).length = l.length + l.count 92 + l.count 34 := by
  induction l with
  | nil => rfl
  | cons c l ih =>
    rw [List.flatMap_cons, List.length_append, ih, List.length_cons, List.count_cons, List.count_cons]
    by_cases h1 : c = 34
    · subst h1
      rw [escQ_esc (.inl rfl)]
      simp
      omega
    · by_cases h2 : c = 92
      · subst h2
        rw [escQ_esc (.inr rfl)]
        simp
        omega
      · rw [escQ_plain h1 h2]
        have e1 : (c == 34) = false := by rw [beq_eq_false_iff_ne]; exact h1
        have e2 : (c == 92) = false := by rw [beq_eq_false_iff_ne]; exact h2
        rw [e1, e2]
        simp
        omega
theorem escs_none : ∀ (l : List UInt8), l.count 92 = 0 → l.count 34 = 0 → l.flatMap escQ = l
  | [], _, _ => rfl
  | c :: l, h1, h2 => by
    rw [List.count_cons] at h1 h2
    have e1 : ¬ c = 92 := fun e => by subst e; simp at h1
    have e2 : ¬ c = 34 := fun e => by subst e; simp at h2
    rw [List.flatMap_cons, escQ_plain e2 e1, escs_none l (by omega) (by omega)]
    rfl
theorem escs_take (l : List UInt8) (k : Nat) (c : UInt8) (h : l[k]? = some c) : (l.take (k + 1)).flatMap escQ = (l.take k).flatMap escQ ++ escQ c := by
  rw [List.take_add_one, h]
  simp
theorem count_take (l : List UInt8) (k : Nat) (c d : UInt8) (h : l[k]? = some c) : (l.take (k + 1)).count d = (l.take k).count d + if c == d then 1 else 0 := by
  rw [List.take_add_one, h, List.count_append]
  simp [List.count_cons]
theorem escs_room (l : List UInt8) (k : Nat) (c : UInt8) (h : l[k]? = some c) : ((l.take k).flatMap escQ).length + (escQ c).length ≤ (l.flatMap escQ).length := by
  have h1 : l.flatMap escQ = (l.take (k + 1)).flatMap escQ ++ (l.drop (k + 1)).flatMap escQ := by rw [← List.flatMap_append, List.take_append_drop]
  rw [h1, List.length_append, escs_take l k c h, List.length_append]
  omega
end IH
namespace Go.Proofs.YtclgkkencpkjpaaGreatDoor
open Go.RowKit IH
set_option maxRecDepth 100000
theorem bytes_put (E : List UInt8) (z c : UInt8) (Z : List UInt8) : (bytesV (E ++ z :: Z)).set E.length (.int .u8 c.toNat) = bytesV (E ++ c :: Z) := by
  unfold bytesV
  rw [List.map_append, List.set_append_right _ _ (by simp)]
  simp
  rfl
theorem copy2 (W : World) (g m N g1 c1 base : Nat) (x y : UInt8) (Y : List Value) (E Z : List UInt8) (hown : W.ownsRow base 5 1 (.slice (some ⟨g, 0, none⟩) N N) N (bytesV (E ++ Z))) (hm : E.length = m) (hEZ : m + Z.length = N) (h2 : m + 2 ≤ N)
    (hr : RowAt W g1 5 (bytesV [x, y] ++ Y)) (_hg1 : g1 < base) (hg : base ≤ g) :
    ∃ W' Z', (Builtin.copy_ #[38, 38] 3 #[.slice (some ⟨g, m, none⟩) (N - m) (N - m), .slice (some ⟨g1, 0, none⟩) 2 c1]).run Tryz.prog W = .ok (.int .i64 2) W' ∧
      W'.ownsRow base 5 1 (.slice (some ⟨g, 0, none⟩) N N) N (bytesV ((E ++ [x, y]) ++ Z')) ∧ m + 2 + Z'.length = N ∧ ∀ a, Below base a W → Below base a W' := by
  obtain ⟨z1, z2, Z1, rfl⟩ : ∃ z1 z2 Z1, Z = z1 :: z2 :: Z1 := by
    match Z, hEZ with
    | [], h => exact absurd h (by simp; omega)
    | [a], h => exact absurd h (by simp; omega)
    | a :: b :: r, _ => exact ⟨a, b, r, rfl⟩
  have hlen := hown.1
  have o1 := hown.stored m (.int .u8 x.toNat)
  have hgs := hown.lt g rfl
  rw [← hm, bytes_put, hm] at o1
  have o2 := o1.1.stored (m + 1) (.int .u8 y.toNat)
  rw [show E ++ x :: z2 :: Z1 = (E ++ [x]) ++ z2 :: Z1 from by simp, show m + 1 = (E ++ [x]).length from by simp [hm], bytes_put, show (E ++ [x]).length = m + 1 from by simp [hm], show (E ++ [x]) ++ y :: Z1 = (E ++ [x, y]) ++ Z1 from by simp] at o2
  refine ⟨_, Z1, ?_, o2.1, by simp at hEZ; omega, fun a hb => (hb.grown o1.2 (by omega) (fun q hq => by injection hq with hq; omega)).grown o2.2 (Nat.le_trans (show base ≤ W.heap.size by omega) o1.2.size) (fun q hq => by injection hq with hq; omega)⟩
  have hcp := run_copy_cells (P := Tryz.prog) W 38 38 3 5 g m (N - m) (N - m) ⟨g1, 0, none⟩ 2 c1 (bytesV [x, y]) Tryz.underlying38 (by kernel_rfl) (by show 2 = Nat.min 2 (N - m); exact (Nat.min_eq_left (by omega)).symm)
    (fun j v hv => by
      have hj : j < 2 := by
        rcases Nat.lt_or_ge j 2 with h | h
        · exact h
        · rw [List.getElem?_eq_none (by simp [bytesV]; omega)] at hv; cases hv
      have := hr.cell (j := j) (u := v) (by rw [List.getElem?_append_left (by simp [bytesV]; omega)]; exact hv)
      by_cases hj0 : j = 0
      · subst hj0
        simpa [Addr.add] using this
      · simpa [Addr.add, hj0] using this)
    (fun j hj => by
      have hj : j < 2 := by simpa [bytesV] using hj
      rw [hown.cellAt (m + j) (by omega), List.getElem?_eq_getElem (by rw [hlen]; omega)]
      rfl)
    (fun j _ => hown.frozenAt (m + j)) (fun v hv => by simp [bytesV] at hv; rcases hv with rfl | rfl <;> rfl)
  exact hcp
theorem zeros_own (m : Nat) : (madeCells (Value.int .u8 0).cells (m * 1)).toList = bytesV ([] ++ List.replicate m 0) := by
  rw [Nat.mul_one]
  have : (Value.int .u8 0).cells = #[.int .u8 0] := rfl
  rw [this, toList_madeCells_one]
  unfold bytesV
  simp
  exact .inr rfl
set_option maxHeartbeats 32000000 in
theorem breplace_any (h : Nat) (s : ByteArray) (hs : s.size ≤ 1000000) (w : World) (ht : Tbl w h) :
    Calls Tryz.prog 305 #[.pointer (some ⟨h, 0, none⟩), .string s] w fun e w' => e = .returned (.string ⟨(s.data.toList.flatMap escQ).toArray⟩) ∧ Below w.heap.size w w' := by
  obtain ⟨f, v3, hf, hrow, ⟨g1, c1, Y1, h34, hr1⟩, ⟨g2, c2, Y2, h92, hr2⟩, base, hown⟩ := ht
  obtain ⟨A3, c3, rfl, hs3⟩ := own_slice hown
  obtain ⟨b3, o3, rfl, hb3, hc3⟩ := hs3.2.2.2 (by decide)
  have x0 : w.cell? ⟨b3, o3, none⟩ = some (.string ⟨#[92]⟩) := hc3 0 _ rfl
  have x1 : w.cell? ⟨b3, o3 + 1, none⟩ = some (.string ⟨#[34]⟩) := hc3 1 _ rfl
  have t256 := hrow.cell (tblC_last _ _)
  have t34 : w.cell? ⟨h, 34, none⟩ = some (.slice (some ⟨g1, 0, none⟩) 2 c1) := by have h1 := hrow.cell (tblC_at f _ 34 (by decide)); rw [h34] at h1; exact h1
  have t92 : w.cell? ⟨h, 92, none⟩ = some (.slice (some ⟨g2, 0, none⟩) 2 c2) := by have h1 := hrow.cell (tblC_at f _ 92 (by decide)); rw [h92] at h1; exact h1
  have tz : ∀ c : UInt8, c ≠ 34 → c ≠ 92 → w.cell? ⟨h, c.toNat, none⟩ = some (.slice none 0 0) := fun c k1 k2 => by
    have h1 := hrow.cell (tblC_at f (.slice (some ⟨b3, o3, none⟩) 2 c3) c.toNat (by have := c.toNat_lt; omega))
    rw [hf c.toNat (fun e => k1 (UInt8.toNat_inj.1 e)) (fun e => k2 (UInt8.toNat_inj.1 e))] at h1
    exact h1
  have TZ := Lib.hid tz
  have TT := Lib.hid (And.intro t34 t92)
  have HR1 := Lib.hid hr1
  have HR2 := Lib.hid hr2
  have Hrow := Lib.hid hrow
  have hne1 : ∀ (a : Addr) (l c : Nat) (w : World), (binOp .neq 38 (.slice (some a) l c) (.slice none 0 0)).run Tryz.prog w = .ok (.bool true) w := fun a l c w => run_neq_slice_nil w 38 5 (some a) l c Tryz.underlying38
  have hne0 : ∀ (w : World), (binOp .neq 38 (.slice none 0 0) (.slice none 0 0)).run Tryz.prog w = .ok (.bool false) w := fun w => run_neq_slice_nil w 38 5 none 0 0 Tryz.underlying38
  obtain ⟨n92, hn92⟩ : ∃ n, s.data.toList.count 92 = n := ⟨_, rfl⟩
  obtain ⟨n34, hn34⟩ : ∃ n, s.data.toList.count 34 = n := ⟨_, rfl⟩
  have hl92 : n92 ≤ s.size := by rw [← hn92, ← data_len]; exact List.count_le_length
  have hl34 : n34 ≤ s.size := by rw [← hn34, ← data_len]; exact List.count_le_length
  have C92 := Lib.hid (fun W : World => Tryz.strings_Count_one s 92 W)
  have C34 := Lib.hid (fun W : World => Tryz.strings_Count_one s 34 W)
  rw [show Lib.countByte s.data.toList 92 = n92 from hn92] at C92
  rw [show Lib.countByte s.data.toList 34 = n34 from hn34] at C34
  have HN := Lib.hid (And.intro hn92 hn34)
  have B0 := Lib.hid (Below.refl w.heap.size w)
  clear hown hs3 hc3 hrow hr1 hr2 t34 t92 tz hf h34 h92 hn92 hn34
  go_enter Tryz.func305, Tryz.ntmps305
  go_upto_if 26 with fail
  obtain ⟨z16, hz16⟩ : ∃ x, decide ((16 : Int) ≤ (s.size : Int)) = x := ⟨_, rfl⟩
  simp only [hz16]
  have HZ16 := Lib.hid hz16
  clear hz16
  go_cut [5, 6] from 7 to 82 (fun s5 s6 wx => s5 = .int .i64 ((s.size : Int) + n92 + n34) ∧ s6 = .bool (decide (0 < n92 + n34)) ∧ ∃ q, wx = w.drewN q)
  case first =>
    cases z16
    · clear t256 x0 x1
      go_wp2_with fail
      go_loopw [5, 6, 10] (fun s5 s6 iv wr => (∃ q, wr = w.drewN q) ∧ ∃ k, k ≤ s.size ∧ iv = .int .i64 k ∧ s5 = .int .i64 ((s.size : Int) + ((s.data.toList.take k).count 92 : Nat) + ((s.data.toList.take k).count 34 : Nat)) ∧ s6 = .bool (decide (0 < (s.data.toList.take k).count 92 + (s.data.toList.take k).count 34))) (fun _ _ iv _ => s.size - (intOf iv).toNat)
      case atStart => exact ⟨⟨0, rfl⟩, 0, Nat.zero_le _, rfl, by rw [List.take_zero]; rw [show ((s.size : Int) + ((List.count (92 : UInt8) []) : Nat) + ((List.count (34 : UInt8) []) : Nat)) = s.size from by rw [List.count_nil, List.count_nil]; omega], rfl⟩
      case round =>
        obtain ⟨⟨q, hq⟩, k, hk, rfl, hs5, hs6⟩ := hrel
        obtain ⟨a, ha⟩ : ∃ a, (s.data.toList.take k).count 92 = a := ⟨_, rfl⟩
        obtain ⟨b, hb⟩ : ∃ b, (s.data.toList.take k).count 34 = b := ⟨_, rfl⟩
        rw [ha, hb] at hs5 hs6
        have ha1 : a ≤ k := by rw [← ha]; exact Nat.le_trans List.count_le_length (by rw [List.length_take]; omega)
        have hb1 : b ≤ k := by rw [← hb]; exact Nat.le_trans List.count_le_length (by rw [List.length_take]; omega)
        obtain ⟨z9, hz9⟩ : ∃ x, decide (0 < a + b) = x := ⟨_, rfl⟩
        rw [hz9] at hs6
        subst hs5 hs6
        obtain ⟨wq, hwq⟩ : ∃ x : World, x = wr := ⟨_, rfl⟩
        subst hwq
        have HA := Lib.hid (And.intro ha hb)
        have HZ9 := Lib.hid hz9
        have HQ := Lib.hid hq
        clear ha hb hz9
        have hsI : (s.size : Int) ≤ 1000000 := by omega
        by_cases hlt : k < s.size
        · obtain ⟨c, hc⟩ : ∃ c, s[k] = c := ⟨_, rfl⟩
          have hg : s.data.toList[k]? = some c := by rw [← hc]; exact get_data s k hlt
          have H92 := Lib.hid (count_take _ k c 92 hg)
          have H34 := Lib.hid (count_take _ k c 34 hg)
          clear hg
          by_cases e1 : c = 34
          · subst e1
            have hiy : ((34 : UInt8).toNat : Int) = 34 := rfl
            have z34 : wq.cell? ⟨h, 34, none⟩ = some (.slice (some ⟨g1, 0, none⟩) 2 c1) := by rw [hq]; exact TT.out.1
            clear hq
            go_wp2_with fail
            go_roundw
            case rel => exact ⟨⟨q, HQ.out⟩, k + 1, by omega, by go_num, by rw [H92.out, H34.out, HA.out.1, HA.out.2] <;> (congr 1 <;> simp <;> omega), by rw [H92.out, H34.out, HA.out.1, HA.out.2]; simp <;> omega⟩
            case measure => simp [intOf]; omega
          · by_cases e2 : c = 92
            · subst e2
              have hiy : ((92 : UInt8).toNat : Int) = 92 := rfl
              have z92 : wq.cell? ⟨h, 92, none⟩ = some (.slice (some ⟨g2, 0, none⟩) 2 c2) := by rw [hq]; exact TT.out.2
              clear hq e1
              go_wp2_with fail
              go_roundw
              case rel => exact ⟨⟨q, HQ.out⟩, k + 1, by omega, by go_num, by rw [H92.out, H34.out, HA.out.1, HA.out.2] <;> (congr 1 <;> simp <;> omega), by rw [H92.out, H34.out, HA.out.1, HA.out.2]; simp <;> omega⟩
              case measure => simp [intOf]; omega
            · have zc : wq.cell? ⟨h, c.toNat, none⟩ = some (.slice none 0 0) := by rw [hq]; exact TZ.out c e1 e2
              have hcl : (c.toNat : Int) < 256 := by have := c.toNat_lt; omega
              have f1 : (c == 92) = false := by rw [beq_eq_false_iff_ne]; exact e2
              have f2 : (c == 34) = false := by rw [beq_eq_false_iff_ne]; exact e1
              rw [f1] at H92
              rw [f2] at H34
              clear hq e1 e2 f1 f2
              go_wp2_with fail
              go_roundw
              case rel => exact ⟨⟨q, HQ.out⟩, k + 1, by omega, by go_num, by rw [H92.out, H34.out, HA.out.1, HA.out.2]; rfl, by rw [H92.out, H34.out, HA.out.1, HA.out.2, ← HZ9.out]; rfl⟩
              case measure => simp [intOf]; omega
        · have e : s.data.toList.take k = s.data.toList := List.take_of_length_le (by rw [data_len]; omega)
          have hab := HA.out
          rw [e, HN.out.1, HN.out.2] at hab
          obtain ⟨rfl, rfl⟩ := hab
          have HE : Hid (s.size = k) := Lib.hid (by omega)
          clear e hq
          go_wp2_with fail
          go_meet
          exact ⟨by first | rfl | trivial, by rw [HZ9.out], q, HQ.out⟩
    · have hix92 : (⟨#[92]⟩ : ByteArray)[0]'(by decide) = 92 := rfl
      have hiy92 : ((92 : UInt8).toNat : Int) = 92 := rfl
      have hix34 : (⟨#[34]⟩ : ByteArray)[0]'(by decide) = 34 := rfl
      have hiy34 : ((34 : UInt8).toNat : Int) = 34 := rfl
      go_wp2_with fail
      go_loopw [5, 6, 32] (fun s5 s6 iv wr => (∃ q, wr = w.drewN q) ∧ ((iv = .int .i64 0 ∧ s5 = .int .i64 s.size ∧ s6 = .bool false) ∨ (iv = .int .i64 1 ∧ s5 = .int .i64 ((s.size : Int) + n92) ∧ s6 = .bool (decide (0 < n92))) ∨ (iv = .int .i64 2 ∧ s5 = .int .i64 ((s.size : Int) + n92 + n34) ∧ s6 = .bool (decide (0 < n92 + n34))))) (fun _ _ iv _ => 2 - (intOf iv).toNat)
      case atStart => exact ⟨⟨0, rfl⟩, .inl ⟨rfl, rfl, rfl⟩⟩
      case round =>
        obtain ⟨⟨q, hq⟩, hcase⟩ := hrel
        obtain ⟨wq, hwq⟩ : ∃ x : World, x = wr := ⟨_, rfl⟩
        subst hwq
        have y0 : wq.cell? ⟨b3, o3, none⟩ = some (.string ⟨#[92]⟩) := by rw [hq]; exact x0
        have y1 : wq.cell? ⟨b3, o3 + 1, none⟩ = some (.string ⟨#[34]⟩) := by rw [hq]; exact x1
        have z92 : wq.cell? ⟨h, 92, none⟩ = some (.slice (some ⟨g2, 0, none⟩) 2 c2) := by rw [hq]; exact TT.out.2
        have z34 : wq.cell? ⟨h, 34, none⟩ = some (.slice (some ⟨g1, 0, none⟩) 2 c1) := by rw [hq]; exact TT.out.1
        have HQ := Lib.hid hq
        clear hq x0 x1 t256
        rcases hcase with ⟨rfl, rfl, rfl⟩ | ⟨rfl, rfl, rfl⟩ | ⟨rfl, rfl, rfl⟩
        · by_cases hz : n92 = 0
          · have HZ := Lib.hid hz
            have hzI : ((n92 : Int) != 0) = false := by rw [hz]; rfl
            clear hz
            go_wp2_with (go_at_call 262; (with_reducible refine (C92.out _).mono ?_); rintro e w2 ⟨rfl, rfl⟩)
            go_roundw
            case rel => exact ⟨⟨q, HQ.out⟩, .inr (.inl ⟨rfl, by rw [HZ.out]; rfl, by rw [HZ.out]; rfl⟩)⟩
            case measure => simp [intOf]
          · have hzI : ((n92 : Int) != 0) = true := by rw [bne_iff_ne]; omega
            have HZ := Lib.hid (show decide (0 < n92) = true from decide_eq_true (by omega))
            have hnI : (n92 : Int) ≤ 1000000 := by omega
            have hn4 : (n34 : Int) ≤ 1000000 := by omega
            have hsI : (s.size : Int) ≤ 1000000 := by omega
            clear hz
            go_upto_region 9 with (go_at_call 262; (with_reducible refine (C92.out _).mono ?_); rintro e w2 ⟨rfl, rfl⟩)
            go_region
            go_wp2_with fail
            go_roundw
            case rel => exact ⟨⟨q + 1, by rw [HQ.out]; rfl⟩, .inr (.inl ⟨rfl, rfl, by rw [HZ.out]⟩)⟩
            case measure => simp [intOf]
        · by_cases hz : n34 = 0
          · have HZ := Lib.hid hz
            have hzI : ((n34 : Int) != 0) = false := by rw [hz]; rfl
            clear hz
            obtain ⟨z9, hz9⟩ : ∃ x, decide (0 < n92) = x := ⟨_, rfl⟩
            rw [hz9]
            have HZ9 := Lib.hid hz9
            clear hz9
            go_wp2_with (go_at_call 262; (with_reducible refine (C34.out _).mono ?_); rintro e w2 ⟨rfl, rfl⟩)
            go_roundw
            case rel => exact ⟨⟨q, HQ.out⟩, .inr (.inr ⟨rfl, by rw [HZ.out, Int.natCast_zero, Int.add_zero], by rw [HZ.out, Nat.add_zero, HZ9.out]⟩)⟩
            case measure => simp [intOf]
          · have hzI : ((n34 : Int) != 0) = true := by rw [bne_iff_ne]; omega
            have HZ := Lib.hid (show decide (0 < n92 + n34) = true from decide_eq_true (by omega))
            have hnI : (n92 : Int) ≤ 1000000 := by omega
            have hn4 : (n34 : Int) ≤ 1000000 := by omega
            have hsI : (s.size : Int) ≤ 1000000 := by omega
            clear hz
            obtain ⟨z9, hz9⟩ : ∃ x, decide (0 < n92) = x := ⟨_, rfl⟩
            rw [hz9]
            have HZ9 := Lib.hid hz9
            clear hz9
            go_upto_region 9 with (go_at_call 262; (with_reducible refine (C34.out _).mono ?_); rintro e w2 ⟨rfl, rfl⟩)
            go_region
            go_wp2_with fail
            go_roundw
            case rel => exact ⟨⟨q + 1, by rw [HQ.out]; rfl⟩, .inr (.inr ⟨rfl, rfl, by rw [HZ.out]⟩)⟩
            case measure => simp [intOf]
        · obtain ⟨z9, hz9⟩ : ∃ x, decide (0 < n92 + n34) = x := ⟨_, rfl⟩
          rw [hz9]
          have HZ9 := Lib.hid hz9
          clear hz9
          go_wp2_with fail
          go_meet
          exact ⟨by first | rfl | trivial, by rw [HZ9.out], q, HQ.out⟩
  case rest =>
    obtain ⟨rfl, rfl, q, rfl⟩ := hcut
    have hsI : (s.size : Int) ≤ 1000000 := by omega
    by_cases hz : n92 + n34 = 0
    · have hzb : decide (0 < n92 + n34) = false := decide_eq_false (by omega)
      rw [hzb]
      have HE : Hid (s.data.toList.flatMap escQ = s.data.toList) := Lib.hid (escs_none _ (by rw [HN.out.1]; omega) (by rw [HN.out.2]; omega))
      clear hz hzb
      go_wp2_with fail
      go_ret
      exact ⟨by rw [HE.out, show (⟨s.data.toList.toArray⟩ : ByteArray) = s from by rw [Array.toArray_toList]]; rfl, below_drewN B0.out q⟩
    · have hzb : decide (0 < n92 + n34) = true := decide_eq_true (by omega)
      rw [hzb]
      obtain ⟨N, hN⟩ : ∃ N, (s.data.toList.flatMap escQ).length = N := ⟨_, rfl⟩
      have hNs : N = s.size + n92 + n34 := by rw [← hN, escs_count, HN.out.1, HN.out.2, data_len]
      rw [show ((s.size : Int) + n92 + n34) = ((N : Nat) : Int) from by omega]
      have hN3 : N ≤ 3000000 := by omega
      have HNN := Lib.hid hN
      obtain ⟨wd, hwd⟩ : ∃ x, w.drewN q = x := ⟨_, rfl⟩
      have BD : Hid (Below w.heap.size w wd) := Lib.hid (by rw [← hwd]; exact below_drewN B0.out q)
      rw [hwd]
      clear hz hzb hNs hN hwd
      obtain ⟨i0, hi, hz0, hz1, hz2⟩ := info_parts u8_ty.hi
      have hB2 := BD.out.size
      go_upto_region 22 with (at_make; refine wpList_make_full _ rfl _ _ 38 rfl w.heap.size 5 i0 (.int .u8 0) 1 Tryz.underlying38 hi hz0 hz1 .i64 .i64 _ _ N rfl rfl (by omega) (by omega) (by rw [hz2]; omega) (by simp only [maxLen]; omega) hB2 ?_; intro w3 hown3 hgr3; rw [zeros_own] at hown3; have R3 := Lib.hid hown3; have B3 := Lib.hid (BD.out.grown hgr3 hB2 (fun q hq => by cases hq)); clear hown3 hgr3)
      clear hi hz0 hz1 hz2 hB2
      obtain ⟨g, hg⟩ : ∃ x, wd.heap.size = x := ⟨_, rfl⟩
      rw [hg] at R3
      rw [hg]
      have HG : Hid (w.heap.size ≤ g) := Lib.hid (by rw [← hg]; exact BD.out.size)
      clear hg
      have HH : Hid (h < w.heap.size ∧ g1 < w.heap.size ∧ g2 < w.heap.size) := Lib.hid ⟨Hrow.out.lt, HR1.out.lt, HR2.out.lt⟩
      clear t256 x0 x1 hb3 HZ16 C92 C34 hl92 hl34
      go_wp2_with fail
      go_loopw [13, 14] (fun jv iv wr => ∃ (k : Nat) (Z : List UInt8), k ≤ s.size ∧ iv = .int .i64 k ∧ jv = .int .i64 (((s.data.toList.take k).flatMap escQ).length : Nat) ∧ ((s.data.toList.take k).flatMap escQ).length + Z.length = N ∧ wr.ownsRow w.heap.size 5 1 (.slice (some ⟨g, 0, none⟩) N N) N (bytesV ((s.data.toList.take k).flatMap escQ ++ Z)) ∧ Below w.heap.size w wr) (fun _ iv _ => s.size - (intOf iv).toNat)
      case atStart => exact ⟨0, List.replicate N 0, Nat.zero_le _, rfl, rfl, by simp, R3.out, B3.out⟩
      case round =>
        clear R3 B3 BD B0
        obtain ⟨wq, hwq⟩ : ∃ x : World, x = wr := ⟨_, rfl⟩
        subst hwq
        obtain ⟨k, Z, hk, rfl, rfl, hEZ, hown, hbel⟩ := hrel
        by_cases hlt : k < s.size
        · obtain ⟨c, hc⟩ : ∃ c, s[k] = c := ⟨_, rfl⟩
          have hg : s.data.toList[k]? = some c := by rw [← hc]; exact get_data s k hlt
          have HT := Lib.hid (escs_take _ k c hg)
          have hroom := escs_room _ k c hg
          rw [HNN.out] at hroom
          clear hg
          obtain ⟨E, hE⟩ : ∃ E, (s.data.toList.take k).flatMap escQ = E := ⟨_, rfl⟩
          rw [hE] at HT hEZ hroom hown
          rw [hE]
          clear hE
          obtain ⟨m, hm⟩ : ∃ m, E.length = m := ⟨_, rfl⟩
          rw [hm] at hEZ hroom
          rw [hm]
          have HM := Lib.hid hm
          clear hm
          by_cases e1 : c = 34
          · subst e1
            rw [escQ_esc (.inl rfl)] at HT hroom
            have hmN : m + 2 ≤ N := hroom
            have hiy : ((34 : UInt8).toNat : Int) = 34 := rfl
            have z34 : wq.cell? ⟨h, 34, none⟩ = some (.slice (some ⟨g1, 0, none⟩) 2 c1) := (hbel.cell HH.out.1).trans TT.out.1
            have Hown := Lib.hid hown
            have HB := Lib.hid hbel
            clear hown hbel hroom
            go_upto_region 28 with fail
            obtain ⟨WC, Z1, hrun, hown2, hlen2, hbel2⟩ := copy2 wq.drew g m N g1 c1 w.heap.size 92 34 Y1 E Z Hown.out HM.out hEZ hmN ((HR1.out.below HB.out HH.out.2.1).drewN 1) HH.out.2.1 HG.out
            have HCP := Lib.hid hrun
            have O2 := Lib.hid hown2
            have L2 := Lib.hid hlen2
            have B2 := Lib.hid (hbel2 w (below_drewN HB.out 1))
            have hmI : (m : Int) ≤ N := by omega
            have hNm : ¬ N = m := by omega
            clear hrun hown2 hlen2 hbel2 hEZ Hown
            refine wp_region_tree0 (fun W => W.cell? ⟨h, 34, none⟩ = some (.slice (some ⟨g1, 0, none⟩) 2 c1)) (.take 0 (.take 1 (.take 2 (.take 3 (.take 4 (.take 5 (.take 6 (.take 7 (.take 8 (.take 9 (.node (.fork 10 (.take 11 (.take 12 (.done))) (.stop))))))))))))) (by kernel_rfl) (by kernel_rfl) (of_decide_eq_true (by kernel_rfl)) rfl (by kernel_rfl) (z34) ?_
            intro hH
            iterate 10
              refine tree_take (v := ?_) rfl (by rfl) ?_ ?_
              rotate_left
              · intro w2 hSw
                have e0 := hSw
                clear hSw
                go_simp
                try with_reducible rfl
              try simp only [Act.put, List.setIfInBounds_toArray, List.set_cons_zero, List.set_cons_succ]
            refine tree_node ?_
            refine tree_move rfl (by rfl) (fun K hK => ?_) ?_
            · refine wp_copy_runI wq.drew _ _ 38 38 rfl (.slice (some ⟨g, m, none⟩) (N - m) (N - m)) (.slice (some ⟨g1, 0, none⟩) 2 c1) rfl rfl HCP.out ?_
              refine hK.out _ _ ((B2.out.cell HH.out.1).trans TT.out.1) ?_
              clear hH hK K
              intro hH
              try simp only [Act.put, List.setIfInBounds_toArray, List.set_cons_zero, List.set_cons_succ]
              iterate 2
                refine tree_take (v := ?_) rfl (by rfl) ?_ ?_
                rotate_left
                · intro w2 hSw
                  have e0 := hSw
                  clear hSw
                  go_simp
                  try with_reducible rfl
                try simp only [Act.put, List.setIfInBounds_toArray, List.set_cons_zero, List.set_cons_succ]
              refine tree_done ?_
              clear hH
              go_wp2_with fail
              go_roundw
              case rel => exact ⟨k + 1, Z1, by omega, by go_num, by rw [HT.out, List.length_append, HM.out]; show Value.int .i64 (IntKind.i64.wrap ((m : Int) + 2)) = Value.int .i64 ((m + 2 : Nat) : Int); rw [IntWalk.i64_in _ ⟨by omega, by omega⟩]; rfl, by rw [HT.out, List.length_append, HM.out]; exact L2.out, by rw [HT.out]; exact O2.out, B2.out⟩
              case measure => simp [intOf]; omega
            exact tree_stop
          · by_cases e2 : c = 92
            · subst e2
              rw [escQ_esc (.inr rfl)] at HT hroom
              have hmN : m + 2 ≤ N := hroom
              have hiy : ((92 : UInt8).toNat : Int) = 92 := rfl
              have z92 : wq.cell? ⟨h, 92, none⟩ = some (.slice (some ⟨g2, 0, none⟩) 2 c2) := (hbel.cell HH.out.1).trans TT.out.2
              have Hown := Lib.hid hown
              have HB := Lib.hid hbel
              clear hown hbel hroom e1
              go_upto_region 28 with fail
              obtain ⟨WC, Z1, hrun, hown2, hlen2, hbel2⟩ := copy2 wq.drew g m N g2 c2 w.heap.size 92 92 Y2 E Z Hown.out HM.out hEZ hmN ((HR2.out.below HB.out HH.out.2.2).drewN 1) HH.out.2.2 HG.out
              have HCP := Lib.hid hrun
              have O2 := Lib.hid hown2
              have L2 := Lib.hid hlen2
              have B2 := Lib.hid (hbel2 w (below_drewN HB.out 1))
              have hmI : (m : Int) ≤ N := by omega
              have hNm : ¬ N = m := by omega
              clear hrun hown2 hlen2 hbel2 hEZ Hown
              refine wp_region_tree0 (fun W => W.cell? ⟨h, 92, none⟩ = some (.slice (some ⟨g2, 0, none⟩) 2 c2)) (.take 0 (.take 1 (.take 2 (.take 3 (.take 4 (.take 5 (.take 6 (.take 7 (.take 8 (.take 9 (.node (.fork 10 (.take 11 (.take 12 (.done))) (.stop))))))))))))) (by kernel_rfl) (by kernel_rfl) (of_decide_eq_true (by kernel_rfl)) rfl (by kernel_rfl) (z92) ?_
              intro hH
              iterate 10
                refine tree_take (v := ?_) rfl (by rfl) ?_ ?_
                rotate_left
                · intro w2 hSw
                  have e0 := hSw
                  clear hSw
                  go_simp
                  try with_reducible rfl
                try simp only [Act.put, List.setIfInBounds_toArray, List.set_cons_zero, List.set_cons_succ]
              refine tree_node ?_
              refine tree_move rfl (by rfl) (fun K hK => ?_) ?_
              · refine wp_copy_runI wq.drew _ _ 38 38 rfl (.slice (some ⟨g, m, none⟩) (N - m) (N - m)) (.slice (some ⟨g2, 0, none⟩) 2 c2) rfl rfl HCP.out ?_
                refine hK.out _ _ ((B2.out.cell HH.out.1).trans TT.out.2) ?_
                clear hH hK K
                intro hH
                try simp only [Act.put, List.setIfInBounds_toArray, List.set_cons_zero, List.set_cons_succ]
                iterate 2
                  refine tree_take (v := ?_) rfl (by rfl) ?_ ?_
                  rotate_left
                  · intro w2 hSw
                    have e0 := hSw
                    clear hSw
                    go_simp
                    try with_reducible rfl
                  try simp only [Act.put, List.setIfInBounds_toArray, List.set_cons_zero, List.set_cons_succ]
                refine tree_done ?_
                clear hH
                go_wp2_with fail
                go_roundw
                case rel => exact ⟨k + 1, Z1, by omega, by go_num, by rw [HT.out, List.length_append, HM.out]; show Value.int .i64 (IntKind.i64.wrap ((m : Int) + 2)) = Value.int .i64 ((m + 2 : Nat) : Int); rw [IntWalk.i64_in _ ⟨by omega, by omega⟩]; rfl, by rw [HT.out, List.length_append, HM.out]; exact L2.out, by rw [HT.out]; exact O2.out, B2.out⟩
                case measure => simp [intOf]; omega
              exact tree_stop
            · have zc : wq.cell? ⟨h, c.toNat, none⟩ = some (.slice none 0 0) := (hbel.cell HH.out.1).trans (TZ.out c e1 e2)
              have hcl : (c.toNat : Int) < 256 := by have := c.toNat_lt; omega
              rw [escQ_plain e1 e2] at HT hroom
              have hmN : m < N := hroom
              obtain ⟨y0, e0⟩ : ∃ v, wq.cell? ⟨g, m, none⟩ = some v := by
                have hl := hown.1
                exact ⟨_, by rw [hown.cellAt m (by omega), List.getElem?_eq_getElem (by omega)]⟩
              have f0 := hown.frozenAt m
              have hst := hown.stored m (.int .u8 c.toNat)
              obtain ⟨z1, Z1, rfl⟩ : ∃ z1 Z1, Z = z1 :: Z1 := by
                cases Z with
                | nil => simp at hEZ; omega
                | cons a b => exact ⟨a, b, rfl⟩
              rw [← HM.out, bytes_put] at hst
              rw [HM.out] at hst
              have Hst := Lib.hid hst
              have HB := Lib.hid hbel
              clear hst hroom hown hbel e1 e2
              have hEZ' := Lib.hid hEZ
              clear hEZ
              go_wp2_with fail
              go_roundw
              case rel =>
                have e := hEZ'.out
                simp only [List.length_cons] at e
                refine ⟨k + 1, Z1, by omega, by go_num, ?_, ?_, ?_, HB.out.grown Hst.out.2 HB.out.size (fun q hq => by injection hq with hq; have := HG.out; omega)⟩
                · rw [HT.out, List.length_append, HM.out]; rfl
                · rw [HT.out, List.length_append, HM.out]; simp only [List.length_singleton]; omega
                · rw [HT.out]; have h := Hst.out.1; rw [show E ++ c :: Z1 = (E ++ [c]) ++ Z1 from by simp] at h; exact h
              case measure => simp [intOf]; omega
        · obtain rfl : k = s.size := by omega
          rw [List.take_of_length_le (by rw [data_len]; omega)] at hEZ hown
          rw [HNN.out] at hEZ
          obtain rfl : Z = [] := List.eq_nil_of_length_eq_zero (by omega)
          rw [List.append_nil] at hown
          have HV := Lib.hid (SliceIn.of_own hown)
          have HB := Lib.hid hbel
          have hc1 := run_string_of (P := Tryz.prog) HV.out 38 9 5 Tryz.underlying38 Tryz.underlying5 Tryz.underlying9
          clear hown hbel HV
          go_wp2_with fail
          go_ret
          exact ⟨rfl, HB.out⟩
end Go.Proofs.YtclgkkencpkjpaaGreatDoor
