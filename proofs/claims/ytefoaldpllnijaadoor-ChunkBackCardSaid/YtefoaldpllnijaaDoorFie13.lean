/- Walks of layer 3: what is wrong with fields; fields as a header. Condition: at most 10^6 fields, texts within 10^9 octets. -/
import Derived.Test.YtefoaldpllnijaaDoorFie12
namespace Go.Proofs.YtefoaldpllnijaaDoor
open Go.RowKit IH
set_option maxRecDepth 100000
theorem strCells_bytes (s : ByteArray) : Lib.strCells s = bytesV s.data.toList := by
  simp [Lib.strCells, bytesV, byteV]
theorem wp_app_str {w : World} {o : Oper} {a : Act} {K : Act → World → Prop} {Q : Exit → Act → World → Prop} (sl x : Operand)
    (ho : o.op = .call { callee := .builtin .append, args := #[sl, x], argTypes := #[22, 9] })
    (base : Nat) (v : Value) (n : Nat) (l : List UInt8) (hs : a.eval sl = v) (hown : w.ownsRow base 5 1 v n (bytesV l)) (s : ByteArray) (hx : a.eval x = .string s)
    (hb : n + s.size ≤ 140737488355328) (hbase : base ≤ w.heap.size)
    (h : ∀ v' w', w'.ownsRow base 5 1 v' (n + s.size) (bytesV (l ++ s.data.toList)) → w.grownBy w' v.ownBlock → K (a.put o.dst v') w') : o.wp Tryd.prog a w K Q := by
  obtain ⟨i0, hi, hz0, hz1, hz2⟩ := info_parts u8_ty.hi
  obtain ⟨v', w', hr, h2, h3, h4⟩ := Lib.run_append_own_string (P := Tryd.prog) w base 22 9 o.type 5 i0 Tryd.underlying22 Tryd.underlying9 hi hz0 hz1 hz2 v n (bytesV l) hown s (by simp only [maxLen]; omega) hb hbase
  rw [strCells_bytes, ← bytesV_append] at h2
  unfold Oper.wp execOp
  simp only [ho, resolve, invoke, builtin, Sem.run_bind, Sem.run_pure, Result.andThen_ok, List.map_toArray, List.map_cons, List.map_nil, hs, hx, hr]
  exact h v' w' h2 h3
theorem wpList_app_str {w : World} {ops : Array Oper} {rest : List Oper} {o : Oper} {a : Act} {Q : Exit → Act → World → Prop} (hgd : o.guard = none) (sl x : Operand)
    (ho : o.op = .call { callee := .builtin .append, args := #[sl, x], argTypes := #[22, 9] })
    (base : Nat) (v : Value) (n : Nat) (l : List UInt8) (hs : a.eval sl = v) (hown : w.ownsRow base 5 1 v n (bytesV l)) (s : ByteArray) (hx : a.eval x = .string s)
    (hb : n + s.size ≤ 140737488355328) (hbase : base ≤ w.heap.size)
    (h : ∀ v' w', w'.ownsRow base 5 1 v' (n + s.size) (bytesV (l ++ s.data.toList)) → w.grownBy w' v.ownBlock → wpList Tryd.prog ops Q rest (a.put o.dst v') w') : wpList Tryd.prog ops Q (o :: rest) a w :=
  wpList_plain hgd fun _ hK => wp_app_str sl x ho base v n l hs hown s hx hb hbase fun v' w' h2 h3 => hK _ _ (h v' w' h2 h3)
theorem ne_type {w : World} {g base size n : Nat} {e e' : TypeId} {cs xs : List Value} {v : Value} (hown : w.ownsRow base e' size v n xs) (hr : RowAt w g e cs) (hne : e ≠ e') : ∀ q, v.ownBlock = some q → q ≠ g := by
  intro q hq he
  subst he
  rcases hown.2 with ⟨rfl, _⟩ | ⟨g', cap, cur, rfl, _, hh, _⟩
  · cases hq
  · simp only [Value.ownBlock, Option.some.injEq] at hq
    subst hq
    obtain ⟨cur2, lo, hi, hh2, _⟩ := hr
    rw [hh] at hh2
    simp only [Option.some.injEq, Obj.cells.injEq] at hh2
    exact hne hh2.2.1.symm
theorem own_count {w : World} {base size n m : Nat} {e : TypeId} {v : Value} {xs : List Value} (h : w.ownsRow base e size v n xs) (hn : n = m) : w.ownsRow base e size v m xs := hn ▸ h
theorem lines_length (L : List Fld) : (L.flatMap line1).length + 2 = sizeL L := by
  have := printL_length L
  unfold printL at this
  rw [List.length_append] at this
  simpa using this
theorem lines_snoc (L : List Fld) (k : Nat) (f : Fld) (hk : L[k]? = some f) : (L.take (k + 1)).flatMap line1 = (L.take k).flatMap line1 ++ (f.1 ++ [58, 32] ++ f.2 ++ [13, 10]) := by
  rw [List.take_add_one, hk]
  simp [line1]
set_option maxHeartbeats 4000000 in
theorem fault_any (A : Option Addr) (n c : Nat) (L : List Fld) (w : World) (hin : SliceIn w w.heap.size 2 A n c (fldsV L)) (hs : n ≤ 1000000) (hm : smallF 1000000000 L) :
    Calls Tryd.prog 71 #[.slice A n c] w fun e w' => e = .returned (.int .i64 (faultL L)) ∧ Below w.heap.size w w' := by
  have hL := fld_count hin
  have CF := ContainsFault_any A n c L w hin hs hm
  have SZ := fun w1 (hb : Below w.heap.size w w1) => fsize_any A n c L w1 ((hin.below hb).more hb.size) hs hm
  have e1 : L.any unfit = L.any (fun f => !fit f) := rfl
  rw [e1] at CF
  have hsb := sizeL_bd 1000000000 L hm
  rw [hL] at hsb
  unfold faultL
  rw [hL]
  generalize sizeL L = z at *
  clear hin hm e1
  replace SZ := Lib.hid SZ
  cases hb : L.any (fun f => !fit f)
  · rw [if_neg (by simp)]
    rw [hb] at CF
    replace CF := Lib.hid CF
    clear hb
    by_cases h1 : 128 < n
    · rw [if_pos h1]
      have h1I : (128 : Int) < (n : Int) := by omega
      clear h1
      go_enter Tryd.func71, Tryd.ntmps71
      go_wp2_with (go_at_call 85; refine CF.out.mono ?_; rintro e w2 ⟨rfl, hb2⟩)
      go_ret
      exact ⟨rfl, hb2⟩
    · rw [if_neg h1]
      have h1I : (n : Int) ≤ (128 : Int) := by omega
      clear h1
      by_cases h2 : 65536 < z
      · rw [if_pos h2]
        have h2I : (65536 : Int) < (z : Int) := by omega
        clear h2
        go_enter Tryd.func71, Tryd.ntmps71
        go_wp2_with (first
          | (go_at_call 85; refine CF.out.mono ?_; rintro e w2 ⟨rfl, hb2⟩)
          | (go_at_call 88; refine (SZ.out _ hb2).mono ?_; rintro e w3 ⟨rfl, hb3⟩))
        go_ret
        exact ⟨rfl, below_step hb2 hb3⟩
      · rw [if_neg h2]
        have h2I : (z : Int) ≤ (65536 : Int) := by omega
        clear h2
        go_enter Tryd.func71, Tryd.ntmps71
        go_wp2_with (first
          | (go_at_call 85; refine CF.out.mono ?_; rintro e w2 ⟨rfl, hb2⟩)
          | (go_at_call 88; refine (SZ.out _ hb2).mono ?_; rintro e w3 ⟨rfl, hb3⟩))
        go_ret
        exact ⟨rfl, below_step hb2 hb3⟩
  · rw [if_pos rfl]
    rw [hb] at CF
    replace CF := Lib.hid CF
    clear hb
    go_enter Tryd.func71, Tryd.ntmps71
    go_wp2_with (go_at_call 85; refine CF.out.mono ?_; rintro e w2 ⟨rfl, hb2⟩)
    go_ret
    exact ⟨rfl, hb2⟩
end Go.Proofs.YtefoaldpllnijaaDoor
