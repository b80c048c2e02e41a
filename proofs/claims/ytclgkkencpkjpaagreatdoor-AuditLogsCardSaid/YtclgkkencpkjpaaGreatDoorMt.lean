/- Mt: several texts, one behind the other. -/
import Derived.Test.YtclgkkencpkjpaaGreatDoorMtz
import Derived.Test.YtclgkkencpkjpaaGreatDoorTe
import Derived.Test.YtclgkkencpkjpaaGreatDoorKt
/- Layer 26: lists of messages in memory: rows of seven cells each, whose two slices are rows of their own; what keeps them. No condition but as each states. -/
namespace Go.Proofs.YtclgkkencpkjpaaGreatDoor
open Go.RowKit IH
set_option maxRecDepth 100000
theorem list7w {l : List Value} (h : l.length = 7) : ∃ a0 a1 a2 a3 a4 a5 a6, l = [a0, a1, a2, a3, a4, a5, a6] := by
  match l, h with
  | [a0, a1, a2, a3, a4, a5, a6], _ => exact ⟨a0, a1, a2, a3, a4, a5, a6, rfl⟩
/-- A typed own row is kept by what is written into a block of another type. -/
theorem own_only_ty {w W : World} {y base size n : Nat} {t e : TypeId} {cs xs : List Value} {v : Value} (h : w.ownsRow base e size v n xs) (ho : Only y w W) (hy : RowAt w y t cs) (hne : t ≠ e) : W.ownsRow base e size v n xs := by
  have hn := ne_type h hy hne
  refine ⟨h.1, ?_⟩
  rcases h.2 with h2 | ⟨g', cap, cur, hv, hg', hh, r⟩
  · exact .inl h2
  · exact .inr ⟨g', cap, cur, hv, hg', (ho.block g' (hn g' (by rw [hv]; rfl))).trans hh, r⟩
/-- A typed own row is kept by an append onto a row of another type. -/
theorem own_grown_ty {w W : World} {base base' size size' n n' : Nat} {t e : TypeId} {xs ys : List Value} {v u : Value} (h : w.ownsRow base e size v n xs) (hu : w.ownsRow base' t size' u n' ys) (hg : w.grownBy W u.ownBlock) (hne : t ≠ e) : W.ownsRow base e size v n xs := by
  refine ⟨h.1, ?_⟩
  rcases h.2 with h2 | ⟨g', cap, cur, hv, hg', hh, r⟩
  · exact .inl h2
  · refine .inr ⟨g', cap, cur, hv, hg', (hg.block g' (Array.getElem?_eq_some_iff.1 hh).1 (fun he => ?_)).trans hh, r⟩
    rcases hu.2 with ⟨h3, _⟩ | ⟨g2, cap2, cur2, hv2, _, hh2, _⟩
    · rw [h3] at he; cases he
    · rw [hv2] at he
      simp only [Value.ownBlock, Option.some.injEq] at he
      subst he
      rw [hh] at hh2
      simp only [Option.some.injEq, Obj.cells.injEq] at hh2
      exact hne hh2.2.1.symm
/-- A message's cells, its lists rows of their own. -/
def MsgO (w : World) (m : Msg) (C : List Value) : Prop := ∃ A n c A2 n2 c2, C = msgC m.start (.slice A n c) (.slice A2 n2 c2) ∧ w.ownsRow 0 134 2 (.slice A n c) n (fldsV m.fields) ∧ w.ownsRow 0 5 1 (.slice A2 n2 c2) n2 (bytesV m.body)
theorem MsgO.below {w W : World} {m : Msg} {C : List Value} (h : MsgO w m C) (hb : Below w.heap.size w W) : MsgO W m C := by
  obtain ⟨A, n, c, A2, n2, c2, h1, h2, h3⟩ := h
  exact ⟨A, n, c, A2, n2, c2, h1, own_below h2 hb, own_below h3 hb⟩
theorem MsgO.only {w W : World} {m : Msg} {C : List Value} {y : Nat} {cs : List Value} (h : MsgO w m C) (ho : Only y w W) (hy : RowAt w y 65 cs) : MsgO W m C := by
  obtain ⟨A, n, c, A2, n2, c2, h1, h2, h3⟩ := h
  exact ⟨A, n, c, A2, n2, c2, h1, own_only_ty h2 ho hy (by decide), own_only_ty h3 ho hy (by decide)⟩
theorem MsgO.grown {w W : World} {m : Msg} {C : List Value} {base n' : Nat} {u : Value} {ys : List Value} (h : MsgO w m C) (hu : w.ownsRow base 65 7 u n' ys) (hg : w.grownBy W u.ownBlock) : MsgO W m C := by
  obtain ⟨A, n, c, A2, n2, c2, h1, h2, h3⟩ := h
  exact ⟨A, n, c, A2, n2, c2, h1, own_grown_ty h2 hu hg (by decide), own_grown_ty h3 hu hg (by decide)⟩
theorem MsgO.right {w : World} {m : Msg} {C : List Value} (h : MsgO w m C) : RightC C := by
  obtain ⟨A, n, c, A2, n2, c2, rfl, -, -⟩ := h
  exact msgC_right _ _ _ _ _ _ _
theorem MsgO.of_msg {w : World} {m : Msg} {C : List Value} (h : MsgO w m C) : IsMsg (toldOf m.start m.fields m.body) C w := by
  obtain ⟨A, n, c, A2, n2, c2, rfl, h2, h3⟩ := h
  exact ⟨A, n, c, A2, n2, c2, rfl, SliceIn.of_own h2, SliceIn.of_own h3⟩
theorem MsgO.same {w : World} {m : Msg} {C D : List Value} (hf : m.fields.length ≤ 1000000) (h : MsgO w m C) (h' : MsgO w m D) : Calls Tryz.prog 45 #[.agg C.toArray, .agg D.toArray] w fun e w' => e = .returned (.bool true) ∧ Below w.heap.size w w' :=
  same_of m.start m.fields m.body hf C D w h.of_msg h'.of_msg
/-- Messages, one behind the other: each with its cells. -/
def MsgsO (w : World) (L : List Msg) (CS : List (List Value)) : Prop := CS.length = L.length ∧ ∀ (i : Nat) (m : Msg) (C : List Value), L[i]? = some m → CS[i]? = some C → MsgO w m C
theorem MsgsO.nil (w : World) : MsgsO w [] [] := ⟨rfl, fun i m C h => by simp at h⟩
theorem MsgsO.snoc {w : World} {L : List Msg} {CS : List (List Value)} {m : Msg} {C : List Value} (h : MsgsO w L CS) (hm : MsgO w m C) : MsgsO w (L ++ [m]) (CS ++ [C]) := by
  refine ⟨by simp [h.1], fun i m' C' h1 h2 => ?_⟩
  rcases Nat.lt_or_ge i L.length with hi | hi
  · rw [List.getElem?_append_left hi] at h1
    rw [List.getElem?_append_left (by rw [h.1]; exact hi)] at h2
    exact h.2 i m' C' h1 h2
  · rw [List.getElem?_append_right hi] at h1
    rw [List.getElem?_append_right (by rw [h.1]; exact hi), h.1] at h2
    obtain ⟨k, hk⟩ : ∃ k, i - L.length = k := ⟨_, rfl⟩
    rw [hk] at h1 h2
    cases k with
    | zero =>
      simp only [List.getElem?_cons_zero, Option.some.injEq] at h1 h2
      subst h1 h2
      exact hm
    | succ k => simp at h1
theorem MsgsO.map {w W : World} {L : List Msg} {CS : List (List Value)} (h : MsgsO w L CS) (f : ∀ m C, MsgO w m C → MsgO W m C) : MsgsO W L CS := ⟨h.1, fun i m C h1 h2 => f m C (h.2 i m C h1 h2)⟩
theorem MsgsO.below {w W : World} {L : List Msg} {CS : List (List Value)} (h : MsgsO w L CS) (hb : Below w.heap.size w W) : MsgsO W L CS := h.map fun _ _ hm => hm.below hb
theorem MsgsO.only {w W : World} {L : List Msg} {CS : List (List Value)} {y : Nat} {cs : List Value} (h : MsgsO w L CS) (ho : Only y w W) (hy : RowAt w y 65 cs) : MsgsO W L CS := h.map fun _ _ hm => hm.only ho hy
theorem MsgsO.grown {w W : World} {L : List Msg} {CS : List (List Value)} {base n' : Nat} {u : Value} {ys : List Value} (h : MsgsO w L CS) (hu : w.ownsRow base 65 7 u n' ys) (hg : w.grownBy W u.ownBlock) : MsgsO W L CS := h.map fun _ _ hm => hm.grown hu hg
/-- The cells of such a list, flat. -/
theorem msgs_flat_len {w : World} {L : List Msg} {CS : List (List Value)} (h : MsgsO w L CS) : CS.flatten.length = L.length * 7 := by
  rw [← h.1]
  have key : ∀ (X : List (List Value)), (∀ C ∈ X, C.length = 7) → X.flatten.length = X.length * 7 := by
    intro X
    induction X with
    | nil => intro _; rfl
    | cons a X ih =>
      intro h
      rw [List.flatten_cons, List.length_append, List.length_cons, h a (by simp), ih (fun C hC => h C (by simp [hC]))]
      omega
  refine key CS fun C hC => ?_
  obtain ⟨i, hi⟩ := List.getElem?_of_mem hC
  have hl : i < CS.length := (List.getElem?_eq_some_iff.1 hi).1
  obtain ⟨m, hm⟩ : ∃ m, L[i]? = some m := ⟨_, List.getElem?_eq_getElem (by rw [← h.1]; exact hl)⟩
  exact (h.2 i m C hm hi).right.1
theorem flat_at : ∀ (CS : List (List Value)) (i : Nat) (C : List Value), (∀ D ∈ CS, D.length = 7) → CS[i]? = some C → ∀ j u, C[j]? = some u → CS.flatten[i * 7 + j]? = some u := by
  intro CS
  induction CS with
  | nil => intro i C _ h; simp at h
  | cons a CS ih =>
    intro i C hl h j u hu
    have ha := hl a (by simp)
    cases i with
    | zero =>
      simp only [List.getElem?_cons_zero, Option.some.injEq] at h
      subst h
      rw [List.flatten_cons, Nat.zero_mul, Nat.zero_add, List.getElem?_append_left (List.getElem?_eq_some_iff.1 hu).1]
      exact hu
    | succ i =>
      simp only [List.getElem?_cons_succ] at h
      rw [List.flatten_cons, List.getElem?_append_right (by omega), show (i + 1) * 7 + j - a.length = i * 7 + j by omega]
      exact ih i C (fun D hD => hl D (by simp [hD])) h j u hu
end Go.Proofs.YtclgkkencpkjpaaGreatDoor

/- Layer 26: the document's Same, at two lists of the same messages. Condition: the messages have at most 10^6 fields. -/
namespace Go.Proofs.YtclgkkencpkjpaaGreatDoor
open Go.RowKit IH
set_option maxRecDepth 100000
/-- A message's cells in such a slice. -/
theorem msg_at {w : World} {B n c : Nat} {A : Option Addr} {L : List Msg} {CS : List (List Value)} (hin : SliceIn w B 7 A n c CS.flatten) (h : MsgsO w L CS) (hL : L.length = n) {i : Nat} (hi : i < n) :
    ∃ (b o : Nat) (m : Msg) (p0 p1 p2 p3 p4 p5 p6 : Value), A = some ⟨b, o, none⟩ ∧ b < B ∧ L[i]? = some m ∧ MsgO w m [p0, p1, p2, p3, p4, p5, p6] ∧
      (w.cell? ⟨b, o + i * 7, none⟩ = some p0 ∧ w.cell? ⟨b, o + i * 7 + 1, none⟩ = some p1 ∧ w.cell? ⟨b, o + i * 7 + 2, none⟩ = some p2 ∧ w.cell? ⟨b, o + i * 7 + 3, none⟩ = some p3 ∧ w.cell? ⟨b, o + i * 7 + 4, none⟩ = some p4 ∧ w.cell? ⟨b, o + i * 7 + 5, none⟩ = some p5 ∧ w.cell? ⟨b, o + i * 7 + 6, none⟩ = some p6) := by
  obtain ⟨b, o, hA, hb, hc⟩ := hin.2.2.2 (by omega)
  obtain ⟨m, hm⟩ : ∃ m, L[i]? = some m := ⟨_, List.getElem?_eq_getElem (by omega)⟩
  obtain ⟨C, hC⟩ : ∃ C, CS[i]? = some C := ⟨_, List.getElem?_eq_getElem (by rw [h.1]; omega)⟩
  have hall : ∀ D ∈ CS, D.length = 7 := by
    intro D hD
    obtain ⟨k, hk⟩ := List.getElem?_of_mem hD
    obtain ⟨m', hm'⟩ : ∃ m', L[k]? = some m' := ⟨_, List.getElem?_eq_getElem (by rw [← h.1]; exact (List.getElem?_eq_some_iff.1 hk).1)⟩
    exact (h.2 k m' D hm' hk).right.1
  have hO := h.2 i m C hm hC
  obtain ⟨p0, p1, p2, p3, p4, p5, p6, rfl⟩ := list7w hO.right.1
  have hat := fun (j : Nat) (u : Value) (hu : [p0, p1, p2, p3, p4, p5, p6][j]? = some u) => hc (i * 7 + j) u (flat_at CS i _ hall hC j u hu)
  refine ⟨b, o, m, p0, p1, p2, p3, p4, p5, p6, hA, hb, hm, hO, ?_, ?_, ?_, ?_, ?_, ?_, ?_⟩
  · have := hat 0 p0 rfl; rw [← Nat.add_assoc] at this; exact this
  · have := hat 1 p1 rfl; rw [← Nat.add_assoc] at this; exact this
  · have := hat 2 p2 rfl; rw [← Nat.add_assoc] at this; exact this
  · have := hat 3 p3 rfl; rw [← Nat.add_assoc] at this; exact this
  · have := hat 4 p4 rfl; rw [← Nat.add_assoc] at this; exact this
  · have := hat 5 p5 rfl; rw [← Nat.add_assoc] at this; exact this
  · have := hat 6 p6 rfl; rw [← Nat.add_assoc] at this; exact this
set_option maxHeartbeats 16000000 in
theorem rsame26_any (L : List Msg) (CS DS : List (List Value)) (A B : Option Addr) (n c c' : Nat) (w : World) (h1 : SliceIn w w.heap.size 7 A n c CS.flatten) (h2 : SliceIn w w.heap.size 7 B n c' DS.flatten) (m1 : MsgsO w L CS) (m2 : MsgsO w L DS) (hf : ∀ m ∈ L, m.fields.length ≤ 1000000) :
    Calls Tryz.prog 27 #[.slice A n c, .slice B n c'] w fun e w' => e = .returned (.bool true) ∧ Below w.heap.size w w' := by
  have hL : L.length = n := by have h := h1.1; rw [msgs_flat_len m1] at h; omega
  have hnc := h1.2.1
  have hnc' := h2.2.1
  have hcm := h1.2.2.1
  have H1 := Lib.hid h1
  have H2 := Lib.hid h2
  have M1 := Lib.hid m1
  have M2 := Lib.hid m2
  have HF := Lib.hid hf
  have HL := Lib.hid hL
  have hn9 : (n : Int) ≤ 9223372036854775807 := by simp only [maxLen] at hcm; omega
  clear h1 h2 m1 m2 hf hL hcm
  go_enter Tryz.func27, Tryz.ntmps27
  go_wp2
  go_loopw [5] (fun iv wr => ∃ i : Nat, iv = .int .i64 i ∧ i ≤ n ∧ Below w.heap.size w wr) (fun iv _ => n - (intOf iv).toNat)
  case atStart => exact ⟨0, rfl, Nat.zero_le _, Below.refl _ _⟩
  case round =>
    obtain ⟨wq, hwq⟩ : ∃ x : World, x = wr := ⟨_, rfl⟩
    subst hwq
    obtain ⟨i, rfl, hi, hbq⟩ := hrel
    have Bq := Lib.hid hbq
    clear hbq
    by_cases hlt : i < n
    · obtain ⟨b, o, m, p0, p1, p2, p3, p4, p5, p6, hA, hb, hm, hO, x0, x1, x2, x3, x4, x5, x6⟩ := msg_at H1.out M1.out HL.out hlt
      obtain ⟨b2, o2, m', q0, q1, q2, q3, q4, q5, q6, hB, hb2, hm', hO2, y0, y1, y2, y3, y4, y5, y6⟩ := msg_at H2.out M2.out HL.out hlt
      obtain rfl : m = m' := Option.some.inj (hm.symm.trans hm')
      have SM := Lib.hid (fun (W : World) (hW : Below w.heap.size w W) => (hO.below hW).same (HF.out m (List.mem_of_getElem? hm)) (hO2.below hW))
      have hib : (i : Int) < (n : Int) := by omega
      have HX := Lib.hid (And.intro x0 (And.intro x1 (And.intro x2 (And.intro x3 (And.intro x4 (And.intro x5 x6))))))
      have HY := Lib.hid (And.intro y0 (And.intro y1 (And.intro y2 (And.intro y3 (And.intro y4 (And.intro y5 y6))))))
      have Hb := Lib.hid (And.intro hb hb2)
      subst hA hB
      clear hm hm' hO hO2 x0 x1 x2 x3 x4 x5 x6 y0 y1 y2 y3 y4 y5 y6 hb hb2
      go_upto_region 6 with fail
      go_cut [26] from 17 to 26 (fun s26 wx => s26 = .bool false ∧ Below wq.heap.size wq wx)
      case first =>
        refine wp_region_plan (fun W => Below wq.heap.size wq W) [(0, true), (1, true), (2, true), (3, true), (4, true), (5, true), (6, true), (7, true), (8, false), (9, true)] (by kernel_rfl) (by kernel_rfl) rfl (by kernel_rfl) (below_drewN (Below.refl _ _) 1) ?_
        intro w1 hH
        iterate 8
          refine plan_take (v := ?_) rfl (by rfl) ?_ ?_
          rotate_left
          · intro w2 hSw
            have hbw := below_step Bq.out hSw
            obtain ⟨x0, x1, x2, x3, x4, x5, x6⟩ := HX.out
            obtain ⟨y0, y1, y2, y3, y4, y5, y6⟩ := HY.out
            have x0 := (hbw.cell (p := ⟨b, o + i * 7, none⟩) Hb.out.1).trans x0
            have x1 := (hbw.cell (p := ⟨b, o + i * 7 + 1, none⟩) Hb.out.1).trans x1
            have x2 := (hbw.cell (p := ⟨b, o + i * 7 + 2, none⟩) Hb.out.1).trans x2
            have x3 := (hbw.cell (p := ⟨b, o + i * 7 + 3, none⟩) Hb.out.1).trans x3
            have x4 := (hbw.cell (p := ⟨b, o + i * 7 + 4, none⟩) Hb.out.1).trans x4
            have x5 := (hbw.cell (p := ⟨b, o + i * 7 + 5, none⟩) Hb.out.1).trans x5
            have x6 := (hbw.cell (p := ⟨b, o + i * 7 + 6, none⟩) Hb.out.1).trans x6
            have y0 := (hbw.cell (p := ⟨b2, o2 + i * 7, none⟩) Hb.out.2).trans y0
            have y1 := (hbw.cell (p := ⟨b2, o2 + i * 7 + 1, none⟩) Hb.out.2).trans y1
            have y2 := (hbw.cell (p := ⟨b2, o2 + i * 7 + 2, none⟩) Hb.out.2).trans y2
            have y3 := (hbw.cell (p := ⟨b2, o2 + i * 7 + 3, none⟩) Hb.out.2).trans y3
            have y4 := (hbw.cell (p := ⟨b2, o2 + i * 7 + 4, none⟩) Hb.out.2).trans y4
            have y5 := (hbw.cell (p := ⟨b2, o2 + i * 7 + 5, none⟩) Hb.out.2).trans y5
            have y6 := (hbw.cell (p := ⟨b2, o2 + i * 7 + 6, none⟩) Hb.out.2).trans y6
            clear hbw
            clear hSw
            go_simp
            try with_reducible rfl
          try simp only [Act.put, List.setIfInBounds_toArray, List.set_cons_zero, List.set_cons_succ]
        refine plan_move rfl (by rfl) (fun K hK => ?_)
        go_simp
        (with_reducible refine (SM.out _ (below_step Bq.out hH.out)).mono ?_)
        rintro e w5 ⟨rfl, hb5⟩
        refine hK.out _ _ (below_step hH.out hb5) ?_
        clear hH hK hb5 K
        intro hH
        try simp only [Act.put, List.setIfInBounds_toArray, List.set_cons_zero, List.set_cons_succ]
        iterate 1
          refine plan_take (v := ?_) rfl (by rfl) ?_ ?_
          rotate_left
          · intro w2 hSw
            have hbw := below_step Bq.out hSw
            obtain ⟨x0, x1, x2, x3, x4, x5, x6⟩ := HX.out
            obtain ⟨y0, y1, y2, y3, y4, y5, y6⟩ := HY.out
            have x0 := (hbw.cell (p := ⟨b, o + i * 7, none⟩) Hb.out.1).trans x0
            have x1 := (hbw.cell (p := ⟨b, o + i * 7 + 1, none⟩) Hb.out.1).trans x1
            have x2 := (hbw.cell (p := ⟨b, o + i * 7 + 2, none⟩) Hb.out.1).trans x2
            have x3 := (hbw.cell (p := ⟨b, o + i * 7 + 3, none⟩) Hb.out.1).trans x3
            have x4 := (hbw.cell (p := ⟨b, o + i * 7 + 4, none⟩) Hb.out.1).trans x4
            have x5 := (hbw.cell (p := ⟨b, o + i * 7 + 5, none⟩) Hb.out.1).trans x5
            have x6 := (hbw.cell (p := ⟨b, o + i * 7 + 6, none⟩) Hb.out.1).trans x6
            have y0 := (hbw.cell (p := ⟨b2, o2 + i * 7, none⟩) Hb.out.2).trans y0
            have y1 := (hbw.cell (p := ⟨b2, o2 + i * 7 + 1, none⟩) Hb.out.2).trans y1
            have y2 := (hbw.cell (p := ⟨b2, o2 + i * 7 + 2, none⟩) Hb.out.2).trans y2
            have y3 := (hbw.cell (p := ⟨b2, o2 + i * 7 + 3, none⟩) Hb.out.2).trans y3
            have y4 := (hbw.cell (p := ⟨b2, o2 + i * 7 + 4, none⟩) Hb.out.2).trans y4
            have y5 := (hbw.cell (p := ⟨b2, o2 + i * 7 + 5, none⟩) Hb.out.2).trans y5
            have y6 := (hbw.cell (p := ⟨b2, o2 + i * 7 + 6, none⟩) Hb.out.2).trans y6
            clear hbw
            clear hSw
            go_simp
            try with_reducible rfl
          try simp only [Act.put, List.setIfInBounds_toArray, List.set_cons_zero, List.set_cons_succ]
        refine plan_done ?_
        go_wp2_with fail
        go_meet
        exact ⟨rfl, hH.out⟩
      case rest =>
        obtain ⟨rfl, hbc⟩ := hcut
        have Bc := Lib.hid (below_step Bq.out hbc)
        clear hbc
        go_wp2_with fail
        go_roundw
        case rel => exact ⟨i + 1, by go_num, by omega, Bc.out⟩
        case measure => simp [intOf]; omega
    · obtain rfl : i = n := by omega
      go_wp2_with fail
      go_ret
      exact ⟨rfl, Bq.out⟩
end Go.Proofs.YtclgkkencpkjpaaGreatDoor

/- Layer 26: the document's Requests. Condition: at most 65535 octets. -/
namespace IH
theorem bodyT_pos {s : Sta} {l : List Fld} {f : Int × Int × Int} {k : Nat} {rest : List UInt8} (hk : 0 < k) (h : (bodyT s l f k rest).over = true) : 0 < (bodyT s l f k rest).n := by
  unfold bodyT at h ⊢
  split
  · rename_i h1
    rw [if_pos h1] at h
    split
    · rename_i h2
      rw [if_pos h2] at h
      cases h
    · show 0 < k + _
      omega
  · show 0 < k + _
    omega
theorem told_pos26 {asks : Bool} {method b : List UInt8} (h : (toldM asks method b).over = true) : 0 < (toldM asks method b).n := by
  unfold toldM at h ⊢
  split
  · rename_i h1; rw [if_pos h1] at h; cases h
  · rename_i h1
    rw [if_neg h1] at h
    split
    · rename_i h2; rw [if_pos h2] at h; cases h
    · rename_i h2
      rw [if_neg h2] at h
      have hp := lineM_pos (asks := asks) (b := b) (by simpa using h2)
      unfold headT at h ⊢
      split
      · rename_i h3; rw [if_pos h3] at h; cases h
      · rename_i h3
        rw [if_neg h3] at h
        split
        · rename_i h4; rw [if_pos h4] at h; cases h
        · rename_i h4
          rw [if_neg h4] at h
          split
          · rename_i h5; rw [if_pos h5] at h; cases h
          · rename_i h5
            rw [if_neg h5] at h
            exact bodyT_pos (by omega) h
theorem told_le {asks : Bool} {method b : List UInt8} (h : (toldM asks method b).e = 0) : (toldM asks method b).n ≤ b.length := by
  have hs := told_says asks method b
  rw [← hs.took h]
  exact runM_le _ _ _ (Nat.le_refl _)
theorem requestsF_nil (f : Nat) (out : List Msg) : requestsF f [] out = (out, 0) := by
  cases f with
  | zero => rfl
  | succ f => unfold requestsF; rw [if_pos rfl]
theorem requestsF_step {f : Nat} {b : List UInt8} {out : List Msg} (hb : b ≠ []) : requestsF (f + 1) b out =
    if (toldM true [] b).e ≠ 0 then (out, (toldM true [] b).e) else if (toldM true [] b).over = false then (out, 11) else requestsF f (b.drop (toldM true [] b).n) (out ++ [msgOf (toldM true [] b)]) := by
  conv => lhs; unfold requestsF
  rw [if_neg hb]
end IH
namespace Go.Proofs.YtclgkkencpkjpaaGreatDoor
open Go.RowKit IH
set_option maxRecDepth 100000
theorem msg_ty : SliceTy Tryz.prog 39 65 (.agg #[.string ⟨#[]⟩, .string ⟨#[]⟩, .int .i64 0, .string ⟨#[]⟩, .int .i64 0, .slice none 0 0, .slice none 0 0]) 7 112 := ⟨Tryz.underlying39, by kernel_rfl, rfl, by decide⟩
theorem wpList_slice_l {P : Program} {w : World} {ops : Array Oper} {rest : List Oper} {o : Oper} {a : Act} {Q : Exit → Act → World → Prop} (hgd : o.guard = none) (t e : TypeId) (s lo : Operand) (ho : o.op = .slice t s (some lo) none none)
    (ht : P.underlying t = some (.slice e)) (hsz : (P.info? e).map (·.size) = some 1) (A : Option Addr) (n c l : Nat) (hs : a.eval s = .slice A n c) (hlo : a.eval lo = .int .i64 l) (h1 : l ≤ n)
    (hK : wpList P ops Q rest (a.put o.dst (.slice (sliceA A c l) (n - l) (c - l))) w) : wpList P ops Q (o :: rest) a w := by
  refine wpList_plain hgd fun K hK' => ?_
  have hel : P.elem t = e := by simp [Program.elem, ht]
  have hszE : (sizeOf (P.elem t)).run P w = .ok 1 w := by
    rw [hel]
    cases hq : P.info? e with
    | none => rw [hq] at hsz; simp at hsz
    | some i =>
      rw [hq] at hsz
      simp only [Option.map_some, Option.some.injEq] at hsz
      simp [sizeOf, typeInfo, hq, hsz]
  have hrun := run_slice_l (P := P) (w := w) t A n c (by rw [hel]; exact ht) .i64 (l : Int) (by omega) (by omega)
  have hat := run_sliceAt_slice (P := P) (w := w) t (.slice A n c) (some (.int .i64 l)) none none (by rw [hel]; exact ht)
  unfold Oper.wp execOp
  simp only [ho, hs, hlo, Option.map_some, Option.map_none, Sem.run_bind, Sem.run_pure, Result.andThen_ok, hat, hrun, hszE]
  exact hK' _ _ hK
theorem sub_from {w : World} {B n c : Nat} {A : Option Addr} {L : List UInt8} (hin : SliceIn w B 1 A n c (bytesV L)) (l : Nat) (hl : l ≤ n) : SliceIn w B 1 (sliceA A c l) (n - l) (c - l) (bytesV (L.drop l)) := by
  have hL : L.length = n := by have := hin.1; rw [bytesV_length] at this; omega
  have h := sub_any hin l n hl (Nat.le_refl _)
  rw [List.take_of_length_le (by omega)] at h
  exact h
/-- What the document's Told makes, as rows of its own. -/
theorem told_own (asks : Bool) (M : ByteArray) (A : Option Addr) (n c : Nat) (l : List UInt8) (w : World) (hin : SliceIn w w.heap.size 1 A n c (bytesV l)) (hn : n ≤ 65535) :
    Calls Tryz.prog 55 #[.slice A n c, .bool asks, .string M] w fun e w' => ∃ C, e = .returned (.tuple #[.agg C.toArray, .bool (toldM asks M.data.toList l).framed, .int .i64 (toldM asks M.data.toList l).n, .bool (toldM asks M.data.toList l).over, .int .i64 (toldM asks M.data.toList l).e]) ∧ MsgO w' (msgOf (toldM asks M.data.toList l)) C ∧ Below w.heap.size w w' := by
  refine (rtold8_any asks M A n c l w hin hn).mono ?_
  rintro e w' ⟨vF, vB, rfl, h1, h2, h3⟩
  obtain ⟨AF, cF, rfl, -⟩ := own_slice h1
  obtain ⟨AB, cB, rfl, -⟩ := own_slice h2
  exact ⟨_, rfl, ⟨_, _, _, _, _, _, rfl, own_low h1 (Nat.zero_le _), own_low h2 (Nat.zero_le _)⟩, h3⟩
set_option maxHeartbeats 16000000 in
theorem rreq26_any (A : Option Addr) (n c : Nat) (L : List UInt8) (w : World) (hin : SliceIn w w.heap.size 1 A n c (bytesV L)) (hn : n ≤ 65535) :
    Calls Tryz.prog 23 #[.slice A n c] w fun e w' => ∃ v CS, e = .returned (.tuple #[v, .int .i64 (requestsL L).2]) ∧ w'.ownsRow w.heap.size 65 7 v (requestsL L).1.length CS.flatten ∧ MsgsO w' (requestsL L).1 CS ∧ (∀ m ∈ (requestsL L).1, m.fields.length ≤ 128) ∧ (requestsL L).1.length ≤ n ∧ Below w.heap.size w w' := by
  have HMi : Hid ((Tryz.prog.info? 65).map (·.size) = some 7) := Lib.hid (by kernel_rfl)
  have hLl : L.length = n := by have := hin.1; rw [bytesV_length] at this; omega
  have TD := Lib.hid (fun (W : World) (A' : Option Addr) (k c' : Nat) (l : List UInt8) (h : SliceIn W W.heap.size 1 A' k c' (bytesV l)) (hk : k ≤ 65535) => told_own true ⟨#[]⟩ A' k c' l W h hk)
  have Hin := Lib.hid hin
  have Hn := Lib.hid hn
  obtain ⟨T, hT⟩ : ∃ T, requestsL L = T := ⟨_, rfl⟩
  have HT : Hid (T = requestsF (L.length + 1) L []) := Lib.hid hT.symm
  have HLl := Lib.hid hLl
  rw [hT]
  clear hin hn hT hLl
  go_enter Tryz.func23, Tryz.ntmps23
  go_wp2_with fail
  go_loopw [0, 4] (fun bv ov wr => ∃ (A' : Option Addr) (k ck : Nat) (l : List UInt8) (O : List Msg) (CS : List (List Value)) (f : Nat), bv = .slice A' k ck ∧ SliceIn wr w.heap.size 1 A' k ck (bytesV l) ∧ wr.ownsRow w.heap.size 65 7 ov O.length CS.flatten ∧ MsgsO wr O CS ∧ (∀ m ∈ O, m.fields.length ≤ 128) ∧ O.length + k ≤ n ∧ k < f ∧ T = requestsF f l O ∧ Below w.heap.size w wr) (fun bv _ _ => (match bv with | .slice _ k _ => k | _ => 0))
  case atStart =>
    exact ⟨A, n, c, L, [], [], n + 1, rfl, Hin.out, by simpa using World.ownsRow_nil _ _ _ _, MsgsO.nil _, (fun m h => by cases h), by simp, by omega, by rw [HT.out, HLl.out], Below.refl _ _⟩
  case round =>
    obtain ⟨wq, hwq⟩ : ∃ x : World, x = wr := ⟨_, rfl⟩
    subst hwq
    obtain ⟨A', k, ck, l, O, CS, f, rfl, hin, hown, hms, hfew, hok, hkf, hrun, hbq⟩ := hrel
    have hll : l.length = k := by have := hin.1; rw [bytesV_length] at this; omega
    have hkc := hin.2.1
    have HIN := Lib.hid hin
    have OWq := Lib.hid hown
    have MSq := Lib.hid hms
    have FEW := Lib.hid hfew
    have HOK := Lib.hid hok
    have HKF := Lib.hid hkf
    have HRUN := Lib.hid hrun
    have Bq := Lib.hid hbq
    have HLL := Lib.hid hll
    clear hin hown hms hfew hok hkf hrun hbq hll
    by_cases hk0 : k = 0
    · have hl0 : l = [] := List.eq_nil_of_length_eq_zero (by rw [HLL.out]; exact hk0)
      have HV : Hid (T = (O, 0)) := Lib.hid (by rw [HRUN.out, hl0]; exact requestsF_nil _ _)
      subst hk0
      clear hl0
      go_wp2_with fail
      go_ret2
      exact ⟨_, CS, by rw [HV.out]; rfl, by rw [HV.out]; exact OWq.out, by rw [HV.out]; exact MSq.out, by rw [HV.out]; exact FEW.out, by rw [HV.out]; exact (show O.length ≤ n by have := HOK.out; omega), Bq.out⟩
    · have hkI : (0 : Int) < (k : Int) := by omega
      have hl0 : l ≠ [] := fun h => hk0 (by rw [← HLL.out, h]; rfl)
      obtain ⟨f', rfl⟩ : ∃ f', f = f' + 1 := ⟨f - 1, by have := HKF.out; omega⟩
      have hstep := requestsF_step (f := f') (out := O) hl0
      have hpos := told_pos26 (asks := true) (method := []) (b := l)
      have hle := told_le (asks := true) (method := []) (b := l)
      have hfw := told_few true [] l
      have TDq := TD.out wq A' k ck l (HIN.out.more Bq.out.size) (by have := HOK.out; have := Hn.out; omega)
      try rw [show (⟨#[]⟩ : ByteArray).data.toList = [] from rfl] at TDq
      rw [← HRUN.out] at hstep
      obtain ⟨U, hU⟩ : ∃ U, toldM true [] l = U := ⟨_, rfl⟩
      rw [hU] at hstep hpos hle hfw
      simp only [hU] at TDq
      obtain ⟨ts, tf, tb, tfr, tn, tov, te⟩ := U
      simp only at hstep hpos hle hfw TDq
      have HSTEP := Lib.hid hstep
      have HPOS := Lib.hid hpos
      have HLE := Lib.hid hle
      have HFW := Lib.hid hfw
      replace TDq := Lib.hid TDq
      have tokA : Hid True := Lib.hid trivial
      clear hstep hpos hle hfw hU hl0 hk0
      go_upto_if 22 with (first
        | (go_at_call 55; (with_reducible refine TDq.out.mono ?_); rintro e w1 ⟨C, rfl, hC1, hb1⟩; obtain ⟨p0, p1, p2, p3, p4, p5, p6, rfl⟩ := list7w hC1.right.1; have hone := hC1.right.2; have B1 := Lib.hid (below_step Bq.out hb1); have OW1 := Lib.hid (own_below OWq.out hb1); have MS1 := Lib.hid (MSq.out.below hb1); have MC1 := Lib.hid hC1; have IN1 := Lib.hid (HIN.out.below ((Below.mono hb1 Bq.out.size))); have H1 := Lib.hid hone; clear hb1 hC1 hone)
        | (have _t := tokA; refine wpList_store_row rfl 65 _ _ rfl w1.heap.size _ [p0, p1, p2, p3, p4, p5, p6] zeroM rfl rfl (RowAt.new w1 65 _) rfl HMi.out H1.out ?_; intro w2 hro hoo; have hb2 := hoo.below ((Below.refl w1.heap.size w1).alloc (Nat.le_refl _) _) (Nat.le_refl _); have B2 := Lib.hid (below_step B1.out hb2); have OW2 := Lib.hid (own_below OW1.out hb2); have MS2 := Lib.hid (MS1.out.below hb2); have MC2 := Lib.hid (MC1.out.below hb2); have IN2 := Lib.hid (IN1.out.below (Below.mono hb2 B1.out.size)); have R2 := Lib.hid hro; clear hro hoo hb2 tokA _t))
      by_cases he : te ≠ 0
      · have hne : (te != 0) = true := by rw [bne_iff_ne]; exact he
        have HV : Hid (T = (O, te)) := Lib.hid (by rw [HSTEP.out, if_pos he])
        clear he
        go_wp2_with fail
        go_ret2
        exact ⟨_, CS, by rw [HV.out]; rfl, by rw [HV.out]; exact OW2.out, by rw [HV.out]; exact MS2.out, by rw [HV.out]; exact FEW.out, by rw [HV.out]; exact (show O.length ≤ n by have := HOK.out; omega), B2.out⟩
      obtain rfl : te = 0 := by omega
      clear he
      cases tov
      · have HV : Hid (T = (O, 11)) := Lib.hid (by rw [HSTEP.out, if_neg (by simp), if_pos rfl])
        go_wp2_with fail
        go_ret2
        refine ⟨_, by rw [HV.out]; rfl, CS, ?_, ?_, ?_, ?_, B2.out⟩
        · rw [HV.out]; exact OW2.out
        · rw [HV.out]; exact MS2.out
        · rw [HV.out]; exact FEW.out
        · rw [HV.out]; exact (show O.length ≤ n by have := HOK.out; omega)
      · have hrn : T = requestsF f' (l.drop tn) (O ++ [msgOf ⟨ts, tf, tb, tfr, tn, true, 0⟩]) := by rw [HSTEP.out, if_neg (by simp), if_neg (by simp)]
        have htn0 : 0 < tn := HPOS.out (by first | rfl | trivial)
        have htnl : tn ≤ k := by have := HLE.out (by first | rfl | trivial); rw [HLL.out] at this; exact this
        have HRN := Lib.hid hrn
        have HT0 := Lib.hid htn0
        have HTL := Lib.hid htnl
        have d0 := R2.out.cell (j := 0) rfl
        have d1 := R2.out.cell (j := 1) rfl
        have d2 := R2.out.cell (j := 2) rfl
        have d3 := R2.out.cell (j := 3) rfl
        have d4 := R2.out.cell (j := 4) rfl
        have d5 := R2.out.cell (j := 5) rfl
        have d6 := R2.out.cell (j := 6) rfl
        have hbal := below_al w2 (.cells #[p0, p1, p2, p3, p4, p5, p6] 65)
        have OW3 := Lib.hid (own_below OW2.out hbal)
        have MS3 := Lib.hid (MS2.out.below hbal)
        have MC3 := Lib.hid (MC2.out.below hbal)
        have IN3 := Lib.hid (IN2.out.below (Below.mono hbal B2.out.size))
        have B3 := Lib.hid (below_step B2.out hbal)
        have RV := Lib.hid ((RowAt.new w2 65 [p0, p1, p2, p3, p4, p5, p6]).slice (size := 7) (n := 1) (c := 1) rfl (Nat.le_refl _) (by simp [maxLen]))
        clear hrn htn0 htnl hbal
        go_wp2_with (first
          | (at_builtin; refine wpList_appS msg_ty rfl _ _ rfl w.heap.size _ O.length CS.flatten rfl OW3.out _ _ 1 1 [p0, p1, p2, p3, p4, p5, p6] rfl RV.out H1.out (by have := HOK.out; have := Hn.out; omega) (by have := HOK.out; have := Hn.out; simp only [maxLen]; omega) B3.out.size ?_; intro v4 w4 hown4 hgr4; have B4 := Lib.hid (B3.out.grown hgr4 B3.out.size (fun q hq => (OW3.out.lt q hq).1)); have OW4 := Lib.hid hown4; have MS4 := Lib.hid (MS3.out.grown OW3.out hgr4); have MC4 := Lib.hid (MC3.out.grown OW3.out hgr4); have IN4 := Lib.hid (IN3.out.grown hgr4 B3.out.size (fun q hq => (OW3.out.lt q hq).1)); clear hown4 hgr4)
          | (refine wpList_slice_l rfl 38 5 _ _ rfl Tryz.underlying38 (by kernel_rfl) A' k ck tn rfl rfl HTL.out ?_))
        go_roundw
        case rel =>
          refine ⟨sliceA A' ck tn, k - tn, ck - tn, l.drop tn, O ++ [msgOf ⟨ts, tf, tb, tfr, tn, true, 0⟩], CS ++ [[p0, p1, p2, p3, p4, p5, p6]], f', rfl, sub_from IN4.out tn HTL.out, ?_, MS4.out.snoc MC4.out, ?_, ?_, ?_, HRN.out, B4.out⟩
          · rw [List.length_append, List.flatten_append]
            have h := OW4.out
            simpa using h
          · intro m hm
            rcases List.mem_append.1 hm with h | h
            · exact FEW.out m h
            · rw [List.mem_singleton.1 h]; exact HFW.out
          · rw [List.length_append]
            have := HOK.out
            have := HT0.out
            have := HTL.out
            simp only [List.length_cons, List.length_nil]
            omega
          · have := HKF.out
            have := HT0.out
            have := HTL.out
            omega
        case measure => have := HT0.out; have := HTL.out; simp; omega
end Go.Proofs.YtclgkkencpkjpaaGreatDoor

/- Layer 26: a reading's next message, by the code. Condition: message.Parse's answer is said. -/
namespace Go.Proofs.YtclgkkencpkjpaaGreatDoor
open Go.RowKit IH
set_option maxRecDepth 100000
set_option maxHeartbeats 16000000 in
theorem next_bad (g : Nat) (vS vO : Value) (asks : Bool) (M : ByteArray) (er : Int) (w : World) (hr : RowAt w g 125 [vS, vO]) (her : er ≠ 0)
    (PA : ∀ W, Below w.heap.size w W → Calls Tryz.prog 120 #[vS, .bool asks, .string M] W fun e w' => e = .returned (.tuple #[.agg zeroM.toArray, .int .i64 0, .int .i64 er]) ∧ Below W.heap.size W w') :
    Calls Tryz.prog 68 #[.pointer (some ⟨g, 0, none⟩), .bool asks, .string M] w fun e w' => e = .returned (.tuple #[.agg zeroM.toArray, .int .i64 er]) ∧ Below w.heap.size w w' := by
  have HMi : Hid ((Tryz.prog.info? 65).map (·.size) = some 7) := Lib.hid (by kernel_rfl)
  have HMz : Hid ((Tryz.prog.info? 65).map (·.size) = some zeroM.length) := HMi
  have h1 : ∀ v ∈ zeroM, v.oneCell' = true := by simp [zeroM, Value.oneCell']
  have H1 := Lib.hid h1
  obtain ⟨w1, hw1⟩ : ∃ W : World, w.alloc (.cells #[.string ⟨#[]⟩, .string ⟨#[]⟩, .int .i64 0, .string ⟨#[]⟩, .int .i64 0, .slice none 0 0, .slice none 0 0] 65) = W := ⟨_, rfl⟩
  have B1 : Hid (Below w.heap.size w w1) := Lib.hid (by rw [← hw1]; exact (Below.refl _ _).alloc (Nat.le_refl _) _)
  have Z1 : Hid (RowAt w1 w.heap.size 65 zeroM) := Lib.hid (by rw [← hw1]; exact RowAt.new w 65 zeroM)
  have d0 : w1.cell? ⟨g, 0, none⟩ = some vS := (hr.below B1.out hr.lt).cell rfl
  have he : (er == 0) = false := by rw [beq_eq_false_iff_ne]; exact her
  have HPA := Lib.hid PA
  have tokA : Hid True := Lib.hid trivial
  have B1s := Lib.hid B1.out.size
  clear hr her PA h1
  go_enter Tryz.func68, Tryz.ntmps68
  go_upto_region 4 with (first
    | (go_at_call 120; (with_reducible refine (HPA.out _ B1.out).mono ?_); rintro e w2 ⟨rfl, hb2⟩; have B2 := Lib.hid (below_step B1.out hb2); have Z2 := Lib.hid (Z1.out.below hb2 Z1.out.lt); clear hb2)
    | (have _t := tokA; refine wpList_store_row rfl 65 _ _ rfl w2.heap.size _ zeroM zeroM rfl rfl (RowAt.new w2 65 _) rfl HMz.out H1.out ?_; intro w3 hro hoo; have hb3 := hoo.below ((Below.refl w2.heap.size w2).alloc (Nat.le_refl _) _) (Nat.le_refl _); have B3 := Lib.hid (below_step B2.out hb3); have Z3 := Lib.hid (Z2.out.below hb3 Z2.out.lt); have R3 := Lib.hid hro; clear hro hoo hb3 tokA _t))
  go_wp2_with (first
    | (refine wpList_load_g (wanted_un rfl) 65 _ rfl w2.heap.size 0 rfl zeroM _ (rangeOf R3.out) Tryz.underlying65 rfl HMz.out ?_)
    | (refine wpList_store_row rfl 65 _ _ rfl w.heap.size _ zeroM zeroM rfl rfl Z3.out rfl HMz.out H1.out ?_; intro w4 hro hoo; have Z4 := Lib.hid hro; have O4 := Lib.hid hoo; clear hro hoo))
  exact bodyPost_ret (v := .tuple #[.agg zeroM.toArray, .int .i64 er]) (results_cell_tmp8 Tryz.results68 _ w4 ⟨w.heap.size, 0, none⟩ rfl (.agg zeroM.toArray) (.int .i64 er) rfl (run_loadVar_mid w4 w.heap.size 0 65 zeroM _ (rangeOf Z4.out) Tryz.underlying65 rfl HMz.out)) rfl ⟨rfl, O4.out.below B3.out (Nat.le_refl _)⟩
set_option maxHeartbeats 16000000 in
theorem next_good (g : Nat) (A : Option Addr) (n c tn : Nat) (vO : Value) (asks : Bool) (M : ByteArray) (m : Msg) (w : World) (hr : RowAt w g 125 [.slice A n c, vO]) (htn : tn ≤ n)
    (PA : ∀ W, Below w.heap.size w W → Calls Tryz.prog 120 #[.slice A n c, .bool asks, .string M] W fun e w' => ∃ C, e = .returned (.tuple #[.agg C.toArray, .int .i64 tn, .int .i64 0]) ∧ MsgO w' m C ∧ Below W.heap.size W w') :
    Calls Tryz.prog 68 #[.pointer (some ⟨g, 0, none⟩), .bool asks, .string M] w fun e w' => ∃ C, e = .returned (.tuple #[.agg C.toArray, .int .i64 0]) ∧ MsgO w' m C ∧ RowAt w' g 125 [.slice (sliceA A c tn) (n - tn) (c - tn), vO] ∧ Save w.heap.size g w w' := by
  have HMi : Hid ((Tryz.prog.info? 65).map (·.size) = some 7) := Lib.hid (by kernel_rfl)
  obtain ⟨w1, hw1⟩ : ∃ W : World, w.alloc (.cells #[.string ⟨#[]⟩, .string ⟨#[]⟩, .int .i64 0, .string ⟨#[]⟩, .int .i64 0, .slice none 0 0, .slice none 0 0] 65) = W := ⟨_, rfl⟩
  have B1 : Hid (Below w.heap.size w w1) := Lib.hid (by rw [← hw1]; exact (Below.refl _ _).alloc (Nat.le_refl _) _)
  have Z1 : Hid (RowAt w1 w.heap.size 65 zeroM) := Lib.hid (by rw [← hw1]; exact RowAt.new w 65 zeroM)
  have Rg1 : Hid (RowAt w1 g 125 [.slice A n c, vO]) := Lib.hid (hr.below B1.out hr.lt)
  have Hg := Lib.hid hr.lt
  have d0 := Rg1.out.cell (j := 0) rfl
  have HPA := Lib.hid PA
  have HTN := Lib.hid htn
  have tokA : Hid True := Lib.hid trivial
  clear hr PA htn
  go_enter Tryz.func68, Tryz.ntmps68
  go_upto_region 3 with (first
    | (go_at_call 120; (with_reducible refine (HPA.out _ B1.out).mono ?_); rintro e w2 ⟨C, rfl, hC, hb2⟩; have HCr := Lib.hid hC.right; have B2 := Lib.hid (below_step B1.out hb2); have Z2 := Lib.hid (Z1.out.below hb2 Z1.out.lt); have Rg2 := Lib.hid (Rg1.out.below hb2 Rg1.out.lt); have MC2 := Lib.hid hC; have Hi : Hid ((Tryz.prog.info? 65).map (·.size) = some C.length) := Lib.hid (by rw [hC.right.1]; exact HMi.out); clear hb2 hC)
    | (have _t := tokA; refine wpList_store_row rfl 65 _ _ rfl w2.heap.size _ C zeroM rfl rfl (RowAt.new w2 65 _) (by rw [HCr.out.1]; rfl) Hi.out HCr.out.2 ?_; intro w3 hro hoo; have hb3 := hoo.below ((Below.refl w2.heap.size w2).alloc (Nat.le_refl _) _) (Nat.le_refl _); have B3 := Lib.hid (below_step B2.out hb3); have Z3 := Lib.hid (Z2.out.below hb3 Z2.out.lt); have Rg3 := Lib.hid (Rg2.out.below hb3 Rg2.out.lt); have MC3 := Lib.hid (MC2.out.below hb3); have R3 := Lib.hid hro; clear hro hoo hb3 tokA _t))
  have e0 := Rg3.out.cell (j := 0) rfl
  have f0 := Rg3.out.frozen (j := 0) (by show 0 < 2; decide)
  clear d0
  go_upto_region 4 with (refine wpList_slice_l rfl 38 5 _ _ rfl Tryz.underlying38 (by kernel_rfl) A n c tn rfl rfl HTN.out ?_)
  obtain ⟨w4, hw4⟩ : ∃ W : World, w3.setCell ⟨g, 0, none⟩ (.slice (sliceA A c tn) (n - tn) (c - tn)) = W := ⟨_, rfl⟩
  rw [hw4]
  have Rg4 : Hid (RowAt w4 g 125 [.slice (sliceA A c tn) (n - tn) (c - tn), vO]) := Lib.hid (by rw [← hw4]; exact Rg3.out.set_ (by show 0 < 2; decide) _)
  have o4 : Only g w3 w4 := by rw [← hw4]; exact Only.setCell g 0 w3 _
  have R4 := Lib.hid (R3.out.only o4 (by have := Hg.out; have := B2.out.size; omega))
  have Z4 := Lib.hid (Z3.out.only o4 (by have := Hg.out; omega))
  have MC4 : Hid (MsgO w4 m C) := Lib.hid (by
    obtain ⟨A1, n1, c1, A2, n2, c2, h1, h2, h3⟩ := MC3.out
    exact ⟨A1, n1, c1, A2, n2, c2, h1, own_only_ty h2 o4 Rg3.out (by decide), own_only_ty h3 o4 Rg3.out (by decide)⟩)
  have S4 : Hid (Save w.heap.size g w w4) := Lib.hid ((below_save B3.out).only o4)
  clear hw4 o4 e0 f0 R3 Z3 MC3 Rg3
  go_wp2_with (first
    | (refine wpList_load_g (wanted_un rfl) 65 _ rfl w2.heap.size 0 rfl C _ (rangeOf R4.out) Tryz.underlying65 rfl Hi.out ?_)
    | (refine wpList_store_row rfl 65 _ _ rfl w.heap.size _ C zeroM rfl rfl Z4.out (by rw [HCr.out.1]; rfl) Hi.out HCr.out.2 ?_; intro w5 hro hoo; have Z5 := Lib.hid hro; have O5 := Lib.hid hoo; clear hro hoo))
  exact bodyPost_ret (v := .tuple #[.agg C.toArray, .int .i64 0]) (results_cell_tmp8 Tryz.results68 _ w5 ⟨w.heap.size, 0, none⟩ rfl (.agg C.toArray) (.int .i64 0) rfl (run_loadVar_mid w5 w.heap.size 0 65 C _ (rangeOf Z5.out) Tryz.underlying65 rfl Hi.out)) rfl ⟨C, rfl, MC4.out.only O5.out Z4.out, Rg4.out.only O5.out (by have := Hg.out; omega), S4.out.trans (below_save (O5.out.below (Below.refl _ _) (Nat.le_refl _)))⟩
end Go.Proofs.YtclgkkencpkjpaaGreatDoor

/- Layer 26: audit.Requests, by the code. Condition: the world's shape, at most 65535 octets. -/
namespace Go.Proofs.YtclgkkencpkjpaaGreatDoor
open Go.RowKit IH
set_option maxRecDepth 100000
theorem row_pastT {w w' : World} {g base size n : Nat} {t e : TypeId} {cs xs : List Value} {v : Value} (h : RowAt w g t cs) (hg : w.grownBy w' v.ownBlock) (hown : w.ownsRow base e size v n xs) (hne : t ≠ e) : RowAt w' g t cs :=
  h.keep (hg.block g h.lt (fun he => ne_type hown h hne g he.symm rfl))
/-- A typed own row is kept where only a block of another type may have changed. -/
theorem own_save_ty {w W : World} {y base size n : Nat} {t e : TypeId} {cs xs : List Value} {v : Value} (h : w.ownsRow base e size v n xs) (ho : Save w.heap.size y w W) (hy : RowAt w y t cs) (hne : t ≠ e) : W.ownsRow base e size v n xs := by
  have hn := ne_type h hy hne
  refine ⟨h.1, ?_⟩
  rcases h.2 with h2 | ⟨g', cap, cur, hv, hg', hh, r⟩
  · exact .inl h2
  · exact .inr ⟨g', cap, cur, hv, hg', (ho.block g' (Array.getElem?_eq_some_iff.1 hh).1 (hn g' (by rw [hv]; rfl))).trans hh, r⟩
theorem MsgsO.save {w W : World} {L : List Msg} {CS : List (List Value)} {y : Nat} {cs : List Value} (h : MsgsO w L CS) (ho : Save w.heap.size y w W) (hy : RowAt w y 125 cs) : MsgsO W L CS :=
  h.map fun m C hm => by
    obtain ⟨A, n, c, A2, n2, c2, h1, h2, h3⟩ := hm
    exact ⟨A, n, c, A2, n2, c2, h1, own_save_ty h2 ho hy (by decide), own_save_ty h3 ho hy (by decide)⟩
set_option maxHeartbeats 16000000 in
theorem areq26_any (A : Option Addr) (n c : Nat) (L : List UInt8) (w : World) (hsh : w.ShapedOpen Tryz.prog) (hin : SliceIn w w.heap.size 1 A n c (bytesV L)) (hn : n ≤ 65535) :
    Calls Tryz.prog 22 #[.slice A n c] w fun e w' => ∃ v CS, e = .returned (.tuple #[v, .int .i64 (requestsL L).2]) ∧ w'.ownsRow w.heap.size 65 7 v (requestsL L).1.length CS.flatten ∧ MsgsO w' (requestsL L).1 CS ∧ Below w.heap.size w w' := by
  have HMi : Hid ((Tryz.prog.info? 65).map (·.size) = some 7) := Lib.hid (by kernel_rfl)
  have hLl : L.length = n := by have := hin.1; rw [bytesV_length] at this; omega
  have PS := Lib.hid (fun (W : World) (hW : Below w.heap.size w W) (b0 off k ck : Nat) (l : List UInt8) (hb0 : b0 < W.heap.size) (hs : SliceIn W W.heap.size 1 (some ⟨b0, off, none⟩) k ck (bytesV l)) (hk : k ≤ 65535) => mparseT_any true ⟨#[]⟩ b0 off k ck l W (shaped_below hsh hW) hb0 (by decide) hs (by omega))
  have Hin := Lib.hid hin
  have Hn := Lib.hid hn
  obtain ⟨T, hT⟩ : ∃ T, requestsL L = T := ⟨_, rfl⟩
  have HT : Hid (T = requestsF (L.length + 1) L []) := Lib.hid hT.symm
  have HLl := Lib.hid hLl
  rw [hT]
  obtain ⟨w1, hw1⟩ : ∃ W : World, w.alloc (.cells #[.slice A n c, .slice none 0 0] 125) = W := ⟨_, rfl⟩
  have B1 : Hid (Below w.heap.size w w1) := Lib.hid (by rw [← hw1]; exact (Below.refl _ _).alloc (Nat.le_refl _) _)
  have R1 : Hid (RowAt w1 w.heap.size 125 [.slice A n c, .slice none 0 0]) := Lib.hid (by rw [← hw1]; exact RowAt.new w 125 _)
  clear hin hn hT hLl hsh
  go_enter Tryz.func22, Tryz.ntmps22
  go_wp2_with fail
  go_loopw [] (fun wr => ∃ (A' : Option Addr) (k ck : Nat) (l : List UInt8) (O : List Msg) (CS : List (List Value)) (vO : Value) (f : Nat), RowAt wr w.heap.size 125 [.slice A' k ck, vO] ∧ SliceIn wr w.heap.size 1 A' k ck (bytesV l) ∧ wr.ownsRow w.heap.size 65 7 vO O.length CS.flatten ∧ MsgsO wr O CS ∧ O.length + k ≤ n ∧ k < f ∧ T = requestsF f l O ∧ Below w.heap.size w wr) (fun wr => (match wr.cell? ⟨w.heap.size, 0, none⟩ with | some (.slice _ k _) => k | _ => 0))
  case atStart =>
    exact ⟨A, n, c, L, [], [], _, n + 1, R1.out, Hin.out.below B1.out, by simpa using World.ownsRow_nil _ _ _ _, MsgsO.nil _, by simp, by omega, by rw [HT.out, HLl.out], B1.out⟩
  case round =>
    obtain ⟨wq, hwq⟩ : ∃ x : World, x = wr := ⟨_, rfl⟩
    subst hwq
    obtain ⟨A', k, ck, l, O, CS, vO, f, hrow, hin, hown, hms, hok, hkf, hrun, hbq⟩ := hrel
    have hll : l.length = k := by have := hin.1; rw [bytesV_length] at this; omega
    have Rq := Lib.hid hrow
    have IN := Lib.hid hin
    have OWq := Lib.hid hown
    have MSq := Lib.hid hms
    have HOK := Lib.hid hok
    have HKF := Lib.hid hkf
    have HRUN := Lib.hid hrun
    have Bq := Lib.hid hbq
    have HLL := Lib.hid hll
    have c0 := hrow.cell (j := 0) rfl
    have c1 := hrow.cell (j := 1) rfl
    clear hrow hin hown hms hok hkf hrun hbq hll
    by_cases hk0 : k = 0
    · have hl0 : l = [] := List.eq_nil_of_length_eq_zero (by rw [HLL.out]; exact hk0)
      have HV : Hid (T = (O, 0)) := Lib.hid (by rw [HRUN.out, hl0]; exact requestsF_nil _ _)
      subst hk0
      clear hl0
      go_wp2_with fail
      go_ret2
      first
        | exact ⟨_, CS, by rw [HV.out]; rfl, by rw [HV.out]; exact OWq.out, by rw [HV.out]; exact MSq.out, Bq.out⟩
        | exact ⟨_, by rw [HV.out]; rfl, CS, by rw [HV.out]; exact OWq.out, by rw [HV.out]; exact MSq.out, Bq.out⟩
    · have hkI : (0 : Int) < (k : Int) := by omega
      have hl0 : l ≠ [] := fun h => hk0 (by rw [← HLL.out, h]; rfl)
      obtain ⟨b0, off, hA, hb0, -⟩ := IN.out.2.2.2 (by omega)
      subst hA
      obtain ⟨f', rfl⟩ : ∃ f', f = f' + 1 := ⟨f - 1, by have := HKF.out; omega⟩
      have hstep := requestsF_step (f := f') (out := O) hl0
      have hpos := told_pos26 (asks := true) (method := []) (b := l)
      have hle := told_le (asks := true) (method := []) (b := l)
      have PSq := fun (W : World) (hW : Below wq.heap.size wq W) => PS.out W (below_step Bq.out hW) b0 off k ck l (by have := Bq.out.size; have := hW.size; omega) ((IN.out.below (hW.mono Bq.out.size)).more (Nat.le_trans Bq.out.size hW.size)) (by have := HOK.out; have := Hn.out; omega)
      rw [← HRUN.out] at hstep
      obtain ⟨U, hU⟩ : ∃ U, toldM true [] l = U := ⟨_, rfl⟩
      rw [hU] at hstep hpos hle
      have PSq2 : ∀ (W : World), Below wq.heap.size wq W → Calls Tryz.prog 120 #[.slice (some ⟨b0, off, none⟩) k ck, .bool true, .string ⟨#[]⟩] W fun e w' => ParsedT U W.heap.size e w' ∧ Below W.heap.size W w' := fun W hW => by
        have h := PSq W hW
        rw [hU] at h
        exact h
      clear PSq hU hl0 hk0
      obtain ⟨ts, tf, tb, tfr, tn, tov, te⟩ := U
      simp only at hstep hpos hle
      by_cases hbad : te ≠ 0 ∨ tov = false
      · obtain ⟨er, her, hV, hP⟩ : ∃ er : Int, er ≠ 0 ∧ T = (O, er) ∧ (∀ (W : World), Below wq.heap.size wq W → Calls Tryz.prog 120 #[.slice (some ⟨b0, off, none⟩) k ck, .bool true, .string ⟨#[]⟩] W fun e w' => e = .returned (.tuple #[.agg zeroM.toArray, .int .i64 0, .int .i64 er]) ∧ Below W.heap.size W w') := by
          by_cases he : te ≠ 0
          · refine ⟨te, he, by rw [hstep, if_pos he], fun W hW => (PSq2 W hW).mono ?_⟩
            rintro e w' ⟨h, hb⟩
            rcases h with ⟨-, h⟩ | ⟨h, -⟩ | ⟨h, -⟩
            · exact ⟨h, hb⟩
            · exact absurd h he
            · exact absurd h he
          · have h0 : te = 0 := by omega
            have hov : tov = false := hbad.resolve_left he
            refine ⟨11, by decide, by rw [hstep, if_neg he, if_pos hov], fun W hW => (PSq2 W hW).mono ?_⟩
            rintro e w' ⟨h, hb⟩
            rcases h with ⟨h, -⟩ | ⟨-, -, h⟩ | ⟨-, h, -⟩
            · exact absurd h0 h
            · exact ⟨h, hb⟩
            · rw [hov] at h; cases h
        have NB := Lib.hid (next_bad w.heap.size (.slice (some ⟨b0, off, none⟩) k ck) vO true ⟨#[]⟩ er wq Rq.out her hP)
        have HV := Lib.hid hV
        have hne : (er != 0) = true := by rw [bne_iff_ne]; exact her
        have HMz : Hid ((Tryz.prog.info? 65).map (·.size) = some zeroM.length) := HMi
        have H1 : Hid (∀ v ∈ zeroM, v.oneCell' = true) := Lib.hid (by simp [zeroM, Value.oneCell'])
        have tokA : Hid True := Lib.hid trivial
        clear hP hV her hbad hstep hpos hle PSq2 c1
        go_wp2_with (first
          | (go_at_call 68; (with_reducible refine NB.out.mono ?_); rintro e w2 ⟨rfl, hb2⟩; have B2 := Lib.hid (below_step Bq.out hb2); have R2 := Lib.hid (Rq.out.below hb2 Rq.out.lt); have OW2 := Lib.hid (own_below OWq.out hb2); have MS2 := Lib.hid (MSq.out.below hb2); clear hb2)
          | (have _t := tokA; refine wpList_store_row rfl 65 _ _ rfl w2.heap.size _ zeroM zeroM rfl rfl (RowAt.new w2 65 _) rfl HMz.out H1.out ?_; intro w3 hro hoo; have hb3 := hoo.below ((Below.refl w2.heap.size w2).alloc (Nat.le_refl _) _) (Nat.le_refl _); have B3 := Lib.hid (below_step B2.out hb3); have OW3 := Lib.hid (own_below OW2.out hb3); have MS3 := Lib.hid (MS2.out.below hb3); have e1 := (R2.out.below hb3 R2.out.lt).cell (j := 1) rfl; clear hro hoo hb3 tokA _t))
        go_ret2
        first
          | exact ⟨_, CS, by rw [HV.out]; rfl, by rw [HV.out]; exact OW3.out, by rw [HV.out]; exact MS3.out, B3.out⟩
          | exact ⟨_, by rw [HV.out]; rfl, CS, by rw [HV.out]; exact OW3.out, by rw [HV.out]; exact MS3.out, B3.out⟩
      · have h0 : te = 0 := by
          by_cases h : te = 0
          · exact h
          · exact absurd (.inl h) hbad
        have hov : tov = true := by
          cases tov
          · exact absurd (.inr rfl) hbad
          · rfl
        subst h0 hov
        have hrn : T = requestsF f' (l.drop tn) (O ++ [msgOf ⟨ts, tf, tb, tfr, tn, true, 0⟩]) := by rw [hstep, if_neg (by simp), if_neg (by simp)]
        have htn0 : 0 < tn := hpos rfl
        have htnl : tn ≤ k := by have := hle rfl; rw [HLL.out] at this; exact this
        have NG := Lib.hid (next_good w.heap.size (some ⟨b0, off, none⟩) k ck tn vO true ⟨#[]⟩ (msgOf ⟨ts, tf, tb, tfr, tn, true, 0⟩) wq Rq.out htnl (fun W hW => (PSq2 W hW).mono (by
          rintro e w' ⟨h, hb⟩
          rcases h with ⟨h, -⟩ | ⟨-, h, -⟩ | ⟨-, -, A1, n1, c1, A2, n2, c2, rfl, h1, h2⟩
          · exact absurd rfl h
          · cases h
          · exact ⟨_, rfl, ⟨_, _, _, _, _, _, rfl, own_low h1 (Nat.zero_le _), own_low h2 (Nat.zero_le _)⟩, hb⟩)))
        have HRN := Lib.hid hrn
        have HT0 := Lib.hid htn0
        have HTL := Lib.hid htnl
        have tokA : Hid True := Lib.hid trivial
        have Rlt := Lib.hid Rq.out.lt
        clear hrn htn0 htnl hbad hstep hpos hle PSq2 c1
        go_upto_region 6 with (first
          | (go_at_call 68; (with_reducible refine NG.out.mono ?_); rintro e w2 ⟨C, rfl, hC, hrw, hsv⟩; obtain ⟨p0, p1, p2, p3, p4, p5, p6, rfl⟩ := list7w hC.right.1; have H1 := Lib.hid hC.right.2; have B2 := Lib.hid (Bq.out.trans ((hsv.mono Bq.out.size).below (Nat.le_refl _))); have IN2 := Lib.hid (IN.out.below ((hsv.mono Bq.out.size).below (Nat.le_refl _))); have OW2 := Lib.hid (own_save_ty OWq.out hsv Rq.out (by decide)); have MS2 := Lib.hid (MSq.out.save hsv Rq.out); have MC2 := Lib.hid hC; have R2 := Lib.hid hrw; clear hC hrw hsv)
          | (have _t := tokA; refine wpList_store_row rfl 65 _ _ rfl w2.heap.size _ [p0, p1, p2, p3, p4, p5, p6] zeroM rfl rfl (RowAt.new w2 65 _) rfl HMi.out H1.out ?_; intro w3 hro hoo; have hb3 := hoo.below ((Below.refl w2.heap.size w2).alloc (Nat.le_refl _) _) (Nat.le_refl _); have B3 := Lib.hid (below_step B2.out hb3); have OW3 := Lib.hid (own_below OW2.out hb3); have MS3 := Lib.hid (MS2.out.below hb3); have MC3 := Lib.hid (MC2.out.below hb3); have IN3 := Lib.hid (IN2.out.below (hb3.mono B2.out.size)); have R3 := Lib.hid (R2.out.below hb3 R2.out.lt); have RM3 := Lib.hid hro; clear hro hoo hb3 tokA _t))
        have d1 : (w3.drew).cell? ⟨w.heap.size, 1, none⟩ = some vO := R3.out.cell (j := 1) rfl
        have m0 : (w3.drew).cell? ⟨w2.heap.size, 0, none⟩ = some p0 := RM3.out.cell (j := 0) rfl
        have m1 : (w3.drew).cell? ⟨w2.heap.size, 1, none⟩ = some p1 := RM3.out.cell (j := 1) rfl
        have m2 : (w3.drew).cell? ⟨w2.heap.size, 2, none⟩ = some p2 := RM3.out.cell (j := 2) rfl
        have m3 : (w3.drew).cell? ⟨w2.heap.size, 3, none⟩ = some p3 := RM3.out.cell (j := 3) rfl
        have m4 : (w3.drew).cell? ⟨w2.heap.size, 4, none⟩ = some p4 := RM3.out.cell (j := 4) rfl
        have m5 : (w3.drew).cell? ⟨w2.heap.size, 5, none⟩ = some p5 := RM3.out.cell (j := 5) rfl
        have m6 : (w3.drew).cell? ⟨w2.heap.size, 6, none⟩ = some p6 := RM3.out.cell (j := 6) rfl
        have d1b : ((w3.alloc (.cells #[p0, p1, p2, p3, p4, p5, p6] 65)).drew).cell? ⟨w.heap.size, 1, none⟩ = some vO := (R3.out.alloc (.cells #[p0, p1, p2, p3, p4, p5, p6] 65)).cell (j := 1) rfl
        have fin : ∀ (A4 : Option Addr) (c4 : Nat) (w4 : World), w4.ownsRow w.heap.size 65 7 (.slice A4 (O.length + 1) c4) (O.length + 1) (CS.flatten ++ [p0, p1, p2, p3, p4, p5, p6]) → (w3.drew.alloc (.cells #[p0, p1, p2, p3, p4, p5, p6] 65)).grownBy w4 vO.ownBlock →
            ∃ (A' : Option Addr) (k' ck' : Nat) (l' : List UInt8) (O' : List Msg) (CS' : List (List Value)) (vO' : Value) (f2 : Nat), RowAt (w4.setCell ⟨w.heap.size, 1, none⟩ (.slice A4 (O.length + 1) c4)) w.heap.size 125 [.slice A' k' ck', vO'] ∧ SliceIn (w4.setCell ⟨w.heap.size, 1, none⟩ (.slice A4 (O.length + 1) c4)) w.heap.size 1 A' k' ck' (bytesV l') ∧ (w4.setCell ⟨w.heap.size, 1, none⟩ (.slice A4 (O.length + 1) c4)).ownsRow w.heap.size 65 7 vO' O'.length CS'.flatten ∧ MsgsO (w4.setCell ⟨w.heap.size, 1, none⟩ (.slice A4 (O.length + 1) c4)) O' CS' ∧ O'.length + k' ≤ n ∧ k' < f2 ∧ T = requestsF f2 l' O' ∧ Below w.heap.size w (w4.setCell ⟨w.heap.size, 1, none⟩ (.slice A4 (O.length + 1) c4)) := by
          intro A4 c4 w4 hown hgr
          have hbal : Below w3.heap.size w3 (w3.drew.alloc (.cells #[p0, p1, p2, p3, p4, p5, p6] 65)) := (below_drewN (Below.refl w3.heap.size w3) 1).alloc (Nat.le_refl _) _
          have OW' := own_below OW3.out hbal
          have R4 := row_pastT (R3.out.below hbal R3.out.lt) hgr OW' (by decide)
          have MS4 := (MS3.out.below hbal).grown OW' hgr
          have MC4 := (MC3.out.below hbal).grown OW' hgr
          have hsz : w.heap.size ≤ (w3.drew.alloc (.cells #[p0, p1, p2, p3, p4, p5, p6] 65)).heap.size := Nat.le_trans B3.out.size hbal.size
          have IN4 := (IN3.out.below (hbal.mono B3.out.size)).grown hgr hsz (fun q hq => (OW'.lt q hq).1)
          have B4 := (below_step B3.out hbal).grown hgr hsz (fun q hq => (OW'.lt q hq).1)
          have ho := Only.setCell w.heap.size 1 w4 (.slice A4 (O.length + 1) c4)
          have hmap : ∀ (m : Msg) (C : List Value), MsgO w4 m C → MsgO (w4.setCell ⟨w.heap.size, 1, none⟩ (.slice A4 (O.length + 1) c4)) m C := by
            intro m C h
            obtain ⟨A, n, c, A2, n2, c2, h1, h2, h3⟩ := h
            exact ⟨A, n, c, A2, n2, c2, h1, own_only_ty h2 ho R4 (by decide), own_only_ty h3 ho R4 (by decide)⟩
          refine ⟨_, _, _, l.drop tn, O ++ [msgOf ⟨ts, tf, tb, tfr, tn, true, 0⟩], CS ++ [[p0, p1, p2, p3, p4, p5, p6]], _, f', R4.set_ (by show 1 < 2; decide) _, (sub_from IN4 tn HTL.out).setCell (Nat.le_refl _) _, ?_, (MS4.snoc MC4).map hmap, ?_, ?_, HRN.out, B4.setCell (Nat.le_refl _) _⟩
          · have h := own_only_ty hown ho R4 (by decide)
            rw [List.length_append, List.flatten_append]
            simpa using h
          · rw [List.length_append]
            have := HOK.out
            have := HT0.out
            have := HTL.out
            simp only [List.length_cons, List.length_nil]
            omega
          · have := HKF.out
            have := HT0.out
            have := HTL.out
            omega
        have FIN := Lib.hid fin
        have fin2 : ∀ (A4 : Option Addr) (c4 : Nat) (w4 : World), (w3.drew.alloc (.cells #[p0, p1, p2, p3, p4, p5, p6] 65)).grownBy w4 vO.ownBlock → (w4.setCell ⟨w.heap.size, 1, none⟩ (.slice A4 (O.length + 1) c4)).cell? ⟨w.heap.size, 0, none⟩ = some (.slice (sliceA (some ⟨b0, off, none⟩) ck tn) (k - tn) (ck - tn)) := by
          intro A4 c4 w4 hgr
          have hbal : Below w3.heap.size w3 (w3.drew.alloc (.cells #[p0, p1, p2, p3, p4, p5, p6] 65)) := (below_drewN (Below.refl w3.heap.size w3) 1).alloc (Nat.le_refl _) _
          have R4 := row_pastT (R3.out.below hbal R3.out.lt) hgr (own_below OW3.out hbal) (by decide)
          exact (R4.set_ (j := 1) (by show 1 < 2; decide) (.slice A4 (O.length + 1) c4)).cell (j := 0) rfl
        have FIN2 := Lib.hid fin2
        have C0 := Lib.hid (Rq.out.cell (j := 0) rfl)
        have HLT : Hid (k - tn < k) := Lib.hid (by have := HT0.out; have := HTL.out; omega)
        clear fin fin2
        refine wp_region_tree0 (fun _ => True) (.take 0 (.take 1 (.take 2 (.take 3 (.node (.fork 4 (.node (.fork 5 (.node (.fork 6 (.node (.fork 7 (.take 8 (.take 9 (.node (.fork 10 (.done) (.stop))))) (.stop))) (.stop))) (.stop))) (.fork 5 (.node (.fork 4 (.node (.fork 6 (.node (.fork 7 (.take 8 (.take 9 (.node (.fork 10 (.done) (.stop))))) (.stop))) (.stop))) (.fork 6 (.node (.fork 4 (.node (.fork 7 (.take 8 (.take 9 (.node (.fork 10 (.done) (.stop))))) (.stop))) (.stop))) (.stop)))) (.stop)))))))) (by kernel_rfl) (by kernel_rfl) (of_decide_eq_true (by kernel_rfl)) rfl (by kernel_rfl) (trivial) ?_
        intro hH
        iterate 4
          refine tree_take (v := ?_) rfl (by rfl) ?_ ?_
          rotate_left
          · intro w2 hSw
            clear hSw
            go_simp
            try with_reducible rfl
          try simp only [Act.put, List.setIfInBounds_toArray, List.set_cons_zero, List.set_cons_succ]
        refine tree_node ?_
        refine tree_move rfl (by rfl) (fun K hK => ?_) ?_
        · go_simp
          refine hK.out _ _ (trivial) ?_
          clear hH hK K
          intro hH
          try simp only [Act.put, List.setIfInBounds_toArray, List.set_cons_zero, List.set_cons_succ]
          refine tree_node ?_
          refine tree_move rfl (by rfl) (fun K hK => ?_) ?_
          · go_simp
            refine hK.out _ _ (trivial) ?_
            clear hH hK K
            intro hH
            try simp only [Act.put, List.setIfInBounds_toArray, List.set_cons_zero, List.set_cons_succ]
            refine tree_node ?_
            refine tree_move rfl (by rfl) (fun K hK => ?_) ?_
            · go_simp
              refine hK.out _ _ (trivial) ?_
              clear hH hK K
              intro hH
              try simp only [Act.put, List.setIfInBounds_toArray, List.set_cons_zero, List.set_cons_succ]
              refine tree_node ?_
              refine tree_move rfl (by rfl) (fun K hK => ?_) ?_
              · refine wp_appS msg_ty _ _ rfl w.heap.size vO O.length CS.flatten rfl (own_below OW3.out ((below_drewN (Below.refl w3.heap.size w3) 1).alloc (Nat.le_refl _) (.cells #[p0, p1, p2, p3, p4, p5, p6] 65))) _ _ 1 1 [p0, p1, p2, p3, p4, p5, p6] rfl ((RowAt.new w3.drew 65 [p0, p1, p2, p3, p4, p5, p6]).slice (size := 7) (n := 1) (c := 1) rfl (Nat.le_refl _) (by simp [maxLen])) H1.out (by have := HOK.out; have := Hn.out; omega) (by have := HOK.out; have := Hn.out; simp only [maxLen]; omega) (by have := B3.out.size; simp; omega) ?_
                intro v4 w4 hown4 hgr4
                obtain ⟨A4, c4, rfl, -⟩ := own_slice hown4
                refine hK.out _ _ (trivial) ?_
                have R4 := Lib.hid (row_pastT (R3.out.below ((below_drewN (Below.refl w3.heap.size w3) 1).alloc (Nat.le_refl _) (.cells #[p0, p1, p2, p3, p4, p5, p6] 65)) R3.out.lt) hgr4 (own_below OW3.out ((below_drewN (Below.refl w3.heap.size w3) 1).alloc (Nat.le_refl _) (.cells #[p0, p1, p2, p3, p4, p5, p6] 65))) (by decide))
                have OW4 := Lib.hid hown4
                have GR4 := Lib.hid hgr4
                have g1 := R4.out.cell (j := 1) rfl
                have fg1 := R4.out.frozen (j := 1) (by show 1 < 2; decide)
                clear hH hK K hown4 hgr4 d1 d1b m0 m1 m2 m3 m4 m5 m6
                intro hH
                try simp only [Act.put, List.setIfInBounds_toArray, List.set_cons_zero, List.set_cons_succ]
                iterate 2
                  refine tree_take (v := ?_) rfl (by rfl) ?_ ?_
                  rotate_left
                  · intro w2 hSw
                    clear hSw
                    go_simp
                    try with_reducible rfl
                  try simp only [Act.put, List.setIfInBounds_toArray, List.set_cons_zero, List.set_cons_succ]
                refine tree_node ?_
                refine tree_move rfl (by rfl) (fun K hK => ?_) ?_
                · go_simp
                  refine hK.out _ _ (trivial) ?_
                  clear hH hK K g1 fg1
                  intro hH
                  try simp only [Act.put]
                  refine tree_done ?_
                  go_wp2_with fail
                  go_roundw
                  all_goals first | exact FIN.out _ _ _ OW4.out GR4.out | (rw [FIN2.out _ _ _ GR4.out, C0.out]; exact HLT.out)
                exact tree_stop
              exact tree_stop
            exact tree_stop
          exact tree_stop
        refine tree_move rfl (by rfl) (fun K hK => ?_) ?_
        · go_simp
          refine hK.out _ _ (trivial) ?_
          clear hH hK K
          intro hH
          try simp only [Act.put, List.setIfInBounds_toArray, List.set_cons_zero, List.set_cons_succ]
          refine tree_node ?_
          refine tree_move rfl (by rfl) (fun K hK => ?_) ?_
          · go_simp
            refine hK.out _ _ (trivial) ?_
            clear hH hK K
            intro hH
            try simp only [Act.put, List.setIfInBounds_toArray, List.set_cons_zero, List.set_cons_succ]
            refine tree_node ?_
            refine tree_move rfl (by rfl) (fun K hK => ?_) ?_
            · go_simp
              refine hK.out _ _ (trivial) ?_
              clear hH hK K
              intro hH
              try simp only [Act.put, List.setIfInBounds_toArray, List.set_cons_zero, List.set_cons_succ]
              refine tree_node ?_
              refine tree_move rfl (by rfl) (fun K hK => ?_) ?_
              · refine wp_appS msg_ty _ _ rfl w.heap.size vO O.length CS.flatten rfl (own_below OW3.out ((below_drewN (Below.refl w3.heap.size w3) 1).alloc (Nat.le_refl _) (.cells #[p0, p1, p2, p3, p4, p5, p6] 65))) _ _ 1 1 [p0, p1, p2, p3, p4, p5, p6] rfl ((RowAt.new w3.drew 65 [p0, p1, p2, p3, p4, p5, p6]).slice (size := 7) (n := 1) (c := 1) rfl (Nat.le_refl _) (by simp [maxLen])) H1.out (by have := HOK.out; have := Hn.out; omega) (by have := HOK.out; have := Hn.out; simp only [maxLen]; omega) (by have := B3.out.size; simp; omega) ?_
                intro v4 w4 hown4 hgr4
                obtain ⟨A4, c4, rfl, -⟩ := own_slice hown4
                refine hK.out _ _ (trivial) ?_
                have R4 := Lib.hid (row_pastT (R3.out.below ((below_drewN (Below.refl w3.heap.size w3) 1).alloc (Nat.le_refl _) (.cells #[p0, p1, p2, p3, p4, p5, p6] 65)) R3.out.lt) hgr4 (own_below OW3.out ((below_drewN (Below.refl w3.heap.size w3) 1).alloc (Nat.le_refl _) (.cells #[p0, p1, p2, p3, p4, p5, p6] 65))) (by decide))
                have OW4 := Lib.hid hown4
                have GR4 := Lib.hid hgr4
                have g1 := R4.out.cell (j := 1) rfl
                have fg1 := R4.out.frozen (j := 1) (by show 1 < 2; decide)
                clear hH hK K hown4 hgr4 d1 d1b m0 m1 m2 m3 m4 m5 m6
                intro hH
                try simp only [Act.put, List.setIfInBounds_toArray, List.set_cons_zero, List.set_cons_succ]
                iterate 2
                  refine tree_take (v := ?_) rfl (by rfl) ?_ ?_
                  rotate_left
                  · intro w2 hSw
                    clear hSw
                    go_simp
                    try with_reducible rfl
                  try simp only [Act.put, List.setIfInBounds_toArray, List.set_cons_zero, List.set_cons_succ]
                refine tree_node ?_
                refine tree_move rfl (by rfl) (fun K hK => ?_) ?_
                · go_simp
                  refine hK.out _ _ (trivial) ?_
                  clear hH hK K g1 fg1
                  intro hH
                  try simp only [Act.put]
                  refine tree_done ?_
                  go_wp2_with fail
                  go_roundw
                  all_goals first | exact FIN.out _ _ _ OW4.out GR4.out | (rw [FIN2.out _ _ _ GR4.out, C0.out]; exact HLT.out)
                exact tree_stop
              exact tree_stop
            exact tree_stop
          refine tree_move rfl (by rfl) (fun K hK => ?_) ?_
          · go_simp
            refine hK.out _ _ (trivial) ?_
            clear hH hK K
            intro hH
            try simp only [Act.put, List.setIfInBounds_toArray, List.set_cons_zero, List.set_cons_succ]
            refine tree_node ?_
            refine tree_move rfl (by rfl) (fun K hK => ?_) ?_
            · go_simp
              refine hK.out _ _ (trivial) ?_
              clear hH hK K
              intro hH
              try simp only [Act.put, List.setIfInBounds_toArray, List.set_cons_zero, List.set_cons_succ]
              refine tree_node ?_
              refine tree_move rfl (by rfl) (fun K hK => ?_) ?_
              · refine wp_appS msg_ty _ _ rfl w.heap.size vO O.length CS.flatten rfl (own_below OW3.out ((below_drewN (Below.refl w3.heap.size w3) 1).alloc (Nat.le_refl _) (.cells #[p0, p1, p2, p3, p4, p5, p6] 65))) _ _ 1 1 [p0, p1, p2, p3, p4, p5, p6] rfl ((RowAt.new w3.drew 65 [p0, p1, p2, p3, p4, p5, p6]).slice (size := 7) (n := 1) (c := 1) rfl (Nat.le_refl _) (by simp [maxLen])) H1.out (by have := HOK.out; have := Hn.out; omega) (by have := HOK.out; have := Hn.out; simp only [maxLen]; omega) (by have := B3.out.size; simp; omega) ?_
                intro v4 w4 hown4 hgr4
                obtain ⟨A4, c4, rfl, -⟩ := own_slice hown4
                refine hK.out _ _ (trivial) ?_
                have R4 := Lib.hid (row_pastT (R3.out.below ((below_drewN (Below.refl w3.heap.size w3) 1).alloc (Nat.le_refl _) (.cells #[p0, p1, p2, p3, p4, p5, p6] 65)) R3.out.lt) hgr4 (own_below OW3.out ((below_drewN (Below.refl w3.heap.size w3) 1).alloc (Nat.le_refl _) (.cells #[p0, p1, p2, p3, p4, p5, p6] 65))) (by decide))
                have OW4 := Lib.hid hown4
                have GR4 := Lib.hid hgr4
                have g1 := R4.out.cell (j := 1) rfl
                have fg1 := R4.out.frozen (j := 1) (by show 1 < 2; decide)
                clear hH hK K hown4 hgr4 d1 d1b m0 m1 m2 m3 m4 m5 m6
                intro hH
                try simp only [Act.put, List.setIfInBounds_toArray, List.set_cons_zero, List.set_cons_succ]
                iterate 2
                  refine tree_take (v := ?_) rfl (by rfl) ?_ ?_
                  rotate_left
                  · intro w2 hSw
                    clear hSw
                    go_simp
                    try with_reducible rfl
                  try simp only [Act.put, List.setIfInBounds_toArray, List.set_cons_zero, List.set_cons_succ]
                refine tree_node ?_
                refine tree_move rfl (by rfl) (fun K hK => ?_) ?_
                · go_simp
                  refine hK.out _ _ (trivial) ?_
                  clear hH hK K g1 fg1
                  intro hH
                  try simp only [Act.put]
                  refine tree_done ?_
                  go_wp2_with fail
                  go_roundw
                  all_goals first | exact FIN.out _ _ _ OW4.out GR4.out | (rw [FIN2.out _ _ _ GR4.out, C0.out]; exact HLT.out)
                exact tree_stop
              exact tree_stop
            exact tree_stop
          exact tree_stop
        exact tree_stop
end Go.Proofs.YtclgkkencpkjpaaGreatDoor
