/- Ax: several texts, one behind the other. -/
import Derived.Test.YtclgkkencpkjpaaGreatDoorPm
import Derived.Test.YtclgkkencpkjpaaGreatDoorMs
/- Texts in their order, octet by octet, in plain Lean. No program in sight; no condition. -/
namespace IH
set_option maxRecDepth 100000

/-- As in a dictionary, octet by octet. -/
def lessB : List UInt8 → List UInt8 → Bool
  | _, [] => false
  | [], _ :: _ => true
  | a :: x, b :: y => if a = b then lessB x y else decide (a.toNat < b.toNat)
theorem lessB_irrefl (x : List UInt8) : lessB x x = false := by
  induction x with
  | nil => rfl
  | cons a x ih => simp [lessB, ih]
theorem lessB_trans : ∀ {x y z : List UInt8}, lessB x y = true → lessB y z = true → lessB x z = true
  | [], [], z, h, _ => by cases h
  | [], b :: y, [], _, h => by cases h
  | [], b :: y, c :: z, _, _ => rfl
  | a :: x, [], z, h, _ => by cases h
  | a :: x, b :: y, [], _, h => by cases h
  | a :: x, b :: y, c :: z, h1, h2 => by
    unfold lessB at h1 h2 ⊢
    by_cases e1 : a = b
    · subst e1
      rw [if_pos rfl] at h1
      by_cases e2 : a = c
      · rw [if_pos e2] at h2 ⊢
        exact lessB_trans h1 h2
      · rw [if_neg e2] at h2 ⊢
        exact h2
    · rw [if_neg e1] at h1
      simp only [decide_eq_true_eq] at h1
      by_cases e2 : b = c
      · subst e2
        rw [if_neg e1]; simpa using h1
      · rw [if_neg e2] at h2
        simp only [decide_eq_true_eq] at h2
        have e3 : a ≠ c := by intro e; subst e; omega
        rw [if_neg e3]
        simp; omega
theorem lessB_total : ∀ {x y : List UInt8}, x ≠ y → lessB x y = false → lessB y x = true
  | [], [], h, _ => absurd rfl h
  | [], b :: y, _, h => by cases h
  | a :: x, [], _, _ => rfl
  | a :: x, b :: y, h, h1 => by
    unfold lessB at h1 ⊢
    by_cases e : a = b
    · subst e
      rw [if_pos rfl] at h1 ⊢
      exact lessB_total (fun e => h (by rw [e])) h1
    · rw [if_neg e] at h1
      rw [if_neg (Ne.symm e)]
      simp only [decide_eq_false_iff_not, decide_eq_true_eq] at h1 ⊢
      have : a.toNat ≠ b.toNat := fun h => e (UInt8.toNat_inj.1 h)
      omega
end IH

/- Layer 26 in plain Lean: which keys a log keeps, in their order; messages one behind the other. No program in sight; no condition. -/
namespace IH
set_option maxRecDepth 100000

def sortedB (l : List (List UInt8)) : Prop := l.Pairwise fun a b => lessB a b = true
def placeB (out : List (List UInt8)) (key : List UInt8) : Nat := (out.takeWhile fun x => lessB x key).length
def keptStep (out : List (List UInt8)) (l : Int × List UInt8) : List (List UInt8) :=
  if l.1 = 1 ∧ out[placeB out l.2]? ≠ some l.2 then out.take (placeB out l.2) ++ l.2 :: out.drop (placeB out l.2)
  else if (l.1 = 3 ∨ l.1 = 4) ∧ out[placeB out l.2]? = some l.2 then out.take (placeB out l.2) ++ out.drop (placeB out l.2 + 1)
  else out
def keptL (ls : List (Int × List UInt8)) : List (List UInt8) := ls.foldl keptStep []
theorem placeB_split (out : List (List UInt8)) (key : List UInt8) : (∀ x ∈ out.take (placeB out key), lessB x key = true) ∧ (∀ x, out[placeB out key]? = some x → lessB x key = false) := by
  unfold placeB
  induction out with
  | nil => simp
  | cons y out ih =>
    by_cases h : lessB y key = true
    · simp only [List.takeWhile_cons, h, if_true, List.length_cons, List.take_succ_cons, List.getElem?_cons_succ]
      refine ⟨?_, ih.2⟩
      intro x hx
      rcases List.mem_cons.1 hx with rfl | hx
      · exact h
      · exact ih.1 x hx
    · simp only [List.takeWhile_cons, h]
      simp
      simpa using h
/-- A place behind which nothing is less, and ahead of which all is. -/
theorem placeB_of {out : List (List UInt8)} {key : List UInt8} {i : Nat} (hi : i ≤ out.length) (h1 : ∀ j (h : j < out.length), j < i → lessB out[j] key = true) (h2 : ∀ (h : i < out.length), lessB out[i] key = false) : placeB out key = i := by
  unfold placeB
  induction out generalizing i with
  | nil => simp at hi; simp [hi]
  | cons y out ih =>
    cases i with
    | zero =>
      have := h2 (by simp)
      simp only [List.getElem_cons_zero] at this
      simp [this]
    | succ i =>
      have h0 := h1 0 (by simp) (by omega)
      simp only [List.getElem_cons_zero] at h0
      simp only [List.takeWhile_cons, h0, if_true, List.length_cons]
      rw [ih (i := i) (by simp at hi; omega)]
      · intro j hj hji
        have := h1 (j + 1) (by simp; omega) (by omega)
        simpa using this
      · intro h
        have := h2 (by simp; omega)
        simpa using this
theorem sorted_drop {out : List (List UInt8)} (h : sortedB out) (k : Nat) : sortedB (out.drop k) := List.Pairwise.sublist (List.drop_sublist k out) h
theorem sorted_lt {out : List (List UInt8)} (h : sortedB out) {i j : Nat} (hj : j < out.length) (hij : i < j) : lessB out[i] out[j] = true := List.pairwise_iff_getElem.1 h i j (by omega) hj hij
theorem keptStep_sorted {out : List (List UInt8)} (h : sortedB out) (l : Int × List UInt8) : sortedB (keptStep out l) := by
  obtain ⟨p1, p2⟩ := placeB_split out l.2
  unfold keptStep
  split
  · rename_i hc
    have hd : ∀ y ∈ out.drop (placeB out l.2), lessB l.2 y = true := by
      intro y hy
      obtain ⟨j, hj, rfl⟩ := List.getElem_of_mem hy
      rw [List.length_drop] at hj
      rw [List.getElem_drop]
      have hk : placeB out l.2 < out.length := by omega
      have h0 := p2 _ (List.getElem?_eq_getElem hk)
      have hne : out[placeB out l.2] ≠ l.2 := fun e => hc.2 (by rw [List.getElem?_eq_getElem hk, e])
      have h1 := lessB_total hne h0
      cases j with
      | zero => simpa using h1
      | succ j => exact lessB_trans h1 (sorted_lt h (by omega) (by omega))
    refine List.pairwise_append.2 ⟨List.Pairwise.sublist (List.take_sublist _ _) h, List.pairwise_cons.2 ⟨hd, sorted_drop h _⟩, ?_⟩
    intro x hx y hy
    rcases List.mem_cons.1 hy with rfl | hy
    · exact p1 x hx
    · exact lessB_trans (p1 x hx) (hd y hy)
  · split
    · refine List.Pairwise.sublist ?_ h
      conv => rhs; rw [← List.take_append_drop (placeB out l.2) out]
      refine List.Sublist.append (List.Sublist.refl _) ?_
      rw [← List.drop_drop]
      exact List.drop_sublist _ _
    · exact h
theorem keptL_sorted (ls : List (Int × List UInt8)) : sortedB (keptL ls) := by
  unfold keptL
  have key : ∀ (ls : List (Int × List UInt8)) (out : List (List UInt8)), sortedB out → sortedB (ls.foldl keptStep out) := by
    intro ls
    induction ls with
    | nil => intro out h; exact h
    | cons l ls ih => intro out h; exact ih _ (keptStep_sorted h l)
  exact key ls [] List.Pairwise.nil
theorem keptL_snoc (ls : List (Int × List UInt8)) (l : Int × List UInt8) : keptL (ls ++ [l]) = keptStep (keptL ls) l := by simp [keptL]
theorem keptStep_length (out : List (List UInt8)) (l : Int × List UInt8) : (keptStep out l).length ≤ out.length + 1 := by
  unfold keptStep
  split
  · simp; omega
  · split
    · simp; omega
    · omega

/-! Messages, one behind the other. -/
def msgOf (t : Told8) : Msg := ⟨t.start, t.fields, t.body⟩
def requestsF : Nat → List UInt8 → List Msg → List Msg × Int
  | 0, _, out => (out, 0)
  | f + 1, b, out =>
    if b = [] then (out, 0)
    else if (toldM true [] b).e ≠ 0 then (out, (toldM true [] b).e)
    else if (toldM true [] b).over = false then (out, 11)
    else requestsF f (b.drop (toldM true [] b).n) (out ++ [msgOf (toldM true [] b)])
def requestsL (b : List UInt8) : List Msg × Int := requestsF (b.length + 1) b []
def responsesF (finals : Bool) : Nat → List UInt8 → List (List UInt8) → List Msg → List Msg × Int
  | 0, _, _, out => (out, 0)
  | f + 1, b, ms, out =>
    match ms with
    | [] => (out, 0)
    | m :: r =>
      if b = [] then (out, 0)
      else if (toldM false m b).e ≠ 0 then (out, (toldM false m b).e)
      else if (toldM false m b).over = false then (out, 11)
      else if finals = true ∧ (toldM false m b).start.status < 200 then responsesF finals f (b.drop (toldM false m b).n) ms out
      else responsesF finals f (b.drop (toldM false m b).n) r (out ++ [msgOf (toldM false m b)])
def responsesL (finals : Bool) (b : List UInt8) (ms : List (List UInt8)) : List Msg × Int := responsesF finals (b.length + 1) b ms []
/-- A whole message has octets. -/
theorem told_pos {asks : Bool} {m b : List UInt8} (ho : (toldM asks m b).over = true) : 0 < (toldM asks m b).n := by
  unfold toldM at ho ⊢
  split
  · rename_i h; rw [if_pos h] at ho; simp [Told8.none] at ho
  · rename_i h
    rw [if_neg h] at ho
    split
    · rename_i h2; rw [if_pos h2] at ho; simp [Told8.none] at ho
    · rename_i h2
      rw [if_neg h2] at ho
      have hp := lineM_pos (asks := asks) (b := b) (by omega)
      unfold headT at ho ⊢
      split
      · rename_i h3; rw [if_pos h3] at ho; simp [Told8.none] at ho
      · rename_i h3
        rw [if_neg h3] at ho
        split
        · rename_i h4; rw [if_pos h4] at ho; simp [Told8.none] at ho
        · rename_i h4
          rw [if_neg h4] at ho
          split
          · rename_i h5; rw [if_pos h5] at ho; simp [Told8.none] at ho
          · rename_i h5
            rw [if_neg h5] at ho
            unfold bodyT at ho ⊢
            split
            · rename_i h6
              rw [if_pos h6] at ho
              split
              · rename_i h7; rw [if_pos h7] at ho; simp [Told8.none] at ho
              · simp only; omega
            · simp only; omega
theorem requestsF_more (f g : Nat) (b : List UInt8) (out : List Msg) (hf : b.length < f) (hg : b.length < g) : requestsF f b out = requestsF g b out := by
  induction f generalizing g b out with
  | zero => omega
  | succ f ih =>
    cases g with
    | zero => omega
    | succ g =>
      unfold requestsF
      split
      · rfl
      · rename_i hb
        have hl : 0 < b.length := List.length_pos_iff.2 hb
        split
        · rfl
        · split
          · rfl
          · rename_i ho
            have := told_pos (asks := true) (m := []) (b := b) (by simpa using ho)
            exact ih _ _ _ (by rw [List.length_drop]; omega) (by rw [List.length_drop]; omega)
theorem responsesF_more (finals : Bool) (f g : Nat) (b : List UInt8) (ms : List (List UInt8)) (out : List Msg) (hf : b.length < f) (hg : b.length < g) : responsesF finals f b ms out = responsesF finals g b ms out := by
  induction f generalizing g b ms out with
  | zero => omega
  | succ f ih =>
    cases g with
    | zero => omega
    | succ g =>
      unfold responsesF
      cases ms with
      | nil => rfl
      | cons m r =>
        simp only
        split
        · rfl
        · rename_i hb
          have hl : 0 < b.length := List.length_pos_iff.2 hb
          split
          · rfl
          · split
            · rfl
            · rename_i ho
              have := told_pos (asks := false) (m := m) (b := b) (by simpa using ho)
              split
              · exact ih _ _ _ _ (by rw [List.length_drop]; omega) (by rw [List.length_drop]; omega)
              · exact ih _ _ _ _ (by rw [List.length_drop]; omega) (by rw [List.length_drop]; omega)
end IH

/- Layers 7, 8 and 26 in plain Lean: the document's examples. No condition. -/
namespace IH
set_option maxRecDepth 100000

theorem ex7_enc : encL [[97, 98], [], [99]] = [50, 13, 10, 97, 98, 13, 10, 49, 13, 10, 99, 13, 10, 48, 13, 10, 13, 10] := by decide +kernel
def ex8M : Msg := ⟨⟨[71, 69, 84], [47], 0, [], 1⟩, [([72, 111, 115, 116], [97])], []⟩
/-- "GET / HTTP/1.1", "Host: a", "", "x" -/
def ex8 : List UInt8 := [71, 69, 84, 32, 47, 32, 72, 84, 84, 80, 47, 49, 46, 49, 13, 10, 72, 111, 115, 116, 58, 32, 97, 13, 10, 13, 10, 120]
theorem ex8_right : rightM ex8M [] = true := by decide +kernel
theorem ex8_print : printM ex8M [] ++ [120] = ex8 ∧ (printM ex8M []).length = 27 := by decide +kernel
theorem ex8_told : toldM true [] ex8 = ⟨ex8M.start, ex8M.fields, [], true, 27, true, 0⟩ := by
  have h := msg_back ex8_right [120]
  rw [ex8_print.1, ex8_print.2] at h
  exact h
def ex26M : Msg := ⟨⟨[71, 69, 84], [47], 0, [], 1⟩, [([65], [98])], []⟩
theorem ex26_right : rightM ex26M [] = true := by decide +kernel
/-- "GET / HT" -/
theorem ex26_rest : (toldM true [] [71, 69, 84, 32, 47, 32, 72, 84, 84]).e = 0 ∧ (toldM true [] [71, 69, 84, 32, 47, 32, 72, 84, 84]).over = false := by decide +kernel
theorem ex26_two : (requestsL (printM ex26M [] ++ (printM ex26M [] ++ [71, 69, 84, 32, 47, 32, 72, 84, 84]))) = ([ex26M, ex26M], 11) := by
  have h1 := msg_back ex26_right (printM ex26M [] ++ [71, 69, 84, 32, 47, 32, 72, 84, 84])
  have h2 := msg_back ex26_right [71, 69, 84, 32, 47, 32, 72, 84, 84]
  have ha : decide (ex26M.start.status = 0) = true := rfl
  rw [ha] at h1 h2
  have hne : ∀ r, printM ex26M [] ++ r ≠ [] := by
    intro r e
    have := congrArg List.length e
    rw [List.length_append] at this
    have hl : (printM ex26M []).length = 24 := by decide +kernel
    rw [hl] at this
    simp at this
  obtain ⟨r1, r2⟩ := ex26_rest
  have hl : (printM ex26M [] ++ (printM ex26M [] ++ [71, 69, 84, 32, 47, 32, 72, 84, 84])).length = 57 := by decide +kernel
  unfold requestsL
  rw [hl]
  unfold requestsF
  rw [if_neg (hne _), h1]
  simp only [ne_eq, not_true_eq_false, if_false, Bool.true_eq_false]
  rw [List.drop_left' rfl]
  unfold requestsF
  rw [if_neg (hne _), h2]
  simp only [ne_eq, not_true_eq_false, if_false, Bool.true_eq_false]
  rw [List.drop_left' rfl]
  unfold requestsF
  rw [if_neg (by simp), if_neg (by simp [r1]), if_pos r2]
  rfl
end IH
