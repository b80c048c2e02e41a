/- Layer 3 in plain Lean: headers as long as may be, and longer. No program in sight; no condition. -/
import Derived.Test.YtclgkkencpkjpaaGreatDoorFld1
namespace IH
set_option maxRecDepth 100000

/-- One field too many. -/
theorem parse_many_go : ∀ (fs : List Fld) (k N a : Nat) (tail : List UInt8) (out : List Fld), (∀ f ∈ fs, fit f = true) → out.length ≤ 128 → 128 < out.length + fs.length → a + sizeL fs ≤ 65536 → fs.length < k →
    parseF k N a (printL fs ++ tail) out = ([], 0, 13) := by
  intro fs
  induction fs with
  | nil => intro k N a tail out _ h1 h2; simp at h2; omega
  | cons f fs ih =>
    intro k N a tail out hf ho hn hs hk
    cases k with
    | zero => simp at hk
    | succ k =>
      have hff := hf f (by simp)
      rw [sizeL_cons] at hs
      have h3 : (f.1 ++ [58, 32] ++ f.2).length = f.1.length + f.2.length + 2 := by simp; omega
      have hp : 2 ≤ sizeL fs := by unfold sizeL; omega
      have e : lineF N a (printL (f :: fs) ++ tail) = (some (f.1 ++ [58, 32] ++ f.2), 0) := by
        have h1 : printL (f :: fs) ++ tail = (f.1 ++ [58, 32] ++ f.2) ++ 13 :: 10 :: (printL fs ++ tail) := by rw [printL_cons]; simp [line1]
        have h2 := crAt_append (r := printL fs ++ tail) (line_no13 hff)
        rw [h1]
        unfold lineF
        rw [h2]
        simp only
        rw [if_neg (by omega), List.take_left']
        rfl
      have hd : (printL (f :: fs) ++ tail).drop ((f.1 ++ [58, 32] ++ f.2).length + 2) = printL fs ++ tail := by
        have h1 : printL (f :: fs) ++ tail = (f.1 ++ [58, 32] ++ f.2 ++ [13, 10]) ++ (printL fs ++ tail) := by rw [printL_cons]; simp [line1]
        rw [h1, List.drop_left']
        simp
        omega
      unfold parseF
      rw [e]
      simp only
      rw [if_neg (by simp), headF_line hff]
      simp only
      simp only [List.length_cons] at hn hk
      by_cases h128 : out.length = 128
      · rw [if_pos h128]
      · rw [if_neg h128, hd]
        exact ih k N _ tail (out ++ [f]) (fun g hg => hf g (by simp [hg])) (by simp; omega) (by simp; omega) (by omega) (by omega)
theorem parse_many {fs : List Fld} (hf : ∀ f ∈ fs, fit f = true) (hn : 128 < fs.length) (hs : sizeL fs ≤ 65536) (tail : List UInt8) : parseFs (printL fs ++ tail) = ([], 0, 13) := by
  have hk : fs.length < (printL fs ++ tail).length + 1 := by
    have : fs.length + 2 ≤ sizeL fs := by
      unfold sizeL
      clear hs hn hf
      induction fs with
      | nil => simp
      | cons f fs ih => simp; omega
    rw [List.length_append, printL_length]; omega
  unfold parseFs
  exact parse_many_go fs _ _ 0 tail [] hf (by simp) (by simpa using hn) (by omega) hk
/-- So many x. -/
def xs (n : Nat) : List UInt8 := List.replicate n 120
theorem xs_length (n : Nat) : (xs n).length = n := by simp [xs]
theorem xs_value (n : Nat) : value (xs n) = true := by
  have hm : ∀ c ∈ xs n, c = 120 := fun c hc => (List.mem_replicate.1 hc).2
  simp only [value, Bool.and_eq_true, beq_iff_eq]
  constructor
  · refine List.all_eq_true.2 fun c hc => ?_
    rw [hm c hc]; decide
  · refine trim_self.2 ⟨fun c hc => ?_, fun c hc => ?_⟩
    · rw [hm c (List.mem_of_mem_head? hc)]; decide
    · rw [hm c (List.mem_of_getLast? hc)]; decide
theorem xs_fit (n : Nat) : fit ([97], xs n) = true := by
  unfold fit
  rw [xs_value, Bool.and_true]
  show token [97] = true
  decide
theorem one_size (n : Nat) : sizeL [([97], xs n)] = n + 7 := by simp [sizeL, xs_length]; omega
theorem one_fault (n : Nat) : faultL [([97], xs n)] = if n + 7 ≤ 65536 then 0 else 12 := by
  unfold faultL
  rw [if_neg (by simp [xs_fit]), if_neg (by simp), one_size]
  split <;> split <;> omega
theorem one_print (n : Nat) : printL [([97], xs n)] = [97, 58, 32] ++ xs n ++ [13, 10, 13, 10] := by simp [printL, line1]
theorem one_parse (n : Nat) : parseFs (printL [([97], xs n)]) = if n + 7 ≤ 65536 then ([([97], xs n)], ((n + 7 : Nat) : Int), 0) else ([], 0, 12) := by
  by_cases h : n + 7 ≤ 65536
  · have := parse_print (fs := [([97], xs n)]) (by rw [one_fault, if_pos h]) []
    rw [List.append_nil, printL_length, one_size] at this
    rw [this, if_pos h]
  · rw [if_neg h]
    have hcr := crAt_append (x := [97] ++ [58, 32] ++ xs n) (r := [13, 10]) (line_no13 (f := ([97], xs n)) (xs_fit n))
    have e : printL [([97], xs n)] = ([97] ++ [58, 32] ++ xs n) ++ 13 :: 10 :: [13, 10] := by rw [one_print]; simp
    have hl : ([97] ++ [58, 32] ++ xs n).length = n + 3 := by simp [xs_length]
    unfold parseFs
    rw [printL_length, one_size, show n + 7 + 1 = (n + 6) + 1 + 1 by omega]
    unfold parseF
    by_cases h2 : 65536 < n + 5
    · have hL : lineF (n + 7) 0 (printL [([97], xs n)]) = (none, 12) := by
        unfold lineF
        rw [e, hcr, hl]
        simp only
        rw [if_pos (by omega)]
      rw [hL]
    · have hL : lineF (n + 7) 0 (printL [([97], xs n)]) = (some ([97] ++ [58, 32] ++ xs n), 0) := by
        unfold lineF
        rw [e, hcr, hl]
        simp only
        rw [if_neg (by omega), ← hl, List.take_left' rfl]
      rw [hL]
      simp only
      rw [if_neg (by simp), headF_line (f := ([97], xs n)) (xs_fit n)]
      simp only
      rw [if_neg (by simp)]
      have hd : (printL [([97], xs n)]).drop (([97] ++ [58, 32] ++ xs n).length + 2) = [13, 10] := by
        rw [e, show ([97] ++ [58, 32] ++ xs n) ++ 13 :: 10 :: [13, 10] = (([97] ++ [58, 32] ++ xs n) ++ [13, 10]) ++ [13, 10] by simp, List.drop_left']
        simp
      rw [hd]
      unfold parseF
      have hL2 : ∀ a, 65536 < a + 2 → lineF (n + 7) a [13, 10] = (none, 12) := by
        intro a ha
        unfold lineF
        have : crAt [13, 10] = some 0 := by decide
        rw [this]
        simp only
        rw [if_pos (by omega)]
      rw [hL2 _ (by rw [hl]; omega)]
theorem crAt_none {l : List UInt8} (h : ∀ c ∈ l, c ≠ 13) : crAt l = none := by
  induction l with
  | nil => rfl
  | cons c l ih =>
    unfold crAt
    rw [if_neg (fun hc => h c (by simp) hc.1), ih fun d hd => h d (by simp [hd])]
    rfl
theorem xs_parse (n : Nat) (h : n ≤ 65536) : parseFs (xs n) = ([], 0, 11) := by
  have hc : crAt (xs n) = none := crAt_none fun c hc => by rw [(List.mem_replicate.1 hc).2]; decide
  unfold parseFs parseF lineF
  rw [hc, xs_length]
  simp only
  rw [if_neg (by omega)]
theorem bc_fit : fit ([98], [99]) = true := by decide
theorem bcs_size (n : Nat) : sizeL (List.replicate n ([98], [99])) = 6 * n + 2 := by
  unfold sizeL
  induction n with
  | zero => rfl
  | succ n ih => simp only [List.replicate_succ, List.map_cons, List.sum_cons, List.length_cons, List.length_nil] at *; omega
theorem bcs_fault (n : Nat) (h : n ≤ 200) : faultL (List.replicate n ([98], [99])) = if n ≤ 128 then 0 else 13 := by
  unfold faultL
  rw [if_neg, bcs_size, List.length_replicate]
  · split <;> split <;> omega
  · intro ha
    obtain ⟨f, hf, hb⟩ := List.any_eq_true.1 ha
    rw [(List.mem_replicate.1 hf).2, bc_fit] at hb
    simp at hb
theorem bcs_parse (n : Nat) (h : n ≤ 200) : parseFs (printL (List.replicate n ([98], [99]))) = if n ≤ 128 then (List.replicate n ([98], [99]), ((6 * n + 2 : Nat) : Int), 0) else ([], 0, 13) := by
  by_cases hn : n ≤ 128
  · have := parse_print (fs := List.replicate n ([98], [99])) (by rw [bcs_fault n h, if_pos hn]) []
    rw [List.append_nil, printL_length, bcs_size] at this
    rw [this, if_pos hn]
  · have := parse_many (fs := List.replicate n ([98], [99])) (fun f hf => by rw [(List.mem_replicate.1 hf).2]; exact bc_fit) (by rw [List.length_replicate]; omega) (by rw [bcs_size]; omega) []
    rw [List.append_nil] at this
    rw [this, if_neg hn]
end IH
