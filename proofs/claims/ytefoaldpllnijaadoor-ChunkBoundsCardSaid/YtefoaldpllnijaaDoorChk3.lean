/- Layer 7 in plain Lean: pieces in chunks come out as they were; bodies, lines and trailers up to their bounds. No program in sight; no condition. -/
import Derived.Test.YtefoaldpllnijaaDoorChk2
namespace IH
set_option maxRecDepth 100000

def encP (p : List UInt8) : List UInt8 := if p = [] then [] else digs 16 64 p.length ++ 13 :: 10 :: (p ++ [13, 10])
def encL (ps : List (List UInt8)) : List UInt8 := ps.flatMap encP ++ [48, 13, 10, 13, 10]
def total (ps : List (List UInt8)) : Nat := (ps.map List.length).sum

theorem hexVal_snoc (l : List UInt8) (c : UInt8) (n : Int) : hexVal (l ++ [c]) n = hexVal l n * 16 + dig c := by
  induction l generalizing n with
  | nil => rfl
  | cons d l ih => exact ih _
theorem digC_hex (n : Nat) (h : n < 16) : isHex7 (digC n) = true ∧ digC n ≠ 10 ∧ digC n ≠ 13 := by
  have := List.all_eq_true.1 (show ((List.range 16).all fun n => isHex7 (digC n) && digC n != 10 && digC n != 13) = true by decide +kernel) n (List.mem_range.2 h)
  simp only [Bool.and_eq_true, bne_iff_ne] at this
  exact ⟨this.1.1, this.1.2, this.2⟩
theorem hex_digs (n : Nat) (hn : n < 2 ^ 63) : (digs 16 64 n).all isHex7 = true ∧ hexVal (digs 16 64 n) 0 = n ∧ ∀ c ∈ digs 16 64 n, c ≠ 10 ∧ c ≠ 13 := by
  induction n using Nat.strongRecOn with
  | _ n ih =>
    rcases Nat.lt_or_ge n 16 with h | h
    · obtain ⟨h1, h2, h3⟩ := digC_hex n h
      rw [digs_small _ _ h]
      refine ⟨by simp [h1], by simp [hexVal, dig_digC n h], ?_⟩
      intro c hc
      rw [List.mem_singleton] at hc; subst hc
      exact ⟨h2, h3⟩
    · obtain ⟨a1, a2, a3⟩ := ih (n / 16) (by omega) (by omega)
      have hm : n % 16 < 16 := Nat.mod_lt _ (by omega)
      obtain ⟨h1, h2, h3⟩ := digC_hex (n % 16) hm
      rw [digs_step 16 (by omega) n hn h]
      refine ⟨by simp [a1, h1], ?_, ?_⟩
      · rw [hexVal_snoc, a2, dig_digC _ hm]; omega
      · intro c hc
        rcases List.mem_append.1 hc with hc | hc
        · exact a3 c hc
        · rw [List.mem_singleton] at hc; subst hc
          exact ⟨h2, h3⟩
theorem hexd_short (k : Nat) : ∀ n : Nat, n < 16 ^ (k + 1) → n < 2 ^ 63 → (digs 16 64 n).length ≤ k + 1 := by
  induction k with
  | zero => intro n h _; rw [digs_small _ _ (by simpa using h)]; simp
  | succ k ih =>
    intro n h hn
    rcases Nat.lt_or_ge n 16 with h10 | h10
    · rw [digs_small _ _ h10]; simp
    · rw [digs_step 16 (by omega) n hn h10, List.length_append]
      have := ih (n / 16) (by rw [Nat.pow_succ] at h; omega) (by omega)
      simp; omega
/-- A chunk. -/
theorem chunk_run {s p r : List UInt8} {t : Int} (hs : ∀ c ∈ s, c ≠ 10) (hl : s.length ≤ 254) (hz : sizeC s = (p.length : Int)) (hp : p ≠ []) (ht : (p.length : Int) ≤ 1048576 - t) :
    run (at0 t) (s ++ 13 :: 10 :: (p ++ 13 :: 10 :: r)) = ahead p (s.length + p.length + 4) (run (at0 (t + p.length)) r) := by
  have hpl : 0 < p.length := List.length_pos_iff.2 hp
  have h1 := lineC_of hs hl (p ++ 13 :: 10 :: r)
  have hd : (s ++ 13 :: 10 :: (p ++ 13 :: 10 :: r)).drop (s.length + 2) = p ++ 13 :: 10 :: r := by
    have e : s ++ 13 :: 10 :: (p ++ 13 :: 10 :: r) = (s ++ [13, 10]) ++ (p ++ 13 :: 10 :: r) := by simp
    rw [e, List.drop_left' (by simp)]
  rw [run0_data h1 (by omega) (by rw [hz]; omega) (by rw [hz]; exact ht), hd, hz, run1_full hpl (by simp), List.take_left' rfl, List.drop_left' rfl, run2_ok, ahead_ahead, ahead_ahead]
  simp only [List.nil_append, List.append_nil]
  congr 1
  omega
theorem end_run {s r : List UInt8} {t : Int} (hs : ∀ c ∈ s, c ≠ 10) (hl : s.length ≤ 254) (hz : sizeC s = 0) : run (at0 t) (s ++ 13 :: 10 :: 13 :: 10 :: r) = ([], s.length + 4, 0, end4 t 0) := by
  have h1 := lineC_of hs hl (13 :: 10 :: r)
  have hd : (s ++ 13 :: 10 :: 13 :: 10 :: r).drop (s.length + 2) = 13 :: 10 :: r := by
    have e : s ++ 13 :: 10 :: 13 :: 10 :: r = (s ++ [13, 10]) ++ 13 :: 10 :: r := by simp
    rw [e, List.drop_left' (by simp)]
  have h2 := lineC_of (s := []) (by simp) (by simp) r
  rw [run0_end h1 (by omega) hz, hd]
  have h3 : lineC (13 :: 10 :: r) = ([], 2, 0) := h2
  rw [run3_end h3 (by omega)]
  simp [ahead]
theorem size_digs (n : Nat) (h0 : 0 < n) (hn : n < 16 ^ 8) : sizeC (digs 16 64 n) = (n : Int) ∧ (∀ c ∈ digs 16 64 n, c ≠ 10) ∧ (digs 16 64 n).length ≤ 8 := by
  have h2 : n < 2 ^ 63 := by omega
  obtain ⟨a1, a2, a3⟩ := hex_digs n h2
  have a4 := hexd_short 7 n hn h2
  have := sizeC_of (e := []) a1 (digs_ne _ _ _ (by omega)) a4 rfl (by simp)
  rw [List.append_nil, a2] at this
  exact ⟨this, fun c hc => (a3 c hc).1, a4⟩
theorem enc_run : ∀ (ps : List (List UInt8)) (t : Int) (tail : List UInt8), 0 ≤ t → t + total ps ≤ 1048576 →
    run (at0 t) (encL ps ++ tail) = (ps.flatten, (encL ps).length, 0, end4 (t + total ps) 0) := by
  intro ps
  induction ps with
  | nil =>
    intro t tail _ _
    have hz : sizeC [48] = 0 := by decide
    have := end_run (s := [48]) (r := tail) (t := t) (by decide) (by decide) hz
    simp only [List.cons_append, List.nil_append] at this
    simp only [encL, List.flatMap_nil, List.nil_append, List.cons_append]
    rw [this]
    simp [total]
  | cons p ps ih =>
    intro t tail h0 ht
    have htot : total (p :: ps) = p.length + total ps := by simp [total]
    rw [htot] at ht
    by_cases hp : p = []
    · subst hp
      have e : encL ([] :: ps) = encL ps := by simp [encL, encP]
      rw [e, ih t tail h0 (by simp at ht; omega), htot]
      simp
    · have hpl : 0 < p.length := List.length_pos_iff.2 hp
      obtain ⟨s1, s2, s3⟩ := size_digs p.length hpl (by omega)
      have e : encL (p :: ps) ++ tail = digs 16 64 p.length ++ 13 :: 10 :: (p ++ 13 :: 10 :: (encL ps ++ tail)) := by simp [encL, encP, hp]
      rw [e, chunk_run s2 (by omega) s1 hp (by omega), ih (t + p.length) tail (by omega) (by omega)]
      simp only [ahead, ne_eq, not_true_eq_false, if_false, List.flatten_cons]
      have el : (encL (p :: ps)).length = (digs 16 64 p.length).length + p.length + 4 + (encL ps).length := by simp [encL, encP, hp]; omega
      rw [el, htot]
      congr 4
      omega
/-- Pieces in chunks come out as they were, whatever stands behind. -/
theorem enc_back (ps : List (List UInt8)) (tail : List UInt8) (h : total ps ≤ 1048576) : run Dec.new (encL ps ++ tail) = (ps.flatten, (encL ps).length, 0, end4 (total ps) 0) := by
  have := enc_run ps 0 tail (by omega) (by omega)
  simpa [at0, Dec.new] using this
theorem enc_ahead : ∀ (ps : List (List UInt8)) (t : Int) (r : List UInt8), 0 ≤ t → t + total ps ≤ 1048576 → run (at0 t) (ps.flatMap encP ++ r) = ahead ps.flatten (ps.flatMap encP).length (run (at0 (t + total ps)) r) := by
  intro ps
  induction ps with
  | nil =>
    intro t r _ _
    simp only [List.flatMap_nil, List.nil_append, List.flatten_nil, List.length_nil, total, List.map_nil, List.sum_nil]
    rw [show t + ((0 : Nat) : Int) = t by omega, ahead_nil _ fun h => ⟨(run_err _ _ h).1, (run_err _ _ h).2.1⟩]
  | cons p ps ih =>
    intro t r h0 ht
    have htot : total (p :: ps) = p.length + total ps := by simp [total]
    rw [htot] at ht
    by_cases hp : p = []
    · subst hp
      have e : ([] :: ps).flatMap encP = ps.flatMap encP := by simp [encP]
      rw [e, ih t r h0 (by simp at ht; omega), htot]
      simp
    · have hpl : 0 < p.length := List.length_pos_iff.2 hp
      obtain ⟨s1, s2, s3⟩ := size_digs p.length hpl (by omega)
      have e : (p :: ps).flatMap encP ++ r = digs 16 64 p.length ++ 13 :: 10 :: (p ++ 13 :: 10 :: (ps.flatMap encP ++ r)) := by simp [encP, hp]
      rw [e, chunk_run s2 (by omega) s1 hp (by omega), ih (t + p.length) r (by omega) (by omega), ahead_ahead]
      have el : ((p :: ps).flatMap encP).length = (digs 16 64 p.length).length + p.length + 4 + (ps.flatMap encP).length := by simp [encP, hp]; omega
      rw [el, htot, List.flatten_cons]
      congr 3
      omega
/-- One octet too many. -/
theorem enc_long (ps : List (List UInt8)) (p : List UInt8) (r : List UInt8) (h : total ps ≤ 1048576) (hp : p ≠ []) (hl : p.length < 16 ^ 8) (ht : 1048576 < total ps + p.length) :
    (run Dec.new (ps.flatMap encP ++ encP p ++ r)).2.2.1 = 12 := by
  have hpl : 0 < p.length := List.length_pos_iff.2 hp
  obtain ⟨s1, s2, s3⟩ := size_digs p.length hpl hl
  have e := enc_ahead ps 0 (encP p ++ r) (by omega) (by omega)
  have h1 := lineC_of s2 (by omega) (p ++ 13 :: 10 :: r)
  have hE : encP p ++ r = digs 16 64 p.length ++ 13 :: 10 :: (p ++ 13 :: 10 :: r) := by simp [encP, hp]
  have h2 := run0_long (t := 0 + (total ps : Int)) h1 (by omega) (by rw [s1]; omega) (by rw [s1]; omega)
  rw [List.append_assoc]
  show (run (at0 0) _).2.2.1 = 12
  rw [e, hE, h2]
  rfl

/-! Noughts, extensions, a trailer. -/
def oddP (z p : List UInt8) : List UInt8 := if p = [] then [] else z ++ digs 16 64 p.length ++ [32, 59, 120, 61, 34, 121, 34, 13, 10] ++ p ++ [13, 10]
/-- "000;a", "x: y" -/
def oddEnd : List UInt8 := [48, 48, 48, 59, 97, 13, 10, 120, 58, 32, 121, 13, 10, 13, 10]
def oddL (z : List UInt8) (ps : List (List UInt8)) : List UInt8 := ps.flatMap (oddP z) ++ oddEnd
theorem hexVal_noughts (k : Nat) (l : List UInt8) : hexVal (List.replicate k 48 ++ l) 0 = hexVal l 0 := by
  induction k with
  | zero => rfl
  | succ k ih =>
    rw [List.replicate_succ, List.cons_append]
    show hexVal (List.replicate k 48 ++ l) (0 * 16 + dig 48) = _
    have : (0 : Int) * 16 + ((dig 48 : Nat) : Int) = 0 := by decide
    rw [this, ih]
theorem odd_size (k n : Nat) (hk : k ≤ 4) (h0 : 0 < n) (hn : n < 16 ^ 4) :
    sizeC (List.replicate k 48 ++ digs 16 64 n ++ [32, 59, 120, 61, 34, 121, 34]) = (n : Int) ∧ (∀ c ∈ List.replicate k 48 ++ digs 16 64 n ++ [32, 59, 120, 61, 34, 121, 34], c ≠ 10) ∧ (List.replicate k (48 : UInt8) ++ digs 16 64 n ++ [32, 59, 120, 61, 34, 121, 34]).length ≤ 15 := by
  have h2 : n < 2 ^ 63 := by omega
  obtain ⟨a1, a2, a3⟩ := hex_digs n h2
  have a4 := hexd_short 3 n hn h2
  have hz : (List.replicate k (48 : UInt8)).all isHex7 = true := by
    rw [List.all_eq_true]
    intro c hc
    rw [(List.mem_replicate.1 hc).2]; decide
  have hall : (List.replicate k (48 : UInt8) ++ digs 16 64 n).all isHex7 = true := by rw [List.all_append, hz, a1]; rfl
  have hne : List.replicate k (48 : UInt8) ++ digs 16 64 n ≠ [] := by
    intro e
    exact digs_ne 16 64 n (by omega) (List.append_eq_nil_iff.1 e).2
  have := sizeC_of (e := [32, 59, 120, 61, 34, 121, 34]) hall hne (by rw [List.length_append, List.length_replicate]; omega) (by decide) (by intro c hc; simp at hc; subst hc; decide)
  rw [hexVal_noughts, a2] at this
  refine ⟨this, ?_, by simp only [List.length_append, List.length_replicate, List.length_cons, List.length_nil]; omega⟩
  intro c hc
  simp only [List.mem_append] at hc
  rcases hc with (hc | hc) | hc
  · rw [(List.mem_replicate.1 hc).2]; decide
  · exact (a3 c hc).1
  · revert c; decide
theorem xy_parse : (parseFs ([120, 58, 32, 121] ++ [13, 10, 13, 10])).2.2 = 0 := by
  have := parse_print (fs := [([120], [121])]) (by decide) []
  have e : printL [([120], [121])] ++ [] = [120, 58, 32, 121] ++ [13, 10, 13, 10] := by decide
  rw [e] at this
  rw [this]
theorem odd_end (t : Int) (r : List UInt8) : run (at0 t) (oddEnd ++ r) = ([], 15, 0, end4 t 1) := by
  have hz : sizeC [48, 48, 48, 59, 97] = 0 := by decide
  have h1 := lineC_of (s := [48, 48, 48, 59, 97]) (by decide) (by decide) (120 :: 58 :: 32 :: 121 :: 13 :: 10 :: 13 :: 10 :: r)
  have h2 := lineC_of (s := [120, 58, 32, 121]) (by decide) (by decide) (13 :: 10 :: r)
  have h3 := lineC_of (s := []) (by decide) (by decide) r
  simp only [List.cons_append, List.nil_append, List.length_cons, List.length_nil, Nat.zero_add, Nat.reduceAdd] at h1 h2 h3
  show run (at0 t) (48 :: 48 :: 48 :: 59 :: 97 :: 13 :: 10 :: 120 :: 58 :: 32 :: 121 :: 13 :: 10 :: 13 :: 10 :: r) = _
  rw [run0_end h1 (by omega) hz]
  simp only [List.drop_succ_cons, List.drop_zero]
  rw [run3_field h2 (by omega) (by simp) xy_parse (by omega)]
  simp only [List.drop_succ_cons, List.drop_zero]
  rw [run3_end h3 (by omega)]
  rfl
theorem odd_run (k : Nat) (hk : k ≤ 4) : ∀ (ps : List (List UInt8)) (t : Int) (tail : List UInt8), 0 ≤ t → t + total ps ≤ 1048576 → (∀ p ∈ ps, p.length < 16 ^ 4) →
    run (at0 t) (oddL (List.replicate k 48) ps ++ tail) = (ps.flatten, (oddL (List.replicate k 48) ps).length, 0, end4 (t + total ps) 1) := by
  intro ps
  induction ps with
  | nil =>
    intro t tail _ _ _
    have := odd_end t tail
    simp only [oddL, List.flatMap_nil, List.nil_append]
    rw [this]
    simp [total, oddEnd]
  | cons p ps ih =>
    intro t tail h0 ht hq
    have htot : total (p :: ps) = p.length + total ps := by simp [total]
    rw [htot] at ht
    have hq' : ∀ p ∈ ps, p.length < 16 ^ 4 := fun x hx => hq x (by simp [hx])
    by_cases hp : p = []
    · subst hp
      have e : oddL (List.replicate k 48) ([] :: ps) = oddL (List.replicate k 48) ps := by simp [oddL, oddP]
      rw [e, ih t tail h0 (by simp at ht; omega) hq', htot]
      simp
    · have hpl : 0 < p.length := List.length_pos_iff.2 hp
      obtain ⟨s1, s2, s3⟩ := odd_size k p.length hk hpl (hq p (by simp))
      have e : oddL (List.replicate k 48) (p :: ps) ++ tail = (List.replicate k 48 ++ digs 16 64 p.length ++ [32, 59, 120, 61, 34, 121, 34]) ++ 13 :: 10 :: (p ++ 13 :: 10 :: (oddL (List.replicate k 48) ps ++ tail)) := by simp [oddL, oddP, hp]
      rw [e, chunk_run s2 (by omega) s1 hp (by omega), ih (t + p.length) tail (by omega) (by omega) hq']
      simp only [ahead, ne_eq, not_true_eq_false, if_false, List.flatten_cons]
      have el : (oddL (List.replicate k 48) (p :: ps)).length = (List.replicate k (48 : UInt8) ++ digs 16 64 p.length ++ [32, 59, 120, 61, 34, 121, 34]).length + p.length + 4 + (oddL (List.replicate k 48) ps).length := by simp [oddL, oddP, hp]; omega
      rw [el, htot]
      congr 4
      omega
theorem odd_back (k : Nat) (hk : k ≤ 4) (ps : List (List UInt8)) (tail : List UInt8) (h : total ps ≤ 1048576) (hq : ∀ p ∈ ps, p.length < 16 ^ 4) :
    run Dec.new (oddL (List.replicate k 48) ps ++ tail) = (ps.flatten, (oddL (List.replicate k 48) ps).length, 0, end4 (total ps) 1) := by
  have := odd_run k hk ps 0 tail (by omega) (by omega) hq
  simpa [at0, Dec.new] using this

/-! Octet by octet. -/
theorem singles (b : List UInt8) : (b.map fun c => [c]).flatten = b ∧ total (b.map fun c => [c]) = b.length ∧ (encL (b.map fun c => [c])).length = 6 * b.length + 5 := by
  induction b with
  | nil => exact ⟨rfl, rfl, rfl⟩
  | cons c b ih =>
    obtain ⟨h1, h2, h3⟩ := ih
    refine ⟨by rw [List.map_cons, List.flatten_cons, h1]; rfl, ?_, ?_⟩
    · simp only [total, List.map_cons, List.sum_cons, List.length_cons, List.length_nil] at h2 ⊢
      omega
    · have e : (encP [c]).length = 6 := by simp [encP]; decide
      simp only [encL, List.map_cons, List.flatMap_cons, List.length_append] at h3 ⊢
      simp only [List.length_cons, List.length_nil] at h3 ⊢
      omega

/-! Trailers. -/
theorem ab_parse : (parseFs ([97, 58, 32, 98] ++ [13, 10, 13, 10])).2.2 = 0 := by
  have := parse_print (fs := [([97], [98])]) (by decide) []
  have e : printL [([97], [98])] ++ [] = [97, 58, 32, 98] ++ [13, 10, 13, 10] := by decide
  rw [e] at this
  rw [this]
def abs6 (n : Nat) (r : List UInt8) : List UInt8 := match n with
  | 0 => r
  | n + 1 => 97 :: 58 :: 32 :: 98 :: 13 :: 10 :: abs6 n r
theorem trailers : ∀ (n : Nat) (t k : Int) (r : List UInt8), 0 ≤ k → (k + n ≤ 128 → (run (at3 t k) (abs6 n (13 :: 10 :: r))).2.2.1 = 0 ∧ (run (at3 t k) (abs6 n (13 :: 10 :: r))).2.2.2.w = 4) ∧ (128 < k + n → k ≤ 128 → (run (at3 t k) (abs6 n (13 :: 10 :: r))).2.2.1 = 13) := by
  intro n
  induction n with
  | zero =>
    intro t k r _
    have h3 := lineC_of (s := []) (by decide) (by decide) r
    simp only [List.nil_append, List.length_nil, Nat.zero_add] at h3
    refine ⟨fun _ => ?_, fun h1 h2 => by omega⟩
    show (run (at3 t k) (13 :: 10 :: r)).2.2.1 = 0 ∧ _
    unfold abs6
    rw [run3_end h3 (by omega)]
    exact ⟨rfl, rfl⟩
  | succ n ih =>
    intro t k r hk
    have h2 := lineC_of (s := [97, 58, 32, 98]) (by decide) (by decide) (abs6 n (13 :: 10 :: r))
    simp only [List.cons_append, List.nil_append, List.length_cons, List.length_nil, Nat.zero_add, Nat.reduceAdd] at h2
    have hu : abs6 (n + 1) (13 :: 10 :: r) = 97 :: 58 :: 32 :: 98 :: 13 :: 10 :: abs6 n (13 :: 10 :: r) := rfl
    rw [hu]
    rcases Int.lt_or_le 127 k with h | h
    · have := run3_many (t := t) h2 (by omega) (by simp) ab_parse (show 128 < k + 1 by omega)
      refine ⟨fun h1 => by omega, fun _ _ => this.1⟩
    · have := run3_field (t := t) h2 (by omega) (by simp) ab_parse (show k + 1 ≤ 128 by omega)
      simp only [List.drop_succ_cons, List.drop_zero] at this
      obtain ⟨i1, i2⟩ := ih t (k + 1) r (by omega)
      rw [this]
      constructor
      · intro h1
        obtain ⟨e1, e2⟩ := i1 (by omega)
        unfold ahead
        rw [if_neg (by simp [e1])]
        exact ⟨rfl, e2⟩
      · intro h1 _
        have e1 := i2 (by omega) (by omega)
        unfold ahead
        rw [if_pos (by simp [e1])]
        exact e1
end IH
