/- Layer 5 in plain Lean: hosts and ports, URIs, where references lead; a URI's own text is read as it. No program in sight; no condition. -/
import Derived.Test.YtaddefjkjlkjnaaDoorTgt1
namespace IH
set_option maxRecDepth 100000

instance : DecidableEq Uri := fun a b => by
  cases a; cases b
  simp only [Uri.mk.injEq]
  exact inferInstance
def unmark (c : UInt8) : Bool := c != 58 && c != 93
/-- A host, and what stands behind its last colon. -/
def splitHost (s : List UInt8) : List UInt8 × List UInt8 :=
  match s.reverse.dropWhile unmark with
  | [] => (s, [])
  | c :: r => if c = 58 then (r.reverse, (s.reverse.takeWhile unmark).reverse) else (s, [])
def hostC (c : UInt8) : Bool := free5 c || isSub c
def innC (c : UInt8) : Bool := isHex c || c == 58 || c == 46
def hostOk (h : List UInt8) : Bool := match h with
  | [] => false
  | c :: r => if c = 91 then r.getLast? == some 93 && decide (2 ≤ r.length) && r.dropLast.all innC else (c :: r).all hostC
def seatL (s : List UInt8) : Option (List UInt8 × Int) :=
  if hostOk (splitHost s).1 = true then
    if (splitHost s).2 = [] then some (lower (splitHost s).1, 80)
    else if (numR 10 65535 (splitHost s).2).2 = 0 ∧ (splitHost s).2.length ≤ 5 then some (lower (splitHost s).1, (numR 10 65535 (splitHost s).2).1) else none
  else none
def zeroU : Uri := ⟨[], 0, []⟩
def http7 : List UInt8 := [104, 116, 116, 112, 58, 47, 47]
def begins5 (s : List UInt8) : Bool := decide (7 ≤ s.length) && (lower (s.take 7) == http7)
def offC (c : UInt8) : Bool := c != 47 && c != 63
def joinU (x : Option (List UInt8 × Int)) (y : Option (List UInt8)) : Uri × Int :=
  match x, y with
  | some (h, n), some p => (⟨h, n, p⟩, 0)
  | _, _ => (zeroU, 10)
def parseU (s : List UInt8) : Uri × Int :=
  if 8000 < s.length then (zeroU, 12) else if begins5 s = true then joinU (seatL ((s.drop 7).takeWhile offC)) (placeL ((s.drop 7).dropWhile offC)) else (zeroU, 10)
def ofU (t host : List UInt8) : Uri × Int :=
  if 8000 < t.length ∨ 8000 < host.length then (zeroU, 12)
  else if (seatL host).isNone = true then (zeroU, 10)
  else if t.head? = some 47 then joinU (seatL host) (placeL t) else parseU t
def printU (u : Uri) : List UInt8 := http7 ++ u.host ++ (if u.port = 80 then [] else 58 :: printN u.port 10) ++ u.path
/-- Is there a scheme? -/
def schemed (s : List UInt8) : Bool := (s.takeWhile offC).any (· == 58)
def upSlash (p : List UInt8) : List UInt8 := (p.reverse.dropWhile (· != 47)).reverse
def resolveU (u : Uri) (ref : List UInt8) : Uri × Int :=
  if parseU (printU u) ≠ (u, 0) then (zeroU, 2)
  else if 8000 < ref.length then (zeroU, 12)
  else if ref = [] then (u, 0)
  else if begins5 ref = true then parseU ref
  else if ref.take 2 = [47, 47] then parseU ([104, 116, 116, 112, 58] ++ ref)
  else if ref.head? = some 47 then joinU (some (u.host, u.port)) (placeL ref)
  else if ref.head? = some 63 then joinU (some (u.host, u.port)) (placeL (u.path.takeWhile (· != 63) ++ ref))
  else if schemed ref = true then (zeroU, 10)
  else joinU (some (u.host, u.port)) (placeL (upSlash (u.path.takeWhile (· != 63)) ++ ref))

theorem take_drop_of {p : UInt8 → Bool} {x r : List UInt8} (hx : ∀ c ∈ x, p c = true) (hr : ∀ c, r.head? = some c → p c = false) : (x ++ r).takeWhile p = x ∧ (x ++ r).dropWhile p = r := by
  induction x with
  | nil =>
    cases r with
    | nil => simp
    | cons c r => simp [hr c rfl]
  | cons c x ih =>
    have h2 := ih fun e he => hx e (by simp [he])
    simp [hx c (by simp), h2.1, h2.2]
theorem split_colon (h t : List UInt8) (ht : ∀ c ∈ t, unmark c = true) : splitHost (h ++ 58 :: t) = (h, t) := by
  have e : (h ++ 58 :: t).reverse = t.reverse ++ 58 :: h.reverse := by simp
  obtain ⟨h1, h2⟩ := take_drop_of (p := unmark) (x := t.reverse) (r := 58 :: h.reverse) (fun c hc => ht c (by simpa using hc)) (by intro c hc; simp at hc; subst hc; decide)
  unfold splitHost
  rw [e, h1, h2]
  simp
theorem split_other (h t : List UInt8) (ht : ∀ c ∈ t, unmark c = true) : splitHost (h ++ 93 :: t) = (h ++ 93 :: t, []) := by
  have e : (h ++ 93 :: t).reverse = t.reverse ++ 93 :: h.reverse := by simp
  obtain ⟨h1, h2⟩ := take_drop_of (p := unmark) (x := t.reverse) (r := 93 :: h.reverse) (fun c hc => ht c (by simpa using hc)) (by intro c hc; simp at hc; subst hc; decide)
  unfold splitHost
  rw [e, h2]
  simp
theorem split_none (s : List UInt8) (hs : ∀ c ∈ s, unmark c = true) : splitHost s = (s, []) := by
  have e : s.reverse.dropWhile unmark = [] := by
    have := take_drop_of (p := unmark) (x := s.reverse) (r := []) (fun c hc => hs c (by simpa using hc)) (by simp)
    simpa using this.2
  unfold splitHost
  rw [e]
theorem lower_byte (c : UInt8) : free5 (lowerC c) = free5 c ∧ isSub (lowerC c) = isSub c ∧ isHex (lowerC c) = isHex c ∧ (lowerC c == 58) = (c == 58) ∧ (lowerC c == 46) = (c == 46) ∧ (lowerC c == 91) = (c == 91) ∧ (lowerC c == 93) = (c == 93) ∧ lowerC (lowerC c) = lowerC c := by
  have := all_bytes (fun c => free5 (lowerC c) == free5 c && isSub (lowerC c) == isSub c && isHex (lowerC c) == isHex c && (lowerC c == 58) == (c == 58) && (lowerC c == 46) == (c == 46) && (lowerC c == 91) == (c == 91) && (lowerC c == 93) == (c == 93) && lowerC (lowerC c) == lowerC c) (by decide +kernel) c
  simp only [Bool.and_eq_true, beq_iff_eq] at this
  obtain ⟨⟨⟨⟨⟨⟨⟨h1, h2⟩, h3⟩, h4⟩, h5⟩, h6⟩, h7⟩, h8⟩ := this
  exact ⟨h1, h2, h3, h4, h5, h6, h7, h8⟩
theorem lower_again (l : List UInt8) : lower (lower l) = lower l := by
  unfold lower
  rw [List.map_map]
  exact List.map_congr_left fun c _ => (lower_byte c).2.2.2.2.2.2.2
theorem all_lower (p : UInt8 → Bool) (hp : ∀ c, p (lowerC c) = p c) (l : List UInt8) : (lower l).all p = l.all p := by
  induction l with
  | nil => rfl
  | cons c l ih => simp only [lower, List.map_cons, List.all_cons] at *; rw [hp, ih]
theorem hostOk_lower (h : List UInt8) : hostOk (lower h) = hostOk h := by
  cases h with
  | nil => rfl
  | cons c r =>
    have hl : lower (c :: r) = lowerC c :: lower r := rfl
    have h1 : (lowerC c = 91) ↔ (c = 91) := by
      have := (lower_byte c).2.2.2.2.2.1
      rw [← beq_iff_eq (a := lowerC c), ← beq_iff_eq (a := c), this]
    rw [hl]
    unfold hostOk
    simp only
    by_cases hc : c = 91
    · rw [if_pos hc, if_pos (h1.2 hc)]
      have e1 : ((lower r).getLast? == some 93) = (r.getLast? == some 93) := by
        unfold lower
        rw [List.getLast?_map]
        cases r.getLast? with
        | none => rfl
        | some d =>
          have := (lower_byte d).2.2.2.2.2.2.1
          simpa using this
      have e2 : (lower r).dropLast = lower r.dropLast := by unfold lower; rw [List.map_dropLast]
      have e3 : (lower r).length = r.length := by simp [lower]
      rw [e1, e2, e3, all_lower innC]
      intro d
      obtain ⟨_, _, a, b, e, _⟩ := lower_byte d
      simp only [innC, a, b, e]
    · rw [if_neg hc, if_neg (fun e => hc (h1.1 e)), ← hl, all_lower hostC]
      intro d
      obtain ⟨a, b, _⟩ := lower_byte d
      simp only [hostC, a, b]
structure HostN (h : List UInt8) : Prop where
  ok : hostOk h = true
  low : lower h = h
theorem seat_host {s h : List UInt8} {n : Int} (e : seatL s = some (h, n)) : HostN h ∧ 0 ≤ n ∧ n ≤ 65535 := by
  unfold seatL at e
  split at e
  · rename_i ho
    have hn : HostN (lower (splitHost s).1) := ⟨by rw [hostOk_lower]; exact ho, lower_again _⟩
    split at e
    · simp only [Option.some.injEq, Prod.mk.injEq] at e
      rw [← e.1, ← e.2]
      exact ⟨hn, by omega, by omega⟩
    · split at e
      · rename_i hne hc
        simp only [Option.some.injEq, Prod.mk.injEq] at e
        rw [← e.1, ← e.2]
        refine ⟨hn, ?_⟩
        have hr := hc.1
        unfold numR at hr ⊢
        rw [if_neg hne] at hr ⊢
        by_cases hb : badDig 10 (splitHost s).2 = true
        · rw [if_pos hb] at hr; simp at hr
        · rw [if_neg hb, if_neg (by omega)] at hr ⊢
          cases ha : accN 10 65535 0 (splitHost s).2 with
          | none => rw [ha] at hr; simp [accR] at hr
          | some m =>
            have := accN_bound 10 (by omega) 65535 0 m _ ha (by omega) (by omega)
            simpa [accR] using this
      · cases e
  · cases e
theorem split_length (s : List UInt8) : (splitHost s).1.length ≤ s.length := by
  unfold splitHost
  split
  · exact Nat.le_refl _
  · rename_i c r hr
    split
    · have := (List.dropWhile_suffix (p := unmark) (l := s.reverse)).length_le
      rw [hr] at this
      simp at this ⊢
      omega
    · exact Nat.le_refl _
theorem seat_length {s h : List UInt8} {n : Int} (e : seatL s = some (h, n)) : h.length ≤ s.length := by
  have hs := split_length s
  unfold seatL at e
  split at e
  · split at e
    · simp only [Option.some.injEq, Prod.mk.injEq] at e
      rw [← e.1]; simpa [lower] using hs
    · split at e
      · simp only [Option.some.injEq, Prod.mk.injEq] at e
        rw [← e.1]; simpa [lower] using hs
      · cases e
  · cases e
theorem host_byte (c : UInt8) : (hostC c = true → unmark c = true ∧ offC c = true) ∧ (innC c = true → offC c = true) := by
  have := all_bytes (fun c => (!hostC c || (unmark c && offC c)) && (!innC c || offC c)) (by decide +kernel) c
  simp only [Bool.and_eq_true, Bool.or_eq_true, Bool.not_eq_true'] at this
  obtain ⟨h1, h2⟩ := this
  constructor
  · intro h; rw [h] at h1; simpa using h1
  · intro h; rw [h] at h2; simpa using h2
theorem host_shape {h : List UInt8} (ho : hostOk h = true) : (∀ c ∈ h, offC c = true) ∧ ((∀ c ∈ h, unmark c = true) ∨ ∃ x, h = x ++ [93]) := by
  cases h with
  | nil => cases ho
  | cons c r =>
    unfold hostOk at ho
    simp only at ho
    split at ho
    · rename_i hc
      simp only [Bool.and_eq_true, beq_iff_eq, decide_eq_true_eq, List.all_eq_true] at ho
      obtain ⟨⟨h1, h2⟩, h3⟩ := ho
      obtain ⟨y, hy⟩ : ∃ y, r = y ++ [93] := by
        rcases List.eq_nil_or_concat r with rfl | ⟨y, d, rfl⟩
        · cases h1
        · rw [List.concat_eq_append, List.getLast?_append] at h1
          simp at h1
          exact ⟨y, by rw [List.concat_eq_append, h1]⟩
      subst hy
      rw [List.dropLast_concat] at h3
      refine ⟨?_, .inr ⟨c :: y, rfl⟩⟩
      intro d hd
      simp only [List.mem_cons, List.mem_append, List.not_mem_nil, or_false] at hd
      rcases hd with rfl | hd | rfl
      · rw [hc]; decide
      · exact (host_byte d).2 (h3 d hd)
      · decide
    · rw [List.all_eq_true] at ho
      exact ⟨fun d hd => ((host_byte d).1 (ho d hd)).2, .inl fun d hd => ((host_byte d).1 (ho d hd)).1⟩
theorem digs_short (k : Nat) : ∀ n : Nat, n < 10 ^ (k + 1) → n < 2 ^ 63 → (digs 10 64 n).length ≤ k + 1 := by
  induction k with
  | zero => intro n h _; rw [digs_small _ _ (by simpa using h)]; simp
  | succ k ih =>
    intro n h hn
    rcases Nat.lt_or_ge n 10 with h10 | h10
    · rw [digs_small _ _ h10]; simp
    · rw [digs_step 10 (by omega) n hn h10, List.length_append]
      have := ih (n / 10) (by rw [Nat.pow_succ] at h; omega) (by omega)
      simp; omega
theorem digC_unmark (n : Nat) (h : n < 10) : unmark (digC n) = true ∧ offC (digC n) = true := by
  have := List.all_eq_true.1 (show ((List.range 10).all fun n => unmark (digC n) && offC (digC n)) = true by decide +kernel) n (List.mem_range.2 h)
  simpa using this
theorem digs_mem (n : Nat) (hn : n < 2 ^ 63) : ∀ c ∈ digs 10 64 n, unmark c = true ∧ offC c = true := by
  induction n using Nat.strongRecOn with
  | _ n ih =>
    intro c hc
    rcases Nat.lt_or_ge n 10 with h10 | h10
    · rw [digs_small _ _ h10, List.mem_singleton] at hc
      subst hc; exact digC_unmark n h10
    · rw [digs_step 10 (by omega) n hn h10, List.mem_append, List.mem_singleton] at hc
      rcases hc with hc | rfl
      · exact ih (n / 10) (by omega) (by omega) c hc
      · exact digC_unmark _ (Nat.mod_lt _ (by omega))
theorem port_digs {n : Int} (h0 : 0 ≤ n) (h1 : n ≤ 65535) : printN n 10 = digs 10 64 n.toNat ∧ printN n 10 ≠ [] ∧ numR 10 65535 (printN n 10) = (n, 0) ∧ (printN n 10).length ≤ 5 ∧ ∀ c ∈ printN n 10, unmark c = true ∧ offC c = true := by
  have e : printN n 10 = digs 10 64 n.toNat := by unfold printN baseOf; rw [if_neg (by omega)]
  rw [e]
  have hne := digs_ne 10 64 n.toNat (by omega)
  refine ⟨rfl, hne, ?_, digs_short 4 n.toNat (by omega) (by omega), digs_mem n.toNat (by omega)⟩
  unfold numR
  rw [if_neg hne, badDig_digs 10 (by omega) (by omega), accN_digs 10 (by omega) (by omega) 65535 64 n.toNat (by omega) (by omega) (by omega)]
  simp [accR]
  omega
theorem seat_of {h : List UInt8} {n : Int} (hh : HostN h) (h0 : 0 ≤ n) (h1 : n ≤ 65535) : seatL (h ++ if n = 80 then [] else 58 :: printN n 10) = some (h, n) := by
  obtain ⟨hs1, hs2⟩ := host_shape hh.ok
  by_cases hn : n = 80
  · rw [if_pos hn, List.append_nil]
    have e : splitHost h = (h, []) := by
      rcases hs2 with hs2 | ⟨x, rfl⟩
      · exact split_none h hs2
      · exact split_other x [] (fun c hc => by cases hc)
    unfold seatL
    rw [e]
    simp only
    rw [if_pos hh.ok, if_pos trivial, hh.low, hn]
  · rw [if_neg hn]
    obtain ⟨_, p1, p2, p3, p4⟩ := port_digs h0 h1
    have e := split_colon h (printN n 10) (fun c hc => (p4 c hc).1)
    unfold seatL
    rw [e]
    simp only
    rw [if_pos hh.ok, if_neg p1, if_pos ⟨by rw [p2], p3⟩, hh.low, p2]
structure NormalU (u : Uri) : Prop where
  host : HostN u.host
  p0 : 0 ≤ u.port
  p1 : u.port ≤ 65535
  path : Normal u.path
theorem parse_printU {u : Uri} (h : NormalU u) (hl : (printU u).length ≤ 8000) : parseU (printU u) = (u, 0) := by
  obtain ⟨hh, h0, h1, hp⟩ := h
  obtain ⟨hs1, _⟩ := host_shape hh.ok
  obtain ⟨_, _, _, _, p4⟩ := port_digs h0 h1
  have e : printU u = http7 ++ ((u.host ++ if u.port = 80 then [] else 58 :: printN u.port 10) ++ u.path) := by simp [printU]
  have hoff : ∀ c ∈ (u.host ++ if u.port = 80 then [] else 58 :: printN u.port 10), offC c = true := by
    intro c hc
    rcases List.mem_append.1 hc with hc | hc
    · exact hs1 c hc
    · split at hc
      · cases hc
      · rcases List.mem_cons.1 hc with rfl | hc
        · decide
        · exact (p4 c hc).2
  obtain ⟨t1, t2⟩ := take_drop_of hoff (r := u.path) (by intro c hc; rw [hp.head] at hc; simp at hc; subst hc; decide)
  have hb : begins5 (printU u) = true := by
    rw [e]
    unfold begins5
    rw [List.take_left' (by rfl)]
    simp [http7]
    decide
  have hd : (printU u).drop 7 = (u.host ++ if u.port = 80 then [] else 58 :: printN u.port 10) ++ u.path := by rw [e, List.drop_left' (by rfl)]
  unfold parseU
  rw [if_neg (by omega), if_pos hb, hd, t1, t2, seat_of hh h0 h1, hp.self]
  rfl
theorem joinU_ok {x : Option (List UInt8 × Int)} {y : Option (List UInt8)} {u : Uri} (h : joinU x y = (u, 0)) : x = some (u.host, u.port) ∧ y = some u.path := by
  unfold joinU at h
  split at h
  · simp only [Prod.mk.injEq, and_true] at h
    subst h
    exact ⟨rfl, rfl⟩
  · simp at h
theorem joinU_err (x : Option (List UInt8 × Int)) (y : Option (List UInt8)) : (joinU x y).2 = 0 ∨ joinU x y = (zeroU, 10) := by
  unfold joinU
  split
  · exact .inl rfl
  · exact .inr rfl
theorem parseU_err (s : List UInt8) : (parseU s).2 = 0 ∨ (parseU s).1 = zeroU := by
  unfold parseU
  split
  · exact .inr rfl
  · split
    · rcases joinU_err (seatL ((s.drop 7).takeWhile offC)) (placeL ((s.drop 7).dropWhile offC)) with h | h
      · exact .inl h
      · exact .inr (by rw [h])
    · exact .inr rfl
theorem parseU_normal {s : List UInt8} {u : Uri} (h : parseU s = (u, 0)) : NormalU u ∧ u.host.length ≤ s.length ∧ u.path.length ≤ s.length ∧ u.host.length + u.path.length ≤ s.length ∧ s.length ≤ 8000 := by
  unfold parseU at h
  split at h
  · simp at h
  · rename_i hl
    split at h
    · rename_i hb
      obtain ⟨h1, h2⟩ := joinU_ok h
      obtain ⟨a, b, c⟩ := seat_host h1
      have l1 := seat_length h1
      have l2 := place_length h2
      have l3 := congrArg List.length (List.takeWhile_append_dropWhile (p := offC) (l := s.drop 7))
      rw [List.length_append, List.length_drop] at l3
      simp only [begins5, Bool.and_eq_true, decide_eq_true_eq] at hb
      refine ⟨⟨a, b, c, place_normal h2⟩, by omega, by omega, by omega, by omega⟩
    · simp at h
theorem ofU_normal {t s : List UInt8} {u : Uri} (h : ofU t s = (u, 0)) : NormalU u ∧ u.host.length + u.path.length ≤ t.length + s.length + 1 := by
  unfold ofU at h
  split at h
  · simp at h
  · split at h
    · simp at h
    · split at h
      · obtain ⟨h1, h2⟩ := joinU_ok h
        obtain ⟨a, b, c⟩ := seat_host h1
        have l1 := seat_length h1
        have l2 := place_length h2
        exact ⟨⟨a, b, c, place_normal h2⟩, by omega⟩
      · obtain ⟨h1, _, _, h4, _⟩ := parseU_normal h
        exact ⟨h1, by omega⟩
theorem printU_length {u : Uri} (h0 : 0 ≤ u.port) (h1 : u.port ≤ 65535) : (printU u).length ≤ 13 + u.host.length + u.path.length := by
  obtain ⟨_, _, _, p3, _⟩ := port_digs h0 h1
  unfold printU
  simp only [List.length_append]
  have : http7.length = 7 := rfl
  have : (if u.port = 80 then [] else 58 :: printN u.port 10).length ≤ 6 := by
    split
    · simp
    · simp; omega
  omega
end IH
