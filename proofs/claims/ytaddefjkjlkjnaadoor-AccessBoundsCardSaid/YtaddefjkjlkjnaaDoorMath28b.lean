/- Layer 28 in plain Lean: a line read (words up to the eighth blank), lines read; what was told as a line is read as itself. No program in sight; no condition. -/
import Derived.Test.YtaddefjkjlkjnaaDoorMath28
import Derived.Test.YtaddefjkjlkjnaaDoorPm
namespace IH
set_option maxRecDepth 100000

def w28 (k : Int) : List UInt8 :=
  if k = 1 then [104, 105, 116] else if k = 2 then [99, 104, 101, 99, 107] else if k = 3 then [114, 101, 108, 97, 121] else if k = 4 then [102, 97, 117, 108, 116] else if k = 5 then [98, 114, 101, 97, 107] else []
def dsh28 (s : List UInt8) : List UInt8 := if s = [] then [45] else s
def bare28 (s : List UInt8) : List UInt8 := if s = [45] then [] else s
def said28 (s : List UInt8) : Int := (numR 10 1099511627776 s).1
def kind28 (w : List UInt8) : Int := if w = w28 1 then 1 else if w = w28 2 then 2 else if w = w28 3 then 3 else if w = w28 4 then 4 else if w = w28 5 then 5 else 0
def dd10 (n : Int) : List UInt8 := digs 10 64 n.toNat
/-- A line, without its end. -/
def body28 (t : Reply) : List UInt8 :=
  dd10 t.moment ++ 32 :: (dd10 t.conn ++ 32 :: (w28 t.kind ++ 32 :: (dsh28 t.method ++ 32 :: (dsh28 t.uri ++ 32 :: (dd10 t.status ++ 32 :: (dd10 t.age ++ 32 :: (dd10 t.lines ++ 32 :: quote27 t.key)))))))
/-- Words up to the n-th blank, and what is behind it. -/
def cutN : Nat → List UInt8 → Option (List (List UInt8))
  | 0, s => some [s]
  | n + 1, s => match s.dropWhile (· != 32) with
    | [] => none
    | _ :: r => (cutN n r).map (s.takeWhile (· != 32) :: ·)
def told28 (p : List (List UInt8)) : Reply := match p with
  | [p0, p1, p2, p3, p4, p5, p6, p7, p8] =>
    { moment := said28 p0, conn := said28 p1, kind := kind28 p2, method := bare28 p3, uri := bare28 p4, status := said28 p5, age := said28 p6, lines := said28 p7, key := (unquote27 p8).1 }
  | _ => { moment := 0, conn := 0, kind := 0, method := [], uri := [], status := 0, age := 0, lines := 0, key := [] }
def num28 (n : Int) : Prop := 0 ≤ n ∧ n ≤ 1099511627776
/-- What may be told. -/
structure Fine28 (t : Reply) : Prop where
  k1 : 1 ≤ t.kind
  k5 : t.kind ≤ 5
  moment : num28 t.moment
  conn : num28 t.conn
  status : num28 t.status
  age : num28 t.age
  lines : num28 t.lines
  method : ∀ c ∈ t.method, c ≠ 32
  method1 : t.method ≠ [45]
  uri : ∀ c ∈ t.uri, c ≠ 32
  uri1 : t.uri ≠ [45]
theorem cutN_word {x : List UInt8} (hx : ∀ c ∈ x, c ≠ 32) (n : Nat) (r : List UInt8) : cutN (n + 1) (x ++ 32 :: r) = (cutN n r).map (x :: ·) := by
  have key : ∀ x : List UInt8, (∀ c ∈ x, c ≠ 32) → (x ++ 32 :: r).takeWhile (· != 32) = x ∧ (x ++ 32 :: r).dropWhile (· != 32) = 32 :: r := by
    intro x
    induction x with
    | nil => intro _; simp
    | cons c x ih =>
      intro h
      have h1 := h c (by simp)
      have h2 := ih fun d hd => h d (by simp [hd])
      simp [h1, h2.1, h2.2]
  obtain ⟨h1, h2⟩ := key x hx
  conv => lhs; unfold cutN
  rw [h1, h2]
theorem dd10_free (n : Int) (h : num28 n) : ∀ c ∈ dd10 n, c ≠ 32 ∧ c ≠ 10 := by
  intro c hc
  unfold num28 at h
  have := digs_dig n.toNat (by omega) c hc
  constructor <;> (intro e; subst e; revert this; decide)
theorem said_dd10 (n : Int) (h : num28 n) : said28 (dd10 n) = n := by
  unfold num28 at h
  unfold said28 dd10 numR
  rw [if_neg (digs_ne 10 64 n.toNat (by omega)), badDig_digs 10 (by omega) (by omega), accN_digs 10 (by omega) (by omega) 1099511627776 64 n.toNat (by omega) (by omega) (by omega)]
  simp [accR]
  omega
theorem w28_facts (k : Int) (h1 : 1 ≤ k) (h5 : k ≤ 5) : kind28 (w28 k) = k ∧ ∀ c ∈ w28 k, c ≠ 32 ∧ c ≠ 10 := by
  have : k = 1 ∨ k = 2 ∨ k = 3 ∨ k = 4 ∨ k = 5 := by omega
  rcases this with rfl | rfl | rfl | rfl | rfl <;> decide
theorem bare_dsh (s : List UInt8) (h : s ≠ [45]) : bare28 (dsh28 s) = s := by
  unfold bare28 dsh28
  by_cases h0 : s = []
  · simp [h0]
  · rw [if_neg h0, if_neg h]
theorem dsh_free (s : List UInt8) (h : ∀ c ∈ s, c ≠ 32) : ∀ c ∈ dsh28 s, c ≠ 32 := by
  unfold dsh28
  split
  · intro c hc; rw [List.mem_singleton] at hc; subst hc; decide
  · exact h
/-- What was told is read as itself. -/
theorem read_body {t : Reply} (h : Fine28 t) : ∃ p, cutN 8 (body28 t) = some p ∧ told28 p = t := by
  obtain ⟨k1, k2⟩ := w28_facts t.kind h.k1 h.k5
  have hq : unquote27 (quote27 t.key) = (t.key, ((quote27 t.key).length : Int), 0) := by
    have := unquote27_quote t.key []
    rw [List.append_nil] at this
    exact this
  refine ⟨[dd10 t.moment, dd10 t.conn, w28 t.kind, dsh28 t.method, dsh28 t.uri, dd10 t.status, dd10 t.age, dd10 t.lines, quote27 t.key], ?_, ?_⟩
  · unfold body28
    rw [cutN_word (fun c hc => (dd10_free _ h.moment c hc).1), cutN_word (fun c hc => (dd10_free _ h.conn c hc).1), cutN_word (fun c hc => (k2 c hc).1),
      cutN_word (dsh_free _ h.method), cutN_word (dsh_free _ h.uri), cutN_word (fun c hc => (dd10_free _ h.status c hc).1), cutN_word (fun c hc => (dd10_free _ h.age c hc).1),
      cutN_word (fun c hc => (dd10_free _ h.lines c hc).1)]
    rfl
  · obtain ⟨c, k, m, l, me, u, ke, st, ag⟩ := t
    simp only at *
    unfold told28
    simp only
    rw [said_dd10 _ h.moment, said_dd10 _ h.conn, k1, bare_dsh _ h.method1, bare_dsh _ h.uri1, said_dd10 _ h.status, said_dd10 _ h.age, said_dd10 _ h.lines, hq]
theorem body_noLF {t : Reply} (h : Fine28 t) (hm : ∀ c ∈ t.method, c ≠ 10) (hu : ∀ c ∈ t.uri, c ≠ 10) : ∀ c ∈ body28 t, c ≠ 10 := by
  obtain ⟨_, k2⟩ := w28_facts t.kind h.k1 h.k5
  have h32 : (32 : UInt8) ≠ 10 := by decide
  have hd : ∀ s : List UInt8, (∀ c ∈ s, c ≠ 10) → ∀ c ∈ dsh28 s, c ≠ 10 := by
    intro s hs
    unfold dsh28
    split
    · intro c hc; rw [List.mem_singleton] at hc; subst hc; decide
    · exact hs
  have hq : ∀ c ∈ quote27 t.key, c ≠ 10 := by
    intro c hc
    have hco : ∀ x : UInt8, ∀ c ∈ code x, c ≠ 10 := by
      intro x c hc
      have := all_bytes (fun x => (code x).all fun c => !(c == 10)) (by decide +kernel) x
      have := List.all_eq_true.1 this c hc
      simpa using this
    unfold quote27 at hc
    simp only [List.mem_cons, List.mem_append, List.mem_flatMap, List.not_mem_nil, or_false] at hc
    rcases hc with rfl | ⟨x, _, hc⟩ | rfl
    · decide
    · exact hco x c hc
    · decide
  intro c hc
  unfold body28 at hc
  simp only [List.mem_append, List.mem_cons] at hc
  rcases hc with hc | rfl | hc | rfl | hc | rfl | hc | rfl | hc | rfl | hc | rfl | hc | rfl | hc | rfl | hc
  · exact (dd10_free _ h.moment c hc).2
  · exact h32
  · exact (dd10_free _ h.conn c hc).2
  · exact h32
  · exact (k2 c hc).2
  · exact h32
  · exact hd _ hm c hc
  · exact h32
  · exact hd _ hu c hc
  · exact h32
  · exact (dd10_free _ h.status c hc).2
  · exact h32
  · exact (dd10_free _ h.age c hc).2
  · exact h32
  · exact (dd10_free _ h.lines c hc).2
  · exact h32
  · exact hq c hc

/-! Lines, read one behind the other. -/
section
variable (one : List UInt8 → Option Reply)
def readF : Nat → List UInt8 → List Reply → List Reply × Int × Int
  | 0, _, _ => ([], 0, 10)
  | f + 1, s, out =>
    if s = [] then (out, (out.length : Int), 0)
    else match cutLF s with
      | none => ([], ((out.length + 1 : Nat) : Int), 10)
      | some (line, rest) => match one line with
        | none => ([], ((out.length + 1 : Nat) : Int), 10)
        | some t => if 10000 ≤ out.length then ([], ((out.length + 1 : Nat) : Int), 13) else readF f rest (out ++ [t])
def readL (s : List UInt8) : List Reply × Int × Int := if 1048576 < s.length then ([], 0, 12) else readF one (s.length + 1) s []
theorem readF_more (f g : Nat) (s : List UInt8) (out : List Reply) (hf : s.length < f) (hg : s.length < g) : readF one f s out = readF one g s out := by
  induction f generalizing g s out with
  | zero => omega
  | succ f ih =>
    cases g with
    | zero => omega
    | succ g =>
      unfold readF
      split
      · rfl
      · cases hc : cutLF s with
        | none => rfl
        | some p =>
          obtain ⟨line, rest⟩ := p
          have h1 := congrArg List.length (cutLF_some hc).1
          rw [List.length_append, List.length_cons] at h1
          simp only
          cases one line with
          | none => rfl
          | some t =>
            simp only
            split
            · rfl
            · exact ih _ _ _ (by omega) (by omega)
variable (body : Reply → List UInt8)
theorem read_lines : ∀ (ts : List Reply) (f : Nat) (out : List Reply) (r : List UInt8), (∀ t ∈ ts, one (body t) = some t ∧ ∀ c ∈ body t, c ≠ 10) → out.length + ts.length ≤ 10000 →
    ((ts.flatMap fun t => body t ++ [10]) ++ r).length < f → ∃ g, r.length < g ∧ readF one f ((ts.flatMap fun t => body t ++ [10]) ++ r) out = readF one g r (out ++ ts) := by
  intro ts
  induction ts with
  | nil => intro f out r _ _ hf; exact ⟨f, by simpa using hf, by simp⟩
  | cons t ts ih =>
    intro f out r ht hl hf
    have e : ((t :: ts).flatMap fun t => body t ++ [10]) ++ r = body t ++ 10 :: ((ts.flatMap fun t => body t ++ [10]) ++ r) := by simp
    rw [e] at hf ⊢
    cases f with
    | zero => simp at hf
    | succ f =>
      obtain ⟨h1, h2⟩ := ht t (by simp)
      simp only [List.length_cons] at hl
      obtain ⟨g, hg, eq⟩ := ih f (out ++ [t]) r (fun x hx => ht x (by simp [hx])) (by simp; omega) (by simp only [List.length_append, List.length_cons] at hf ⊢; omega)
      refine ⟨g, hg, ?_⟩
      conv => lhs; unfold readF
      rw [if_neg (by simp), cutLF_of h2]
      simp only
      rw [h1]
      simp only
      rw [if_neg (by omega), eq]
      simp
theorem read_print {ts : List Reply} (ht : ∀ t ∈ ts, one (body t) = some t ∧ ∀ c ∈ body t, c ≠ 10) (hn : ts.length ≤ 10000) (hl : (ts.flatMap fun t => body t ++ [10]).length ≤ 1048576) :
    readL one (ts.flatMap fun t => body t ++ [10]) = (ts, (ts.length : Int), 0) := by
  unfold readL
  rw [if_neg (by omega)]
  obtain ⟨g, hg, e⟩ := read_lines one body ts ((ts.flatMap fun t => body t ++ [10]).length + 1) [] [] ht (by simpa using hn) (by simp)
  rw [List.append_nil] at e
  rw [e]
  cases g with
  | zero => omega
  | succ g => unfold readF; rw [if_pos rfl]; rfl
theorem read_many {ts : List Reply} (ht : ∀ t ∈ ts, one (body t) = some t ∧ ∀ c ∈ body t, c ≠ 10) (hn : 10000 < ts.length) (hl : (ts.flatMap fun t => body t ++ [10]).length ≤ 1048576) :
    readL one (ts.flatMap fun t => body t ++ [10]) = ([], 10001, 13) := by
  obtain ⟨d, r, hr⟩ : ∃ d r, ts.drop 10000 = d :: r := by
    cases h : ts.drop 10000 with
    | nil => have := congrArg List.length h; rw [List.length_drop] at this; simp at this; omega
    | cons d r => exact ⟨d, r, rfl⟩
  have hs : ts = ts.take 10000 ++ d :: r := by rw [← hr, List.take_append_drop]
  obtain ⟨h1, h2⟩ := ht d (by rw [hs]; simp)
  have hlen : (ts.take 10000).length = 10000 := by rw [List.length_take]; omega
  have he : (ts.flatMap fun t => body t ++ [10]) = ((ts.take 10000).flatMap fun t => body t ++ [10]) ++ (body d ++ 10 :: (r.flatMap fun t => body t ++ [10])) := by
    conv => lhs; rw [hs]
    simp
  unfold readL
  rw [if_neg (by omega), he]
  obtain ⟨g, hg, e⟩ := read_lines one body (ts.take 10000) ((((ts.take 10000).flatMap fun t => body t ++ [10]) ++ (body d ++ 10 :: (r.flatMap fun t => body t ++ [10]))).length + 1) [] (body d ++ 10 :: (r.flatMap fun t => body t ++ [10]))
    (fun x hx => ht x (List.mem_of_mem_take hx)) (by rw [hlen]; simp) (by omega)
  rw [e]
  cases g with
  | zero => omega
  | succ g =>
    unfold readF
    rw [if_neg (by simp), cutLF_of h2]
    simp only
    rw [h1]
    simp only
    rw [List.nil_append, hlen, if_pos (by omega)]
    rfl
end
end IH
