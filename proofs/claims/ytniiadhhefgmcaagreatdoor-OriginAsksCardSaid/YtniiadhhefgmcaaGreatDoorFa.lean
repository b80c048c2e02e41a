/- Fa: several texts, one behind the other. -/
import Derived.Test.YtniiadhhefgmcaaGreatDoorPm
import Derived.Test.YtniiadhhefgmcaaGreatDoorKt
/- Layer 3 in plain Lean: fields, a header's lines, what a name has. No condition. -/
namespace IH
set_option maxRecDepth 100000

/-- A field: its name, its value. -/
abbrev Fld := List UInt8 × List UInt8
def fit (f : Fld) : Bool := token f.1 && value f.2
/-- Where the first CR LF stands. -/
def crAt : List UInt8 → Option Nat
  | [] => none
  | c :: r => if c = 13 ∧ r.head? = some 10 then some 0 else (crAt r).map (· + 1)
/-- A line from a place on, in octets of which there are N: the line; or the error. -/
def lineF (N a : Nat) (rest : List UInt8) : Option (List UInt8) × Int :=
  match crAt rest with
  | none => (none, if 65536 < N ∨ 65536 < a + 1 then 12 else 11)
  | some n => if 65536 < a + n + 2 then (none, 12) else (some (rest.take n), 0)
/-- A line's field. -/
def headF (s : List UInt8) : Option Fld :=
  if 58 ∈ s then
    let f : Fld := (s.takeWhile (· != 58), trim ((s.dropWhile (· != 58)).drop 1))
    if fit f = true then some f else none
  else none
def parseF : Nat → Nat → Nat → List UInt8 → List Fld → List Fld × Int × Int
  | 0, _, _, _, _ => ([], 0, 11)
  | k + 1, N, a, rest, out =>
    match lineF N a rest with
    | (none, e) => ([], 0, e)
    | (some s, _) =>
      if s = [] then (out, ((a + 2 : Nat) : Int), 0)
      else match headF s with
        | none => ([], 0, 10)
        | some f => if out.length = 128 then ([], 0, 13) else parseF k N (a + s.length + 2) (rest.drop (s.length + 2)) (out ++ [f])
def parseFs (b : List UInt8) : List Fld × Int × Int := parseF (b.length + 1) b.length 0 b []

def line1 (f : Fld) : List UInt8 := f.1 ++ [58, 32] ++ f.2 ++ [13, 10]
def printL (fs : List Fld) : List UInt8 := fs.flatMap line1 ++ [13, 10]
def sizeL (fs : List Fld) : Nat := (fs.map fun f => f.1.length + f.2.length + 4).sum + 2
def faultL (fs : List Fld) : Int := if fs.any (fun f => !fit f) then 10 else if 128 < fs.length then 13 else if 65536 < sizeL fs then 12 else 0

def isN (f : Fld) (name : List UInt8) : Bool := lower f.1 == lower name
def getL (fs : List Fld) (name : List UInt8) : List (List UInt8) := (fs.filter fun f => isN f name).map (·.2)
def withoutL (fs : List Fld) (names : List (List UInt8)) : List Fld := fs.filter fun f => !names.any fun n => isN f n
theorem crAt_le {l : List UInt8} {n : Nat} (h : crAt l = some n) : n + 2 ≤ l.length := by
  induction l generalizing n with
  | nil => simp [crAt] at h
  | cons c r ih =>
    unfold crAt at h
    split at h
    · rename_i hc
      cases r with
      | nil => simp at hc
      | cons d r => simp at h ⊢; omega
    · cases hr : crAt r with
      | none => rw [hr] at h; simp at h
      | some k => rw [hr] at h; simp at h; have := ih hr; simp; omega
theorem lineF_le {N a : Nat} {l s : List UInt8} {e : Int} (h : lineF N a l = (some s, e)) : s.length + 2 ≤ l.length := by
  unfold lineF at h
  split at h
  · simp at h
  · rename_i n hn
    have := crAt_le hn
    split at h
    · simp at h
    · simp only [Prod.mk.injEq, Option.some.injEq] at h
      rw [← h.1, List.length_take]; omega
theorem parseF_more (j k N a : Nat) (rest : List UInt8) (out : List Fld) (hj : rest.length < j) (hk : rest.length < k) : parseF j N a rest out = parseF k N a rest out := by
  induction j generalizing k a rest out with
  | zero => omega
  | succ j ih =>
    cases k with
    | zero => omega
    | succ k =>
      unfold parseF
      cases hl : lineF N a rest with
      | mk s e =>
        cases s with
        | none => rfl
        | some s =>
          simp only
          have hle := lineF_le hl
          split
          · rfl
          · cases headF s with
            | none => rfl
            | some f =>
              simp only
              split
              · rfl
              · exact ih _ _ _ _ (by rw [List.length_drop]; omega) (by rw [List.length_drop]; omega)

/-! What is printed is read. -/
theorem crAt_append {x r : List UInt8} (h : ∀ c ∈ x, c ≠ 13) : crAt (x ++ 13 :: 10 :: r) = some x.length := by
  induction x with
  | nil => simp [crAt]
  | cons c x ih =>
    have h1 : c ≠ 13 := h c (by simp)
    have h2 := ih fun d hd => h d (by simp [hd])
    rw [List.cons_append]
    unfold crAt
    rw [if_neg (by simp [h1]), h2]; simp
theorem plain_no13 {l : List UInt8} (h : allOf isPlain l = true) : ∀ c ∈ l, c ≠ 13 := by
  intro c hc e
  subst e
  have := List.all_eq_true.1 h _ hc
  simp [isPlain] at this
theorem tchar_not {c : UInt8} (h : isTchar c = true) : c ≠ 13 ∧ c ≠ 58 := by
  constructor <;> (intro e; subst e; revert h; decide)
theorem takeWhile_to {x r : List UInt8} {d : UInt8} (h : ∀ c ∈ x, c ≠ d) : (x ++ d :: r).takeWhile (· != d) = x ∧ (x ++ d :: r).dropWhile (· != d) = d :: r := by
  induction x with
  | nil => simp
  | cons c x ih =>
    have h1 : c ≠ d := h c (by simp)
    have h2 := ih fun e he => h e (by simp [he])
    simp [h1, h2.1, h2.2]
theorem trim_sp (v : List UInt8) (h : trim v = v) : trim (32 :: v) = v := by
  unfold trim at *
  rw [← trim_comm, trimL_blank (by decide), trim_comm]
  exact h
theorem headF_line {f : Fld} (h : fit f = true) : headF (f.1 ++ [58, 32] ++ f.2) = some f := by
  have hf := h
  simp only [fit, token, value, Bool.and_eq_true] at hf
  obtain ⟨⟨_, ht⟩, _, hv⟩ := hf
  have hn : ∀ c ∈ f.1, c ≠ 58 := fun c hc => (tchar_not (List.all_eq_true.1 ht c hc)).2
  have e : f.1 ++ [58, 32] ++ f.2 = f.1 ++ 58 :: (32 :: f.2) := by simp
  unfold headF
  rw [e, if_pos (by simp), (takeWhile_to hn).1, (takeWhile_to hn).2]
  simp only [List.drop_succ_cons, List.drop_zero]
  rw [trim_sp _ (by simpa using hv)]
  rw [if_pos h]
theorem line_no13 {f : Fld} (h : fit f = true) : ∀ c ∈ f.1 ++ [58, 32] ++ f.2, c ≠ 13 := by
  simp only [fit, token, value, Bool.and_eq_true] at h
  obtain ⟨⟨_, ht⟩, hp, _⟩ := h
  intro c hc
  simp only [List.mem_append, List.mem_cons, List.not_mem_nil, or_false] at hc
  rcases hc with (hc | rfl | rfl) | hc
  · exact (tchar_not (List.all_eq_true.1 ht c hc)).1
  · decide
  · decide
  · exact plain_no13 hp c hc
theorem sizeL_cons (f : Fld) (fs : List Fld) : sizeL (f :: fs) = f.1.length + f.2.length + 4 + sizeL fs := by simp [sizeL]; omega
theorem printL_cons (f : Fld) (fs : List Fld) : printL (f :: fs) = line1 f ++ printL fs := by simp [printL]
theorem printL_length (fs : List Fld) : (printL fs).length = sizeL fs := by
  induction fs with
  | nil => rfl
  | cons f fs ih => rw [printL_cons, sizeL_cons, List.length_append, ih]; simp [line1]; omega
theorem parse_print_go (fs : List Fld) : ∀ (k N a : Nat) (tail : List UInt8) (out : List Fld), (∀ f ∈ fs, fit f = true) → out.length + fs.length ≤ 128 → a + sizeL fs ≤ 65536 → fs.length < k →
    parseF k N a (printL fs ++ tail) out = (out ++ fs, ((a + sizeL fs : Nat) : Int), 0) := by
  induction fs with
  | nil =>
    intro k N a tail out _ _ hs hk
    cases k with
    | zero => simp at hk
    | succ k =>
      have e : lineF N a (printL [] ++ tail) = (some [], 0) := by
        have : crAt (13 :: 10 :: tail) = some 0 := by simp [crAt]
        simp only [sizeL, List.map_nil, List.sum_nil] at hs
        simp only [lineF, printL, List.flatMap_nil, List.nil_append, List.cons_append, this]
        rw [if_neg (by omega)]; rfl
      unfold parseF
      rw [e]
      simp [sizeL]
  | cons f fs ih =>
    intro k N a tail out hf hn hs hk
    cases k with
    | zero => simp at hk
    | succ k =>
      have hff := hf f (by simp)
      rw [sizeL_cons] at hs
      have e : lineF N a (printL (f :: fs) ++ tail) = (some (f.1 ++ [58, 32] ++ f.2), 0) := by
        have h1 : printL (f :: fs) ++ tail = (f.1 ++ [58, 32] ++ f.2) ++ 13 :: 10 :: (printL fs ++ tail) := by rw [printL_cons]; simp [line1]
        have h2 := crAt_append (r := printL fs ++ tail) (line_no13 hff)
        have h3 : (f.1 ++ [58, 32] ++ f.2).length = f.1.length + f.2.length + 2 := by simp; omega
        have hp : 2 ≤ sizeL fs := by unfold sizeL; omega
        rw [h1]
        unfold lineF
        rw [h2]
        simp only
        rw [if_neg (by omega), List.take_left']
        rfl
      have hd : (printL (f :: fs) ++ tail).drop ((f.1 ++ [58, 32] ++ f.2).length + 2) = printL fs ++ tail := by
        have h1 : printL (f :: fs) ++ tail = (f.1 ++ [58, 32] ++ f.2 ++ [13, 10]) ++ (printL fs ++ tail) := by rw [printL_cons]; simp [line1]
        rw [h1, List.drop_left']
        simp
        omega
      unfold parseF
      rw [e]
      simp only
      rw [if_neg (by simp), headF_line hff]
      simp only
      simp only [List.length_cons] at hn hk
      rw [if_neg (by omega), hd, ih k N _ tail (out ++ [f]) (fun g hg => hf g (by simp [hg])) (by simp; omega) (by simp; omega) (by omega)]
      rw [sizeL_cons]
      simp
      omega
theorem parse_print {fs : List Fld} (h : faultL fs = 0) (tail : List UInt8) : parseFs (printL fs ++ tail) = (fs, ((printL fs).length : Int), 0) := by
  unfold faultL at h
  split at h
  · simp at h
  · rename_i h1
    split at h
    · simp at h
    · rename_i h2
      split at h
      · simp at h
      · rename_i h3
        have hf : ∀ f ∈ fs, fit f = true := by
          intro f hf
          rcases hb : fit f with _ | _
          · exact absurd (List.any_eq_true.2 ⟨f, hf, by simp [hb]⟩) h1
          · rfl
        unfold parseFs
        have hk : fs.length < (printL fs ++ tail).length + 1 := by
          have : fs.length + 2 ≤ sizeL fs := by
            unfold sizeL
            clear h1 h2 h3 hf h
            induction fs with
            | nil => simp
            | cons f fs ih => simp; omega
          rw [List.length_append, printL_length]; omega
        rw [parse_print_go fs _ _ 0 tail [] hf (by simpa using h2) (by omega) hk, printL_length]
        simp

theorem get_length (a : List Fld) (n : List UInt8) : (getL a n).length ≤ a.length := by simpa [getL] using List.length_filter_le _ a
theorem without_one (fs : List Fld) (n : List UInt8) : withoutL fs [n] = fs.filter fun f => !isN f n := by
  unfold withoutL
  congr 1
  funext f
  simp
theorem without_length_le (fs : List Fld) (names : List (List UInt8)) : (withoutL fs names).length ≤ fs.length := List.length_filter_le _ fs
end IH

/- Layer 3 in plain Lean: headers as long as may be, and longer. No program in sight; no condition. -/
namespace IH
set_option maxRecDepth 100000

/-- So many x. -/
def xs (n : Nat) : List UInt8 := List.replicate n 120
end IH

/- A slice of fields in memory: its cells, its parts. No condition but as each states. -/
namespace Go.Proofs.YtniiadhhefgmcaaGreatDoor
open Go.RowKit IH
set_option maxRecDepth 100000
def fldCells (f : Fld) : List Value := [.string ⟨f.1.toArray⟩, .string ⟨f.2.toArray⟩]
def fldsV (L : List Fld) : List Value := L.flatMap fldCells
theorem fldsV_length (L : List Fld) : (fldsV L).length = L.length * 2 := by
  induction L with
  | nil => rfl
  | cons f L ih => rw [fldsV, List.flatMap_cons, List.length_append, ← fldsV, ih]; simp [fldCells]; omega
theorem fldsV_append (a b : List Fld) : fldsV (a ++ b) = fldsV a ++ fldsV b := by simp [fldsV]
theorem fldsV_drop (L : List Fld) (k : Nat) : (fldsV L).drop (k * 2) = fldsV (L.drop k) := by
  induction k generalizing L with
  | zero => simp
  | succ k ih =>
    cases L with
    | nil => simp [fldsV]
    | cons f L =>
      rw [List.drop_succ_cons, ← ih, show (k + 1) * 2 = 2 + k * 2 by omega, ← List.drop_drop]
      rfl
theorem fldsV_take (L : List Fld) (k : Nat) : (fldsV L).take (k * 2) = fldsV (L.take k) := by
  induction k generalizing L with
  | zero => simp [fldsV]
  | succ k ih =>
    cases L with
    | nil => simp [fldsV]
    | cons f L =>
      have e : fldsV (f :: L) = .string ⟨f.1.toArray⟩ :: .string ⟨f.2.toArray⟩ :: fldsV L := rfl
      have e2 : fldsV (f :: L.take k) = .string ⟨f.1.toArray⟩ :: .string ⟨f.2.toArray⟩ :: fldsV (L.take k) := rfl
      rw [List.take_succ_cons, e, e2, ← ih, show (k + 1) * 2 = k * 2 + 1 + 1 by omega, List.take_succ_cons, List.take_succ_cons]
theorem fldsV_get (L : List Fld) (k : Nat) (f : Fld) (h : L[k]? = some f) : (fldsV L)[k * 2]? = some (.string ⟨f.1.toArray⟩) ∧ (fldsV L)[k * 2 + 1]? = some (.string ⟨f.2.toArray⟩) := by
  obtain ⟨hk, rfl⟩ := List.getElem?_eq_some_iff.1 h
  have e : fldsV (L.drop k) = .string ⟨(L[k]).1.toArray⟩ :: .string ⟨(L[k]).2.toArray⟩ :: fldsV (L.drop (k + 1)) := by rw [List.drop_eq_getElem_cons hk]; rfl
  rw [← fldsV_drop] at e
  constructor
  · have := congrArg (·[0]?) e
    simpa [List.getElem?_drop] using this
  · have := congrArg (·[1]?) e
    simpa [List.getElem?_drop] using this
theorem fldsV_one (L : List Fld) : ∀ u ∈ fldsV L, u.oneCell' = true := by
  intro u hu
  obtain ⟨t, _, ht⟩ := List.mem_flatMap.1 hu
  simp [fldCells] at ht
  rcases ht with rfl | rfl <;> rfl
theorem fld_ty : SliceTy Tryz.prog 24 74 (.agg #[.string ⟨#[]⟩, .string ⟨#[]⟩]) 2 32 := ⟨Tryz.underlying24, by kernel_rfl, rfl, by decide⟩
/-- A field of a slice: its cells. -/
theorem fld_at {w : World} {B n c : Nat} {A : Option Addr} {L : List Fld} (h : SliceIn w B 2 A n c (fldsV L)) {k : Nat} {f : Fld} (hk : L[k]? = some f) :
    ∃ b off, A = some ⟨b, off, none⟩ ∧ b < B ∧ w.cell? ⟨b, off + k * 2, none⟩ = some (.string ⟨f.1.toArray⟩) ∧ w.cell? ⟨b, off + k * 2 + 1, none⟩ = some (.string ⟨f.2.toArray⟩) := by
  obtain ⟨h1, h2, h3, h4⟩ := h
  have hkl : k < L.length := (List.getElem?_eq_some_iff.1 hk).1
  rw [fldsV_length] at h1
  obtain ⟨b, off, rfl, hb, hc⟩ := h4 (by omega)
  obtain ⟨g1, g2⟩ := fldsV_get L k f hk
  exact ⟨b, off, rfl, hb, hc _ _ g1, by rw [Nat.add_assoc]; exact hc _ _ g2⟩
theorem fld_count {w : World} {B n c : Nat} {A : Option Addr} {L : List Fld} (h : SliceIn w B 2 A n c (fldsV L)) : L.length = n := by
  have := h.1
  rw [fldsV_length] at this
  omega
/-- Names and values within bounds. -/
def smallF (M : Nat) (L : List Fld) : Prop := ∀ f ∈ L, f.1.length ≤ M ∧ f.2.length ≤ M
theorem smallF_get {M : Nat} {L : List Fld} (h : smallF M L) {k : Nat} {f : Fld} (hk : L[k]? = some f) : f.1.length ≤ M ∧ f.2.length ≤ M := h f (List.mem_of_getElem? hk)
end Go.Proofs.YtniiadhhefgmcaaGreatDoor

/- Layer 3 in plain Lean, for the walks: the first of a kind in a list; sums of lengths. No condition. -/
namespace IH
set_option maxRecDepth 100000
/-- Where the first of a kind stands; -1: there is none. -/
def fi {α : Type} (p : α → Bool) (L : List α) : Int := match L.findIdx? p with
  | none => -1
  | some i => (i : Int)
theorem fi_none {α : Type} {p : α → Bool} {L : List α} (h : L.any p = false) : fi p L = -1 := by
  have : L.findIdx? p = none := by
    rw [List.findIdx?_eq_none_iff]
    intro x hx
    rcases hp : p x with _ | _
    · rfl
    · have h2 := List.any_eq_true.2 ⟨x, hx, hp⟩
      rw [h] at h2; cases h2
  unfold fi; rw [this]
theorem fi_hit {α : Type} {p : α → Bool} {L : List α} {k : Nat} {x : α} (hk : L[k]? = some x) (hp : p x = true) (h : (L.take k).any p = false) : fi p L = k := by
  have : L.findIdx? p = some k := by
    obtain ⟨hl, rfl⟩ := List.getElem?_eq_some_iff.1 hk
    rw [List.findIdx?_eq_some_iff_getElem]
    refine ⟨hl, hp, fun j hj => ?_⟩
    intro hpj
    have hm : L[j] ∈ L.take k := by
      rw [List.mem_iff_getElem?]
      exact ⟨j, by rw [List.getElem?_take, if_pos hj]; exact List.getElem?_eq_getElem _⟩
    have := List.any_eq_true.2 ⟨_, hm, hpj⟩
    rw [h] at this; cases this
  unfold fi; rw [this]
theorem any_snoc {α : Type} {p : α → Bool} {L : List α} {k : Nat} {x : α} (hk : L[k]? = some x) (hp : p x = false) (h : (L.take k).any p = false) : (L.take (k + 1)).any p = false := by
  rw [List.take_add_one, hk, List.any_append, h]
  simp [hp]
theorem fi_any {α : Type} (p : α → Bool) (L : List α) : decide (0 ≤ fi p L) = L.any p := by
  unfold fi
  cases h : L.findIdx? p with
  | none =>
    rw [List.findIdx?_eq_none_iff] at h
    have : L.any p = false := by
      rw [List.any_eq_false]
      intro x hx
      simp [h x hx]
    rw [this]; decide
  | some i =>
    obtain ⟨hl, hp, _⟩ := List.findIdx?_eq_some_iff_getElem.1 h
    have : L.any p = true := List.any_eq_true.2 ⟨_, List.getElem_mem hl, hp⟩
    rw [this]
    simp
theorem sizeL_snoc (L : List Fld) (k : Nat) (f : Fld) (hk : L[k]? = some f) : sizeL (L.take (k + 1)) = sizeL (L.take k) + f.1.length + f.2.length + 4 := by
  unfold sizeL
  rw [List.take_add_one, hk]
  simp
  omega
theorem sizeL_bd (M : Nat) (L : List Fld) (h : ∀ f ∈ L, f.1.length ≤ M ∧ f.2.length ≤ M) : sizeL L ≤ L.length * (2 * M + 4) + 2 := by
  induction L with
  | nil => simp [sizeL]
  | cons f L ih =>
    have h1 := h f (by simp)
    have h2 := ih fun g hg => h g (by simp [hg])
    rw [sizeL_cons, List.length_cons, Nat.succ_mul]
    omega
theorem sizeL_mono (L : List Fld) (k : Nat) : sizeL (L.take k) ≤ sizeL L := by
  conv => rhs; rw [← List.take_append_drop k L]
  unfold sizeL
  rw [List.map_append, List.sum_append]
  omega
end IH

