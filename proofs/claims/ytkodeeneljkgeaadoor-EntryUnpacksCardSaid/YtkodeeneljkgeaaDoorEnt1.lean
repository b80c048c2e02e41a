/- Layer 19 in plain Lean: an entry's octets, put together and read. No program in sight; no condition. -/
import Derived.Test.YtkodeeneljkgeaaDoorFld1
namespace IH
set_option maxRecDepth 100000

structure Entry where
  uri : List UInt8
  names : List (List UInt8)
  variant : List UInt8
  method : List UInt8
  target : List UInt8
  status : Int
  reason : List UInt8
  minor : Int
  fields : List Fld
  asked : Int
  got : Int
  order : Int
  size : Int
  sum : Int
  body : List (Int × Int)
/-- A number in so many octets, the greatest first. -/
def numB : Nat → Nat → List UInt8
  | 0, _ => []
  | k + 1, n => numB k (n / 256) ++ [UInt8.ofNat (n % 256)]
def textB (s : List UInt8) : List UInt8 := numB 2 s.length ++ s
def extB (x : Int × Int) : List UInt8 := numB 4 x.1.toNat ++ numB 4 x.2.toNat
def fieldB (f : Fld) : List UInt8 := textB f.1 ++ textB f.2
def packL (e : Entry) : List UInt8 :=
  [69] ++ (numB 2 e.status.toNat ++ (numB 1 e.minor.toNat ++ (numB 8 e.asked.toNat ++ (numB 8 e.got.toNat ++ (numB 8 e.order.toNat ++ (numB 4 e.size.toNat ++ (numB 4 e.sum.toNat ++
  (textB e.uri ++ (textB e.variant ++ (textB e.reason ++ (numB 1 e.names.length ++ (e.names.flatMap textB ++ (numB 1 e.fields.length ++ (e.fields.flatMap fieldB ++
  (numB 1 e.body.length ++ e.body.flatMap extB)))))))))))))))
def valB (l : List UInt8) : Nat := l.foldl (fun n c => n * 256 + c.toNat) 0
/-- Eight octets as an int. -/
def i64 (n : Nat) : Int := if n < 9223372036854775808 then n else (n : Int) - 18446744073709551616
theorem valB_snoc (l : List UInt8) (c : UInt8) : valB (l ++ [c]) = valB l * 256 + c.toNat := by simp [valB]
theorem numB_length (k n : Nat) : (numB k n).length = k := by
  induction k generalizing n with
  | zero => rfl
  | succ k ih => simp [numB, ih]
theorem valB_num (k : Nat) : ∀ n, n < 256 ^ k → valB (numB k n) = n := by
  induction k with
  | zero => intro n h; simp at h; subst h; rfl
  | succ k ih =>
    intro n h
    unfold numB
    rw [valB_snoc, ih (n / 256) (by rw [Nat.pow_succ] at h; omega), UInt8.toNat_ofNat']
    omega
theorem valB_lt (l : List UInt8) : valB l < 256 ^ l.length := by
  have key : ∀ l : List UInt8, valB l.reverse < 256 ^ l.length := by
    intro l
    induction l with
    | nil => simp [valB]
    | cons c l ih =>
      rw [List.reverse_cons, valB_snoc, List.length_cons, Nat.pow_succ]
      have := c.toNat_lt
      omega
  have := key l.reverse
  simpa using this

def getN (k : Nat) (s : List UInt8) : Option (Nat × List UInt8) := if s.length < k then none else some (valB (s.take k), s.drop k)
def getT (s : List UInt8) : Option (List UInt8 × List UInt8) := match getN 2 s with
  | none => none
  | some (n, r) => if r.length < n then none else some (r.take n, r.drop n)
def getF (s : List UInt8) : Option (Fld × List UInt8) := match getT s with
  | none => none
  | some (a, r) => (getT r).map fun x => ((a, x.1), x.2)
def getX (s : List UInt8) : Option ((Int × Int) × List UInt8) := match getN 4 s with
  | none => none
  | some (a, r) => (getN 4 r).map fun x => (((a : Int), (x.1 : Int)), x.2)
def getAll {α : Type} (p : List UInt8 → Option (α × List UInt8)) : Nat → List UInt8 → Option (List α × List UInt8)
  | 0, s => some ([], s)
  | n + 1, s => match p s with
    | none => none
    | some (x, r) => (getAll p n r).map fun y => (x :: y.1, y.2)
theorem getN_num {k n : Nat} (h : n < 256 ^ k) (r : List UInt8) : getN k (numB k n ++ r) = some (n, r) := by
  have hl := numB_length k n
  unfold getN
  rw [if_neg (by rw [List.length_append]; omega), List.take_left' hl, List.drop_left' hl, valB_num k n h]
theorem getT_text {s : List UInt8} (h : s.length < 65536) (r : List UInt8) : getT (textB s ++ r) = some (s, r) := by
  unfold getT textB
  rw [List.append_assoc, getN_num (by simpa using h)]
  simp only
  rw [if_neg (by rw [List.length_append]; omega), List.take_left' rfl, List.drop_left' rfl]
theorem getF_field {f : Fld} (h1 : f.1.length < 65536) (h2 : f.2.length < 65536) (r : List UInt8) : getF (fieldB f ++ r) = some (f, r) := by
  unfold getF fieldB
  rw [List.append_assoc, getT_text h1]
  simp only
  rw [getT_text h2]
  rfl
theorem getX_ext {x : Int × Int} (h0 : 0 ≤ x.1) (h1 : x.1 < 4294967296) (h2 : 0 ≤ x.2) (h3 : x.2 < 4294967296) (r : List UInt8) : getX (extB x ++ r) = some (x, r) := by
  unfold getX extB
  rw [List.append_assoc, getN_num (by omega)]
  simp only
  rw [getN_num (by omega)]
  obtain ⟨a, b⟩ := x
  simp only [Option.map_some] at *
  congr 3
  · omega
  · omega
theorem getAll_of {α : Type} {p : List UInt8 → Option (α × List UInt8)} {f : α → List UInt8} : ∀ (l : List α) (r : List UInt8), (∀ x ∈ l, ∀ r, p (f x ++ r) = some (x, r)) → getAll p l.length (l.flatMap f ++ r) = some (l, r)
  | [], r, _ => rfl
  | x :: l, r, h => by
    rw [List.flatMap_cons, List.append_assoc, List.length_cons]
    unfold getAll
    rw [h x (by simp)]
    simp only
    rw [getAll_of l r fun y hy => h y (by simp [hy])]
    rfl
/-- The numbers ahead. -/
structure Head19 where
  status : Nat
  minor : Nat
  asked : Nat
  got : Nat
  order : Nat
  size : Nat
  sum : Nat
def readHead (s : List UInt8) : Option (Head19 × List UInt8) :=
  match getN 1 s with
  | none => none
  | some (m, s) => if m ≠ 69 then none else match getN 2 s with
    | none => none
    | some (st, s) => match getN 1 s with
      | none => none
      | some (mi, s) => match getN 8 s with
        | none => none
        | some (a, s) => match getN 8 s with
          | none => none
          | some (g, s) => match getN 8 s with
            | none => none
            | some (o, s) => match getN 4 s with
              | none => none
              | some (z, s) => match getN 4 s with
                | none => none
                | some (u, s) => some (⟨st, mi, a, g, o, z, u⟩, s)
def readTail (h : Head19) (s : List UInt8) : Option (Entry × List UInt8) :=
  match getT s with
  | none => none
  | some (uri, s) => match getT s with
    | none => none
    | some (variant, s) => match getT s with
      | none => none
      | some (reason, s) => match getN 1 s with
        | none => none
        | some (n, s) => match getAll getT n s with
          | none => none
          | some (names, s) => match getN 1 s with
            | none => none
            | some (n, s) => match getAll getF n s with
              | none => none
              | some (fields, s) => match getN 1 s with
                | none => none
                | some (n, s) => match getAll getX n s with
                  | none => none
                  | some (body, s) => some (⟨uri, names, variant, [], [], h.status, reason, h.minor, fields, i64 h.asked, i64 h.got, i64 h.order, h.size, h.sum, body⟩, s)
def readE (s : List UInt8) : Option (Entry × List UInt8) := match readHead s with
  | none => none
  | some (h, s) => readTail h s
/-- Within what octets can say. -/
structure PackOk (e : Entry) : Prop where
  method : e.method = []
  target : e.target = []
  s0 : 0 ≤ e.status
  s1 : e.status < 65536
  m0 : 0 ≤ e.minor
  m1 : e.minor < 256
  a0 : 0 ≤ e.asked
  a1 : e.asked < 9223372036854775808
  g0 : 0 ≤ e.got
  g1 : e.got < 9223372036854775808
  o0 : 0 ≤ e.order
  o1 : e.order < 9223372036854775808
  z0 : 0 ≤ e.size
  z1 : e.size < 4294967296
  u0 : 0 ≤ e.sum
  u1 : e.sum < 4294967296
  uri : e.uri.length < 65536
  variant : e.variant.length < 65536
  reason : e.reason.length < 65536
  names : e.names.length < 256
  name : ∀ s ∈ e.names, s.length < 65536
  fields : e.fields.length < 256
  field : ∀ f ∈ e.fields, f.1.length < 65536 ∧ f.2.length < 65536
  body : e.body.length < 256
  ext : ∀ x ∈ e.body, 0 ≤ x.1 ∧ x.1 < 4294967296 ∧ 0 ≤ x.2 ∧ x.2 < 4294967296
theorem i64_of {n : Int} (h0 : 0 ≤ n) (h1 : n < 9223372036854775808) : i64 n.toNat = n := by unfold i64; rw [if_pos (by omega)]; omega
/-- What was packed is read as itself. -/
theorem read_pack {e : Entry} (h : PackOk e) : readE (packL e) = some (e, []) := by
  have p1 : (256 : Nat) ^ 1 = 256 := by decide
  have p2 : (256 : Nat) ^ 2 = 65536 := by decide
  have p4 : (256 : Nat) ^ 4 = 4294967296 := by decide
  have p8 : (256 : Nat) ^ 8 = 18446744073709551616 := by decide
  have s0 := h.s0; have s1 := h.s1; have m0 := h.m0; have m1 := h.m1; have a0 := h.a0; have a1 := h.a1; have g0 := h.g0; have g1 := h.g1
  have o0 := h.o0; have o1 := h.o1; have z0 := h.z0; have z1 := h.z1; have u0 := h.u0; have u1 := h.u1
  have hn := h.names; have hf := h.fields; have hb := h.body
  have e69 : ∀ r : List UInt8, getN 1 ([69] ++ r) = some (69, r) := fun r => by
    have := getN_num (k := 1) (n := 69) (by omega) r
    simpa [numB] using this
  unfold readE readHead packL
  rw [e69]
  simp only [ne_eq, not_true_eq_false, if_false]
  rw [getN_num (by omega)]
  simp only
  rw [getN_num (by omega)]
  simp only
  rw [getN_num (by omega)]
  simp only
  rw [getN_num (by omega)]
  simp only
  rw [getN_num (by omega)]
  simp only
  rw [getN_num (by omega)]
  simp only
  rw [getN_num (by omega)]
  simp only
  unfold readTail
  rw [getT_text h.uri]
  simp only
  rw [getT_text h.variant]
  simp only
  rw [getT_text h.reason]
  simp only
  rw [getN_num (by omega)]
  simp only
  rw [getAll_of e.names _ fun x hx r => getT_text (h.name x hx) r]
  simp only
  rw [getN_num (by omega)]
  simp only
  rw [getAll_of e.fields _ fun x hx r => getF_field (h.field x hx).1 (h.field x hx).2 r]
  simp only
  rw [getN_num (by omega)]
  simp only
  have hx := getAll_of (p := getX) (f := extB) e.body [] fun x hx r => by
    obtain ⟨h1, h2, h3, h4⟩ := h.ext x hx
    exact getX_ext h1 h2 h3 h4 r
  rw [List.append_nil] at hx
  rw [hx]
  simp only [i64_of a0 a1, i64_of g0 g1, i64_of o0 o1, Int.toNat_of_nonneg s0, Int.toNat_of_nonneg m0, Int.toNat_of_nonneg z0, Int.toNat_of_nonneg u0]
  have hm := h.method
  have ht := h.target
  obtain ⟨uri, names, variant, method, target, status, reason, minor, fields, asked, got, order, size, sum, body⟩ := e
  simp only at hm ht
  subst hm ht
  rfl
theorem pack_inj {a b : Entry} (ha : PackOk a) (hb : PackOk b) (h : packL a = packL b) : a = b := by
  have h1 := read_pack ha
  rw [h, read_pack hb] at h1
  simpa using h1.symm
end IH
