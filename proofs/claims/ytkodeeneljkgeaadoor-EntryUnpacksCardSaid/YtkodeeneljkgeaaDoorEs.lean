/- Es: several texts, one behind the other. -/
import Derived.Test.YtkodeeneljkgeaaDoorEnt1
import Derived.Test.YtkodeeneljkgeaaDoorKt
import Derived.Laws.BitsAllLaws
import Derived.Deep.MidRow
/- Layer 19 in plain Lean: numbers' octets, one by one, from the greatest and from the least. No program in sight; no condition. -/
namespace IH
set_option maxRecDepth 100000
theorem numB_step {n k j : Nat} (h : j < k) : numB (j + 1) (n / 256 ^ (k - 1 - j)) = numB j (n / 256 ^ (k - j)) ++ [UInt8.ofNat (n / 256 ^ (k - 1 - j) % 256)] := by
  conv => lhs; unfold numB
  rw [Nat.div_div_eq_div_mul, ← Nat.pow_succ, show (k - 1 - j).succ = k - j by omega]
theorem numB_mod : ∀ (k n : Nat), numB k (n % 256 ^ k) = numB k n
  | 0, n => rfl
  | k + 1, n => by
    unfold numB
    have h1 : n % 256 ^ (k + 1) / 256 = n / 256 % 256 ^ k := by
      rw [Nat.pow_succ, Nat.mul_comm, Nat.mod_mul_right_div_self]
    have h2 : n % 256 ^ (k + 1) % 256 = n % 256 := Nat.mod_mod_of_dvd n ⟨256 ^ k, by rw [Nat.pow_succ, Nat.mul_comm]⟩
    rw [h1, h2, numB_mod k]
/-- The octet that a shift leaves. -/
theorem shift_byte (n k : Nat) : (n : Int) / 2 ^ (8 * k) = ((n / 256 ^ k : Nat) : Int) := by
  rw [Int.natCast_ediv, show ((256 ^ k : Nat) : Int) = 2 ^ (8 * k) by rw [Int.natCast_pow, Int.pow_mul]; rfl]
theorem byte_wrap (n : Nat) : ((UInt8.ofNat (n % 256)).toNat : Int) = (n : Int) % 256 := by
  rw [UInt8.toNat_ofNat']; omega
theorem numB_cons : ∀ i n, numB (i + 1) n = UInt8.ofNat (n / 256 ^ i % 256) :: numB i n
  | 0, n => by simp [numB]
  | i + 1, n => by
    have h := numB_cons i (n / 256)
    rw [show numB (i + 1 + 1) n = numB (i + 1) (n / 256) ++ [UInt8.ofNat (n % 256)] from rfl, h, Nat.div_div_eq_div_mul, ← Nat.pow_succ']
    rfl
theorem textB_size (s : List UInt8) : (textB s).length = s.length + 2 := by unfold textB; rw [List.length_append, numB_length]; omega
theorem flat_take_le {α : Type} (f : α → List UInt8) (L : List α) (k : Nat) : ((L.take k).flatMap f).length ≤ (L.flatMap f).length := by
  conv => rhs; rw [← List.take_append_drop k L, List.flatMap_append, List.length_append]
  omega
theorem flat_snoc {α : Type} (f : α → List UInt8) {L : List α} {k : Nat} {x : α} (h : L[k]? = some x) : (L.take (k + 1)).flatMap f = (L.take k).flatMap f ++ f x := by
  rw [List.take_add_one, h, List.flatMap_append]; simp
end IH

/- Layer 19: an octet put behind a number's octets, by the machine's bits. Condition: within 64 bits. -/
namespace Go.Proofs.YtkodeeneljkgeaaDoor
open Go Go.RowKit IH
theorem or_byte (m x : Nat) (hm : m < 72057594037927936) (hx : x < 256) : bits BinOp.or IntKind.i64 (wrap64 ((m : Int) * 256)) (x : Int) = i64 (m * 256 + x) := by
  show IntKind.i64.wrap ((BitVec.ofInt 64 (wrap64 ((m : Int) * 256)) ||| BitVec.ofInt 64 (x : Int)).toNat : Int) = _
  have h1 : (BitVec.ofInt 64 (wrap64 ((m : Int) * 256))).toNat = m * 256 := by
    rw [BitVec.toNat_ofInt]
    unfold wrap64
    omega
  have h2 : (BitVec.ofInt 64 (x : Int)).toNat = x := by
    rw [BitVec.toNat_ofInt]
    omega
  have h3 : m * 256 ||| x = m * 256 + x := by
    have h := Nat.shiftLeft_add_eq_or_of_lt (show x < 2 ^ 8 by omega) m
    rw [Nat.shiftLeft_eq] at h
    exact h.symm
  rw [BitVec.toNat_or, h1, h2, h3, IntKind.wrap_i64]
  unfold i64
  split <;> omega
end Go.Proofs.YtkodeeneljkgeaaDoor

/- A plain region, further: an operation whose guard was itself left out. No condition. -/
namespace Go.Proofs.YtkodeeneljkgeaaDoor
open Go Go.RowKit
theorem wanted_und {ops : Array Oper} {o o' : Oper} {j d : Nat} {c : Bool} {tmps : Array Value} (hg : o.guard = some (j, c)) (ho : nth ops.toList j = some o') (hd : o'.dst = some d) (hv : nth tmps.toList d = some undef) : Region.wanted o (yielded ops tmps) = false := by
  rw [nth_eq] at ho hv
  have h1 : ops[j]? = some o' := by simpa using ho
  have h2 : tmps[d]? = some undef := by simpa using hv
  unfold Region.wanted yielded
  rw [hg]
  simp only [h1, Option.bind_some, hd, h2]
  cases c <;> rfl
end Go.Proofs.YtkodeeneljkgeaaDoor

/- A struct loaded whole out of a block known from its head, guarded or not: one step, the struct one letter. Condition: the block's cells are known. -/
namespace Go.Proofs.YtkodeeneljkgeaaDoor
open Go Go.RowKit
theorem rangeOf {w : World} {g : Nat} {e : TypeId} {cs : List Value} (h : RowAt w g e cs) : w.rangeAt g 0 cs := fun j v hj => by rw [Nat.zero_add]; exact h.cell hj
theorem wpList_load_g {P : Program} {ops : Array Oper} {rest : List Oper} {op : Oper} {a : Act} {w : World} {Q : Exit → Act → World → Prop} (hw : Region.wanted op (yielded ops a.tmps) = true) (ty : TypeId) (x : Operand) (ho : op.op = .load ty x)
    (b o : Nat) (hx : a.eval x = .pointer (some ⟨b, o, none⟩)) (cs : List Value) (d : TypeDesc) (hc : w.rangeAt b o cs)
    (hu : P.underlying ty = some d) (hd : d.isRow = true) (hi : (P.info? ty).map (·.size) = some cs.length)
    (h : wpList P ops Q rest (a.put op.dst (.agg cs.toArray)) w) : wpList P ops Q (op :: rest) a w := by
  unfold wpList
  rw [if_pos hw]
  exact .inl (wp_load_mid ty x ho b o hx cs d hc hu hd hi h)
end Go.Proofs.YtkodeeneljkgeaaDoor

/- Results that live in cells, read behind a function's end. Condition: the cells are known. -/
namespace Go.Proofs.YtkodeeneljkgeaaDoor
open Go Go.RowKit
theorem results_cell {P : Program} {fn : Func} {t : Tmp} {ty : TypeId} (h : fn.results = #[.cell t ty]) (tmps : Array Value) (w : World) (a : Addr) (ht : tmps.getD t undef = .pointer (some a)) (v : Value) (hl : (loadVar ty a).run P w = .ok v w) :
    (results fn tmps).run P w = .ok v w := by
  simp only [Array.getD_eq_getD_getElem?] at ht
  simp [results, h, ht, asAddr, hl]
theorem results_cell2 {P : Program} {fn : Func} {t u : Tmp} {ty tz : TypeId} (h : fn.results = #[.cell t ty, .cell u tz]) (tmps : Array Value) (w : World) (a b : Addr) (ht : tmps.getD t undef = .pointer (some a)) (hu : tmps.getD u undef = .pointer (some b)) (v x : Value)
    (hl : (loadVar ty a).run P w = .ok v w) (hx : (loadVar tz b).run P w = .ok x w) :
    (results fn tmps).run P w = .ok (.tuple #[v, x]) w := by
  simp only [Array.getD_eq_getD_getElem?] at ht hu
  simp [results, h, ht, hu, asAddr, hl, hx]
end Go.Proofs.YtkodeeneljkgeaaDoor
