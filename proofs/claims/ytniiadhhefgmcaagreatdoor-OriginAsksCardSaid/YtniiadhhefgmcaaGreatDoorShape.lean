/- The world's shape behind what makes memory; a world in which one block alone may have changed; strings.Split at one octet. Condition: the text is shorter than 2^30 octets. -/
import Derived.Test.YtniiadhhefgmcaaGreatDoorKt
import Derived.Test.YtniiadhhefgmcaaGreatDoorPm
import Derived.Test.YtniiadhhefgmcaaGreatDoorOct5
import Derived.Test.YtniiadhhefgmcaaGreatDoorShelf
import Derived.ShapedOpen
import Derived.ChangeAgain
namespace Go.Proofs.YtniiadhhefgmcaaGreatDoor
open Go.RowKit IH
set_option maxRecDepth 100000

theorem heap_some_lt {w : World} {i : Nat} {o : Obj} (h : w.heap[i]? = some o) : i < w.heap.size := (Array.getElem?_eq_some_iff.1 h).1
theorem shape_below {w w' : World} (hb : Below w.heap.size w w') {b : Nat} {x : TypeId × Nat} (h : w.shape? b = some x) : w'.shape? b = some x := by
  have hlt : b < w.heap.size := by
    rcases Nat.lt_or_ge b w.heap.size with h' | h'
    · exact h'
    · simp [World.shape?, Array.getElem?_eq_none h'] at h
  unfold World.shape? at h ⊢
  rw [hb.block b hlt]
  exact h
theorem shaped_below {P : Program} {w w' : World} (h : w.ShapedOpen P) (hb : Below w.heap.size w w') : w'.ShapedOpen P := by
  refine ⟨fun g zero t hg hz => ?_, fun k hk1 hk2 => ?_⟩
  · obtain ⟨cs, h1, h2, h3⟩ := h.1 g zero t hg hz
    exact ⟨cs, (hb.block g (heap_some_lt h1)).trans h1, h2, fun hq => Row.ok_of_shape (fun b x => shape_below hb) (h3 hq)⟩
  · obtain ⟨o, o₀, h1, h2, h3⟩ := h.2 k hk1 hk2
    exact ⟨o, o₀, (hb.block k (heap_some_lt h1)).trans h1, h2, h3⟩

/-- Of the blocks ahead of B, none but block g may have changed. -/
structure Save (B g : Nat) (w w' : World) : Prop where
  os : w'.os = w.os
  tape : w'.tape = w.tape
  output : w'.output = w.output
  size : w.heap.size ≤ w'.heap.size
  block : ∀ k, k < B → k ≠ g → w'.heap[k]? = w.heap[k]?
theorem below_save {B g : Nat} {w w' : World} (h : Below B w w') : Save B g w w' := ⟨h.os, h.tape, h.output, h.size, fun k hk _ => h.block k hk⟩
theorem Save.trans {B g : Nat} {a b c : World} (h : Save B g a b) (k : Save B g b c) : Save B g a c :=
  ⟨k.os.trans h.os, k.tape.trans h.tape, k.output.trans h.output, Nat.le_trans h.size k.size, fun i hi hn => (k.block i hi hn).trans (h.block i hi hn)⟩
theorem Save.mono {B B' g : Nat} {w w' : World} (h : Save B g w w') (hB : B' ≤ B) : Save B' g w w' := ⟨h.os, h.tape, h.output, h.size, fun k hk hn => h.block k (by omega) hn⟩
theorem Save.step {B g : Nat} {a b c : World} (h : Save B g a b) (hb : Below b.heap.size b c) (hB : B ≤ b.heap.size) : Save B g a c := h.trans (below_save (hb.mono hB))
theorem Save.only {B g : Nat} {a b c : World} (h : Save B g a b) (k : Only g b c) : Save B g a c :=
  ⟨k.os.trans h.os, k.tape.trans h.tape, k.output.trans h.output, by have := k.size; have := h.size; omega, fun i hi hn => (k.block i hn).trans (h.block i hi hn)⟩
theorem Save.setCell {B g : Nat} {a b : World} (h : Save B g a b) (o : Nat) (v : Value) : Save B g a (b.setCell ⟨g, o, none⟩ v) := h.only (Only.setCell g o b v)
theorem Save.drewN {B g : Nat} {a b : World} (h : Save B g a b) (n : Nat) : Save B g a (b.drewN n) := ⟨h.os, h.tape, h.output, h.size, h.block⟩
theorem Save.below {B g : Nat} {w w' : World} (h : Save B g w w') (hg : B ≤ g) : Below B w w' := ⟨h.os, h.tape, h.output, h.size, fun k hk => h.block k hk (by omega)⟩
theorem RowAt.save {B g g' : Nat} {e : TypeId} {cs : List Value} {w w' : World} (hr : RowAt w g e cs) (h : Save B g' w w') (hn : g ≠ g') (hB : g < B) : RowAt w' g e cs := hr.keep (h.block g hB hn)

theorem indexByte_mid (c : UInt8) (a b : List UInt8) (h : ∀ x ∈ a, x ≠ c) : Lib.indexByte (a ++ c :: b) c = (a.length : Nat) := by
  induction a with
  | nil => simp [Lib.indexByte]
  | cons x a ih =>
    have h1 : (x == c) = false := by simpa using h x (by simp)
    have h2 := ih fun y hy => h y (by simp [hy])
    rw [List.cons_append]
    unfold Lib.indexByte
    rw [h1, h2]
    have h3 : (((a.length : Nat) : Int) == -1) = false := by rw [beq_eq_false_iff_ne]; omega
    simp [h3]
theorem indexByte_no (c : UInt8) (a : List UInt8) (h : ∀ x ∈ a, x ≠ c) : Lib.indexByte a c = -1 := by
  induction a with
  | nil => rfl
  | cons x a ih =>
    have h1 : (x == c) = false := by simpa using h x (by simp)
    have h2 := ih fun y hy => h y (by simp [hy])
    unfold Lib.indexByte
    rw [h1, h2]; rfl
theorem split_pieces (c : UInt8) : ∀ (n : Nat) (l : List UInt8), l.length ≤ n → Lib.count l [c] = l.count c ∧ Lib.splitK [c] 0 (l.count c) l = pieces c l := by
  intro n
  induction n with
  | zero =>
    intro l hl
    obtain rfl : l = [] := List.eq_nil_of_length_eq_zero (by omega)
    exact ⟨Lib.count_miss rfl, rfl⟩
  | succ n ih =>
    intro l hl
    by_cases hm : c ∈ l
    · obtain ⟨a, b, rfl, ha⟩ := List.eq_append_cons_of_mem hm
      have ha' : ∀ x ∈ a, x ≠ c := fun x hx e => ha (e ▸ hx)
      have hi : Lib.index (a ++ c :: b) [c] = (a.length : Nat) := by rw [Lib.index_one, indexByte_mid c a b ha']
      have hb := ih b (by simp at hl; omega)
      have hd : (a ++ c :: b).drop (a.length + 1) = b := by rw [← List.drop_drop, List.drop_left']; rfl; rfl
      have hc : (a ++ c :: b).count c = b.count c + 1 := by
        rw [List.count_append, List.count_eq_zero.2 ha]; simp
      have h1 := Lib.count_hit (s := a ++ c :: b) (sub := [c]) (i := a.length) (by simp) hi
      rw [show a.length + [c].length = a.length + 1 from rfl, hd, hb.1] at h1
      refine ⟨by rw [h1, hc]; omega, ?_⟩
      rw [hc, pieces_cut ha', ← hb.2]
      have hne : (Lib.index (a ++ c :: b) [c] == -1) = false := by rw [hi, beq_eq_false_iff_ne]; omega
      conv => lhs; unfold Lib.splitK
      rw [hne, hi]
      simp only [Bool.false_eq_true, if_false, Int.toNat_natCast, Nat.add_zero]
      rw [show a.length + [c].length = a.length + 1 from rfl, hd, List.take_left']
      rfl
    · have hi : Lib.index l [c] = -1 := by rw [Lib.index_one]; exact indexByte_no c l fun x hx e => hm (e ▸ hx)
      have hc : l.count c = 0 := List.count_eq_zero.2 hm
      have hp1 : pieces c l = [l] := pieces_one fun x hx e => hm (e ▸ hx)
      rw [hc, hp1]
      exact ⟨Lib.count_miss hi, rfl⟩

theorem Split1_any (s : ByteArray) (c : UInt8) (w : World) (hsh : w.ShapedOpen Tryz.prog) (hs : s.size < 1073741824) :
    Calls Tryz.prog 150 #[.string s, .string ⟨#[c]⟩] w fun e w' => e = .returned (.slice (some ⟨w.heap.size, 0, none⟩) (pieces c s.data.toList).length (pieces c s.data.toList).length) ∧ RowAt w' w.heap.size 9 (strsV (pieces c s.data.toList)) ∧ Below w.heap.size w w' := by
  refine (Tryz.strings_Split_shaped s ⟨#[c]⟩ w hsh (by omega) (by show 1 ≤ 1; omega)).mono ?_
  rintro e w' ⟨rfl, rfl⟩
  obtain ⟨h1, h2⟩ := split_pieces c _ s.data.toList (Nat.le_refl _)
  have hc : Lib.countB s ⟨#[c]⟩ = s.data.toList.count c := h1
  have hp : (Lib.splitB ⟨#[c]⟩ 0 (Lib.countB s ⟨#[c]⟩) s).map Value.string = strsV (pieces c s.data.toList) := by
    rw [← h2, hc, ← show (⟨#[c]⟩ : ByteArray).data.toList = [c] from rfl, ← Lib.splitB_data]
    unfold strsV
    rw [List.map_map]
    apply List.map_congr_left
    intro x _
    simp
  have hl := pieces_count c s.data.toList
  rw [hp, hc, hl]
  exact ⟨rfl, RowAt.new _ _ _, (Below.refl _ _).alloc (Nat.le_refl _) _⟩
end Go.Proofs.YtniiadhhefgmcaaGreatDoor
