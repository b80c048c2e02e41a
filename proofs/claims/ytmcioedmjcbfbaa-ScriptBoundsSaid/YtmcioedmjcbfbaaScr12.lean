/- Walks of layer 27: the forms of deeds' lines; the form of a word. Condition: texts within 10^9 octets. -/
import Derived.Test.YtmcioedmjcbfbaaScr11
import Derived.IntWalk
namespace Go.Proofs.Ytmcioedmjcbfbaa
open Go.RowKit IH
set_option maxRecDepth 100000
abbrev Frm := List UInt8 × Int × List UInt8
def frmCells (f : Frm) : List Value := [.string ⟨f.1.toArray⟩, .int .i64 f.2.1, .string ⟨f.2.2.toArray⟩]
def frmsV (L : List Frm) : List Value := L.flatMap frmCells
def FORMS : List Frm := [([111, 112, 101, 110], 0, []), ([99, 108, 105, 101, 110, 116], 1, [99, 111]), ([111, 114, 105, 103, 105, 110], 2, [99, 111]), ([104, 97, 110, 103], 3, [99]), ([113, 117, 105, 116], 4, [99]), ([112, 105, 99, 107], 5, [99, 110]), ([116, 105, 99, 107], 6, [110]), ([102, 97, 105, 108], 7, [102]), ([108, 105, 109, 105, 116], 8, [110]), ([99, 114, 97, 115, 104], 9, [110, 107, 116, 112]), ([115, 121, 110, 99], 10, [])]
theorem frmsV_length (L : List Frm) : (frmsV L).length = L.length * 3 := by
  induction L with
  | nil => rfl
  | cons f L ih => rw [frmsV, List.flatMap_cons, List.length_append, ← frmsV, ih]; simp [frmCells]; omega
theorem frmsV_get (L : List Frm) : ∀ (k : Nat) (f : Frm), L[k]? = some f → (frmsV L)[k * 3]? = some (.string ⟨f.1.toArray⟩) ∧ (frmsV L)[k * 3 + 1]? = some (.int .i64 f.2.1) ∧ (frmsV L)[k * 3 + 2]? = some (.string ⟨f.2.2.toArray⟩) := by
  induction L with
  | nil => intro k f h; simp at h
  | cons g L ih =>
    intro k f h
    have e : frmsV (g :: L) = .string ⟨g.1.toArray⟩ :: .int .i64 g.2.1 :: .string ⟨g.2.2.toArray⟩ :: frmsV L := rfl
    cases k with
    | zero =>
      simp only [List.getElem?_cons_zero, Option.some.injEq] at h
      subst h
      rw [e]
      exact ⟨rfl, rfl, rfl⟩
    | succ k =>
      rw [List.getElem?_cons_succ] at h
      obtain ⟨h1, h2, h3⟩ := ih k f h
      rw [e, show (k + 1) * 3 = k * 3 + 1 + 1 + 1 by omega]
      refine ⟨by simpa using h1, ?_, ?_⟩
      · rw [List.getElem?_cons_succ, List.getElem?_cons_succ, List.getElem?_cons_succ]
        exact h2
      · rw [show k * 3 + 1 + 1 + 1 + 2 = (k * 3 + 2) + 1 + 1 + 1 by omega, List.getElem?_cons_succ, List.getElem?_cons_succ, List.getElem?_cons_succ]
        exact h3
theorem frm_at {w : World} {B n c : Nat} {A : Option Addr} {L : List Frm} (h : SliceIn w B 3 A n c (frmsV L)) {k : Nat} {f : Frm} (hk : L[k]? = some f) :
    ∃ b off, A = some ⟨b, off, none⟩ ∧ b < B ∧ w.cell? ⟨b, off + k * 3, none⟩ = some (.string ⟨f.1.toArray⟩) ∧ w.cell? ⟨b, off + k * 3 + 1, none⟩ = some (.int .i64 f.2.1) ∧ w.cell? ⟨b, off + k * 3 + 2, none⟩ = some (.string ⟨f.2.2.toArray⟩) := by
  obtain ⟨h1, h2, h3, h4⟩ := h
  have hkl : k < L.length := (List.getElem?_eq_some_iff.1 hk).1
  rw [frmsV_length] at h1
  obtain ⟨b, off, rfl, hb, hc⟩ := h4 (by omega)
  obtain ⟨g1, g2, g3⟩ := frmsV_get L k f hk
  exact ⟨b, off, rfl, hb, hc _ _ g1, by rw [Nat.add_assoc]; exact hc _ _ g2, by rw [Nat.add_assoc]; exact hc _ _ g3⟩
theorem forms_any (w : World) : Calls Try.prog 71 #[] w fun e w' => e = .returned (.slice (some ⟨w.heap.size, 0, none⟩) 11 11) ∧ w' = w.alloc (.cells (frmsV FORMS).toArray 94) := by
  go_enter Try.func71, Try.ntmps71
  go_wp2
  go_ret
  exact ⟨rfl, rfl⟩
theorem named1_any (f : Frm) (m : ByteArray) (g : Nat) (w : World) (hg : g < w.heap.size) (c0 : w.cell? ⟨g, 0, none⟩ = some (.string m)) :
    Calls Try.prog 84 #[.agg #[.string ⟨f.1.toArray⟩, .int .i64 f.2.1, .string ⟨f.2.2.toArray⟩], .pointer (some ⟨g, 0, none⟩)] w fun e w' => e = .returned (.bool (f.1 == m.data.toList)) ∧ Below w.heap.size w w' := by
  have e : (f.1 == m.data.toList) = ((⟨f.1.toArray⟩ : ByteArray).toList == m.toList) := by rw [ByteArray.toList_eq, ByteArray.toList_eq]
  rw [e]
  generalize (⟨f.1.toArray⟩ : ByteArray) = X at *
  generalize (⟨f.2.2.toArray⟩ : ByteArray) = Y at *
  generalize f.2.1 = kd at *
  have d0 := (World.cell?_alloc_lt w (.cells #[.string X, .int .i64 kd, .string Y] 94) ⟨g, 0, none⟩ hg).trans c0
  clear c0 e
  go_enter Try.func84, Try.ntmps84
  go_wp2
  go_ret
  exact ⟨rfl, (Below.refl _ _).alloc (Nat.le_refl _) _⟩
def fiF {α : Type} (p : α → Bool) (L : List α) : Int := match L.findIdx? p with
  | some i => i
  | none => -1
theorem fiF_hit {α : Type} {p : α → Bool} {L : List α} {k : Nat} {x : α} (hk : L[k]? = some x) (hp : p x = true) (hno : (L.take k).any p = false) : L.findIdx? p = some k := by
  obtain ⟨hl, rfl⟩ := List.getElem?_eq_some_iff.1 hk
  rw [List.findIdx?_eq_some_iff_getElem]
  refine ⟨hl, hp, fun j hj => ?_⟩
  rw [List.any_eq_false] at hno
  have := hno L[j] (List.mem_take_iff_getElem.2 ⟨j, by omega, rfl⟩)
  simpa using this
theorem fiF_none {α : Type} {p : α → Bool} {L : List α} (hno : L.any p = false) : L.findIdx? p = none := by
  rw [List.findIdx?_eq_none_iff]
  intro x hx
  rw [List.any_eq_false] at hno
  simpa using hno x hx
theorem anyF_snoc {α : Type} {p : α → Bool} {L : List α} {k : Nat} {x : α} (hk : L[k]? = some x) (hp : p x = false) (hno : (L.take k).any p = false) : (L.take (k + 1)).any p = false := by
  rw [List.take_add_one, hk, List.any_append, hno]; simp [hp]
set_option maxHeartbeats 4000000 in
theorem IndexNamed_any (A : Option Addr) (n c : Nat) (L : List Frm) (m : ByteArray) (g : Nat) (w : World) (hin : SliceIn w w.heap.size 3 A n c (frmsV L)) (hs : n ≤ 1000000) (hg : g < w.heap.size) (cg : w.cell? ⟨g, 0, none⟩ = some (.string m)) :
    Calls Try.prog 72 #[.slice A n c, .func (.func 84) #[] #[.pointer (some ⟨g, 0, none⟩)]] w fun e w' => e = .returned (.int .i64 (fiF (fun f => f.1 == m.data.toList) L)) ∧ Below w.heap.size w w' := by
  have hL : L.length = n := by have := hin.1; rw [frmsV_length] at this; omega
  obtain ⟨p, hp⟩ : ∃ p : Frm → Bool, (fun f => f.1 == m.data.toList) = p := ⟨_, rfl⟩
  have hpf : ∀ f : Frm, (f.1 == m.data.toList) = p f := fun f => by rw [← hp]
  rw [hp]
  have HPF := Lib.hid hpf
  clear hp hpf
  go_enter Try.func72, Try.ntmps72
  go_wp2
  go_loopw [8] (fun i wr => ∃ k : Nat, k ≤ n ∧ i = .int .i64 k ∧ (L.take k).any p = false ∧ Below w.heap.size w wr) (fun i _ => n - (intOf i).toNat)
  case atStart => exact ⟨0, by omega, rfl, rfl, Below.refl _ _⟩
  case round =>
    obtain ⟨k, hk, rfl, hno, hbel⟩ := hrel
    by_cases hlt : k < n
    · obtain ⟨f, hf⟩ : ∃ f, L[k]? = some f := ⟨_, List.getElem?_eq_getElem (by omega)⟩
      obtain ⟨b, off, rfl, hb, c0, c1, c2⟩ := frm_at (hin.below hbel) hf
      have cr := (hbel.cell (p := ⟨g, 0, none⟩) hg).trans cg
      have F1 := named1_any f m g wr (Nat.lt_of_lt_of_le hg hbel.size) cr
      rw [HPF.out] at F1
      clear cr
      cases hp : p f
      · have hnx := anyF_snoc hf hp hno
        rw [hp] at F1
        have HN := Lib.hid hnx
        replace F1 := Lib.hid F1
        clear hnx hf hno hp
        generalize (⟨f.1.toArray⟩ : ByteArray) = X at *
        generalize (⟨f.2.2.toArray⟩ : ByteArray) = Y at *
        go_wp2_with (go_at_call 84; refine F1.out.mono ?_; rintro e w2 ⟨rfl, hb2⟩)
        go_roundw
        case rel => exact ⟨k + 1, by omega, by go_num, HN.out, below_step hbel hb2⟩
        case measure => simp [intOf]; omega
      · have hfin : fiF p L = k := by unfold fiF; rw [fiF_hit hf hp hno]
        rw [hp] at F1
        have HF := Lib.hid hfin
        replace F1 := Lib.hid F1
        clear hfin hf hno hp
        generalize (⟨f.1.toArray⟩ : ByteArray) = X at *
        generalize (⟨f.2.2.toArray⟩ : ByteArray) = Y at *
        go_wp2_with (go_at_call 84; refine F1.out.mono ?_; rintro e w2 ⟨rfl, hb2⟩)
        go_ret
        rw [HF.out]
        exact ⟨rfl, below_step hbel hb2⟩
    · obtain rfl : k = n := by omega
      rw [List.take_of_length_le (by omega)] at hno
      have HF : Hid (fiF p L = -1) := Lib.hid (by unfold fiF; rw [fiF_none hno])
      clear hno
      go_wp2
      go_ret
      rw [HF.out]
      exact ⟨rfl, hbel⟩
end Go.Proofs.Ytmcioedmjcbfbaa
