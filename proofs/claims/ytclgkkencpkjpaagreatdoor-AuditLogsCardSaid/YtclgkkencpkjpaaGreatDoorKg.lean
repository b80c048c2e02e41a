/- Kg: several texts, one behind the other. -/
import Derived.Test.YtclgkkencpkjpaaGreatDoorKt
import Derived.Test.YtclgkkencpkjpaaGreatDoorAx
import Derived.Test.YtclgkkencpkjpaaGreatDoorOct5
/- A log's lines in memory: three cells each. No condition but as each states. -/
namespace IH
structure LogL where
  kind : Int
  key : List UInt8
  sure : Bool
def LogL.pair (l : LogL) : Int × List UInt8 := (l.kind, l.key)
end IH
namespace Go.Proofs.YtclgkkencpkjpaaGreatDoor
open Go.RowKit IH
set_option maxRecDepth 100000
def logCells (l : LogL) : List Value := [.int .i64 l.kind, .string ⟨l.key.toArray⟩, .bool l.sure]
def logsV (L : List LogL) : List Value := L.flatMap logCells
theorem logsV_length (L : List LogL) : (logsV L).length = L.length * 3 := by
  induction L with
  | nil => rfl
  | cons f L ih => rw [logsV, List.flatMap_cons, List.length_append, ← logsV, ih]; simp [logCells]; omega
theorem logsV_get (L : List LogL) (k j : Nat) (l : LogL) (h : L[k]? = some l) (hj : j < 3) : (logsV L)[k * 3 + j]? = (logCells l)[j]? := by
  induction L generalizing k with
  | nil => simp at h
  | cons f L ih =>
    have e : logsV (f :: L) = logCells f ++ logsV L := rfl
    cases k with
    | zero =>
      simp only [List.getElem?_cons_zero, Option.some.injEq] at h
      subst h
      rw [e, List.getElem?_append_left (by simp [logCells]; omega)]
      simp
    | succ k =>
      simp only [List.getElem?_cons_succ] at h
      rw [e, List.getElem?_append_right (by simp [logCells]; omega), show (k + 1) * 3 + j - (logCells f).length = k * 3 + j by simp [logCells]; omega]
      exact ih k h
theorem logsV_one (L : List LogL) : ∀ u ∈ logsV L, u.oneCell' = true := by
  intro u hu
  obtain ⟨t, _, ht⟩ := List.mem_flatMap.1 hu
  simp [logCells] at ht
  rcases ht with rfl | rfl | rfl <;> rfl
/-- A line of a slice: its cells. -/
theorem log_at {w : World} {B n c : Nat} {A : Option Addr} {L : List LogL} (h : SliceIn w B 3 A n c (logsV L)) {k : Nat} {l : LogL} (hk : L[k]? = some l) :
    ∃ b off, A = some ⟨b, off, none⟩ ∧ b < B ∧ w.cell? ⟨b, off + k * 3, none⟩ = some (.int .i64 l.kind) ∧ w.cell? ⟨b, off + k * 3 + 1, none⟩ = some (.string ⟨l.key.toArray⟩) ∧ w.cell? ⟨b, off + k * 3 + 2, none⟩ = some (.bool l.sure) := by
  obtain ⟨h1, h2, h3, h4⟩ := h
  have hkl : k < L.length := (List.getElem?_eq_some_iff.1 hk).1
  rw [logsV_length] at h1
  obtain ⟨b, off, rfl, hb, hc⟩ := h4 (by omega)
  exact ⟨b, off, rfl, hb, by simpa using hc _ _ ((logsV_get L k 0 l hk (by omega)).trans rfl), by simpa [Nat.add_assoc] using hc _ _ ((logsV_get L k 1 l hk (by omega)).trans rfl), by simpa [Nat.add_assoc] using hc _ _ ((logsV_get L k 2 l hk (by omega)).trans rfl)⟩
theorem log_count {w : World} {B n c : Nat} {A : Option Addr} {L : List LogL} (h : SliceIn w B 3 A n c (logsV L)) : L.length = n := by
  have := h.1
  rw [logsV_length] at this
  omega
end Go.Proofs.YtclgkkencpkjpaaGreatDoor

/- Layer 17: texts in their order by the document. Condition: lengths within bounds. -/
namespace Go.Proofs.YtclgkkencpkjpaaGreatDoor
open Go.RowKit IH
set_option maxRecDepth 100000
theorem lessB_cut {x y : List UInt8} {k : Nat} (h : x.take k = y.take k) (hx : k ≤ x.length) (hy : k ≤ y.length) : lessB x y = lessB (x.drop k) (y.drop k) := by
  induction k generalizing x y with
  | zero => simp
  | succ k ih =>
    match x, y, h, hx, hy with
    | a :: x, b :: y, h, hx, hy =>
      simp only [List.take_succ_cons, List.cons.injEq] at h
      obtain ⟨rfl, h⟩ := h
      simp only [List.length_cons] at hx hy
      rw [List.drop_succ_cons, List.drop_succ_cons, ← ih h (by omega) (by omega)]
      simp [lessB]
set_option maxHeartbeats 4000000 in
theorem rless_any (a b : ByteArray) (ha : a.size ≤ 1000000000) (hb : b.size ≤ 1000000000) (w : World) :
    Calls Tryz.prog 73 #[.string a, .string b] w fun e w' => e = .returned (.bool (lessB a.data.toList b.data.toList)) ∧ ∃ q, w' = w.drewN q := by
  obtain ⟨T, hT⟩ : ∃ T, lessB a.data.toList b.data.toList = T := ⟨_, rfl⟩
  rw [hT]
  have HT := Lib.hid hT
  clear hT
  go_enter Tryz.func73, Tryz.ntmps73
  go_wp2
  go_loopw [5] (fun i wr => ∃ k : Nat, i = .int .i64 k ∧ k ≤ a.size ∧ k ≤ b.size ∧ a.data.toList.take k = b.data.toList.take k ∧ ∃ q, wr = w.drewN q) (fun i _ => a.size - (intOf i).toNat)
  case atStart => exact ⟨0, rfl, by omega, by omega, rfl, 0, rfl⟩
  case round =>
    obtain ⟨k, rfl, hka, hkb, htk, q, hq⟩ := hrel
    have HQ := Lib.hid hq
    have hlb := lessB_cut htk (by rw [data_len]; exact hka) (by rw [data_len]; exact hkb)
    clear hq
    by_cases hla : k < a.size
    · by_cases hlb2 : k < b.size
      · obtain ⟨x, hx⟩ : ∃ c, a[k] = c := ⟨_, rfl⟩
        obtain ⟨y, hy⟩ : ∃ c, b[k] = c := ⟨_, rfl⟩
        have gx : a.data.toList[k]? = some x := by rw [get_data a k hla, hx]
        have gy : b.data.toList[k]? = some y := by rw [get_data b k hlb2, hy]
        have dx := data_drop a k hla
        have dy := data_drop b k hlb2
        rw [hx] at dx
        rw [hy] at dy
        have jI : (k : Int) < (a.size : Int) := by omega
        have jJ : (k : Int) < (b.size : Int) := by omega
        rw [dx, dy] at hlb
        by_cases hxy : x = y
        · subst hxy
          have HT2 := Lib.hid (show a.data.toList.take (k + 1) = b.data.toList.take (k + 1) by rw [List.take_add_one, List.take_add_one, gx, gy, htk])
          have exy : ((x.toNat : Int) != (x.toNat : Int)) = false := by simp
          clear gx gy dx dy hlb htk
          go_wp2
          go_region
          go_wp2
          go_roundw
          case rel => exact ⟨k + 1, by go_num, by omega, by omega, HT2.out, q + 1, by rw [HQ.out]; rfl⟩
          case measure => simp [intOf]; omega
        · have hne : ((x.toNat : Int) == (y.toNat : Int)) = false := by rw [beq_eq_false_iff_ne]; intro h; exact hxy (UInt8.toNat_inj.1 (by omega))
          have exy : ((x.toNat : Int) != (y.toNat : Int)) = true := by rw [bne, hne]; rfl
          have HL := Lib.hid (HT.out.symm.trans (hlb.trans (show lessB (x :: a.data.toList.drop (k + 1)) (y :: b.data.toList.drop (k + 1)) = decide (x.toNat < y.toNat) by unfold lessB; rw [if_neg hxy])))
          clear gx gy dx dy hlb htk
          go_wp2
          go_region
          go_wp2
          go_region
          go_wp2
          go_ret
          exact ⟨by rw [HL.out]; rfl, q + 2, by rw [HQ.out]; rfl⟩
      · have HL := Lib.hid (HT.out.symm.trans (hlb.trans (show lessB (a.data.toList.drop k) (b.data.toList.drop k) = decide (a.size < b.size) by
          rw [show b.data.toList.drop k = [] from List.drop_eq_nil_of_le (by rw [data_len]; omega), show decide (a.size < b.size) = false from decide_eq_false (by omega)]
          cases a.data.toList.drop k <;> rfl)))
        have jI : (k : Int) < (a.size : Int) := by omega
        have jJ : ¬ (k : Int) < (b.size : Int) := by omega
        clear hlb htk
        go_wp2
        go_ret
        exact ⟨by rw [HL.out]; rfl, q, HQ.out⟩
    · have HL := Lib.hid (HT.out.symm.trans (hlb.trans (show lessB (a.data.toList.drop k) (b.data.toList.drop k) = decide (a.size < b.size) by
        rw [show a.data.toList.drop k = [] from List.drop_eq_nil_of_le (by rw [data_len]; omega)]
        by_cases h : k < b.size
        · rw [data_drop b k h, show decide (a.size < b.size) = true from decide_eq_true (by omega)]; rfl
        · rw [show b.data.toList.drop k = [] from List.drop_eq_nil_of_le (by rw [data_len]; omega), show decide (a.size < b.size) = false from decide_eq_false (by omega)]; rfl)))
      have jI : ¬ (k : Int) < (a.size : Int) := by omega
      clear hlb htk
      go_wp2
      go_ret
      exact ⟨by rw [HL.out]; rfl, q, HQ.out⟩
end Go.Proofs.YtclgkkencpkjpaaGreatDoor
