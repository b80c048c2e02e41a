/- Walks of access.Right and access.Print: replies as lines. Condition: texts are within bounds. -/
import Derived.Test.YtaddefjkjlkjnaaDoorAcc10
namespace Go.Proofs.YtaddefjkjlkjnaaDoor
open Go.RowKit IH
set_option maxRecDepth 100000

def Small28 (t : Reply) : Prop := t.method.length ≤ 1000000 ∧ t.uri.length ≤ 1000000 ∧ t.key.length ≤ 1000000
theorem far28_not {n : Int} (h : far28 n = false) : int64 n ∧ 0 ≤ n := by
  unfold far28 at h
  simp at h
  unfold int64
  omega
theorem right28_fits {t : Reply} (h : right28 t = true) : ints28 t ∧ t.method.length ≤ 32 ∧ t.uri.length ≤ 8000 ∧ t.key.length ≤ 8000 := by
  unfold right28 method28 uri28 anyFar at h
  simp only [Bool.and_eq_true, Bool.not_eq_true', List.any_cons, List.any_nil, Bool.or_eq_false_iff, decide_eq_true_eq, Bool.or_eq_true] at h
  obtain ⟨⟨⟨⟨hm, hu, _⟩, _⟩, h1, h2, h3, h4, h5, _⟩, hk⟩ := h
  refine ⟨⟨(far28_not h1).1, (far28_not h2).1, (far28_not h3).1, (far28_not h4).1, (far28_not h5).1⟩, ?_, hu.1, hk⟩
  rcases hm with hm | hm
  · have : t.method = [] := by simpa using hm
    rw [this]; simp
  · exact hm.1.2

theorem right_at (t : Reply) (w : World) (hs : Small28 t) :
    Calls Tryd.prog 75 #[.agg #[.int .i64 t.conn, .int .i64 t.kind, .int .i64 t.moment, .int .i64 t.lines, .string ⟨t.method.toArray⟩, .string ⟨t.uri.toArray⟩, .string ⟨t.key.toArray⟩, .int .i64 t.status, .int .i64 t.age]] w fun e w' => e = .returned (.bool (right28 t)) ∧ Below w.heap.size w w' := by
  have h := right_any t w (Nat.le_trans hs.1 (by decide)) (Nat.le_trans hs.2.1 (by decide)) (Nat.le_trans hs.2.2 (by decide))
  simp only [toldCells] at h
  exact h

theorem wrong_any (t : Reply) (w : World) (hs : Small28 t) :
    Calls Tryd.prog 74 #[.agg (toldCells t).toArray] w fun e w' => e = .returned (.bool (!right28 t)) ∧ Below w.heap.size w w' := by
  simp only [toldCells]
  have HS := Lib.hid hs; clear hs
  go_enter Tryd.func74, Tryd.ntmps74
  go_wp2_with (go_at_call 75; (with_reducible refine (right_at t _ HS.out).mono ?_); rintro e w1 ⟨rfl, hb⟩)
  go_ret
  exact ⟨rfl, ((Below.refl _ _).alloc (Nat.le_refl _) _).trans (hb.mono (by simp))⟩

def anyWrong (L : List Reply) : Bool := L.any fun t => !right28 t
theorem anyWrong_snoc (L : List Reply) (k : Nat) (t : Reply) (h : L[k]? = some t) : anyWrong (L.take (k + 1)) = (anyWrong (L.take k) || !right28 t) := by
  unfold anyWrong
  rw [List.take_add_one, h]
  simp
theorem anyWrong_take (L : List Reply) (k : Nat) (t : Reply) (h : L[k]? = some t) (ht : right28 t = false) : anyWrong L = true := by
  unfold anyWrong
  rw [List.any_eq_true]
  exact ⟨t, List.mem_of_getElem? h, by rw [ht]; rfl⟩

/-- Cells of one reply of a list, at its place. -/
theorem told_at {w wr : World} {L : List Reply} {A : Option Addr} {n c k : Nat} {t : Reply} (hin : SliceIn w w.heap.size 9 A n c (toldsV L)) (hbel : Below w.heap.size w wr) (ht : L[k]? = some t) (hk : k < n) :
    ∃ b off, A = some ⟨b, off, none⟩ ∧ b < w.heap.size ∧ ∀ j u, (toldCells t)[j]? = some u → wr.cell? ⟨b, off + k * 9 + j, none⟩ = some u := by
  obtain ⟨b, off, rfl, hb, hc⟩ := hin.2.2.2 (by omega)
  refine ⟨b, off, rfl, hb, fun j u hu => ?_⟩
  have hj : j < 9 := by have := (List.getElem?_eq_some_iff.1 hu).1; rw [toldCells_length] at this; exact this
  rw [hbel.cell (p := ⟨b, off + k * 9 + j, none⟩) hb, Nat.add_assoc]
  exact hc _ _ (by rw [toldsV, flat_get toldCells 9 toldCells_length L k j t ht hj, hu])

theorem wrong_at (t : Reply) (w : World) (hs : Small28 t) :
    Calls Tryd.prog 74 #[.agg #[.int .i64 t.conn, .int .i64 t.kind, .int .i64 t.moment, .int .i64 t.lines, .string ⟨t.method.toArray⟩, .string ⟨t.uri.toArray⟩, .string ⟨t.key.toArray⟩, .int .i64 t.status, .int .i64 t.age]] w fun e w' => e = .returned (.bool (!right28 t)) ∧ Below w.heap.size w w' := by
  have h := wrong_any t w hs
  simp only [toldCells] at h
  exact h

set_option maxHeartbeats 4000000 in
theorem IndexWrong_any (A : Option Addr) (n c : Nat) (L : List Reply) (w : World) (hin : SliceIn w w.heap.size 9 A n c (toldsV L)) (hs : n ≤ 1000000) (hsm : ∀ t ∈ L, Small28 t) :
    Calls Tryd.prog 111 #[.slice A n c, .func (.func 74) #[] #[]] w fun e w' => ∃ i : Int, e = .returned (.int .i64 i) ∧ decide (0 ≤ i) = anyWrong L ∧ Below w.heap.size w w' := by
  have hL : L.length = n := by have := hin.1; rw [toldsV_length] at this; omega
  have HL := Lib.hid hL; clear hL
  have Hin := Lib.hid hin; clear hin
  have Hsm := Lib.hid hsm; clear hsm
  go_enter Tryd.func111, Tryd.ntmps111
  go_wp2
  go_loopw [8] (fun i wr => ∃ k : Nat, k ≤ n ∧ i = .int .i64 k ∧ anyWrong (L.take k) = false ∧ Below w.heap.size w wr) (fun i _ => n - (intOf i).toNat)
  case atStart => exact ⟨0, by omega, rfl, rfl, Below.refl _ _⟩
  case round =>
    obtain ⟨k, hk, rfl, hno, hbel⟩ := hrel
    have Hno := Lib.hid hno; clear hno
    by_cases hlt : k < n
    · obtain ⟨t, ht⟩ : ∃ t, L[k]? = some t := ⟨_, List.getElem?_eq_getElem (by have := HL.out; omega)⟩
      obtain ⟨b, off, rfl, hb, hcell⟩ := told_at Hin.out hbel ht hlt
      have hst := Hsm.out t (List.mem_of_getElem? ht)
      have Hst := Lib.hid hst; clear hst
      have hsn := anyWrong_snoc L k t ht
      rw [Hno.out, Bool.false_or] at hsn
      have Hsn := Lib.hid hsn; clear hsn
      have Ht := Lib.hid ht; clear ht
      have Hc := Lib.hid hcell; clear hcell
      have hsz := hbel.size
      by_cases hf : right28 t = true
      · have Hf := Lib.hid hf; clear hf
        go_wp2_with (first
          | (refine wpList_load_agg rfl 48 _ rfl b (off + k * 9) rfl [.int .i64 t.conn, .int .i64 t.kind, .int .i64 t.moment, .int .i64 t.lines, .string ⟨t.method.toArray⟩, .string ⟨t.uri.toArray⟩, .string ⟨t.key.toArray⟩, .int .i64 t.status, .int .i64 t.age] _ Hc.out Tryd.underlying48 rfl (by kernel_rfl) ?_)
          | (go_at_call 74; (with_reducible refine (wrong_at t _ Hst.out).mono ?_); rintro e w1 ⟨rfl, hb1⟩; rw [Hf.out]; have hb2 := below_step hbel hb1; clear hb1))
        go_roundw
        case rel => exact ⟨k + 1, by omega, by go_num, by rw [Hsn.out, Hf.out]; rfl, hb2⟩
        case measure => simp [intOf]; omega
      · have hf' : right28 t = false := by simpa using hf
        have Hf := Lib.hid hf'; clear hf hf'
        go_wp2_with (first
          | (refine wpList_load_agg rfl 48 _ rfl b (off + k * 9) rfl [.int .i64 t.conn, .int .i64 t.kind, .int .i64 t.moment, .int .i64 t.lines, .string ⟨t.method.toArray⟩, .string ⟨t.uri.toArray⟩, .string ⟨t.key.toArray⟩, .int .i64 t.status, .int .i64 t.age] _ Hc.out Tryd.underlying48 rfl (by kernel_rfl) ?_)
          | (go_at_call 74; (with_reducible refine (wrong_at t _ Hst.out).mono ?_); rintro e w1 ⟨rfl, hb1⟩; rw [Hf.out]; have hb2 := below_step hbel hb1; clear hb1))
        go_ret
        exact ⟨k, rfl, by rw [anyWrong_take L k t Ht.out Hf.out]; simp, hb2⟩
    · obtain rfl : k = n := by omega
      have hno := Hno.out
      rw [List.take_of_length_le (by have := HL.out; omega)] at hno
      have Hno2 := Lib.hid hno; clear hno
      go_wp2
      go_ret
      exact ⟨-1, rfl, by rw [Hno2.out]; decide, hbel⟩

theorem ContainsWrong_any (A : Option Addr) (n c : Nat) (L : List Reply) (w : World) (hin : SliceIn w w.heap.size 9 A n c (toldsV L)) (hs : n ≤ 1000000) (hsm : ∀ t ∈ L, Small28 t) :
    Calls Tryd.prog 73 #[.slice A n c, .func (.func 74) #[] #[]] w fun e w' => e = .returned (.bool (anyWrong L)) ∧ Below w.heap.size w w' := by
  have Hin := Lib.hid hin; clear hin
  have Hsm := Lib.hid hsm; clear hsm
  go_enter Tryd.func73, Tryd.ntmps73
  go_wp2_with (go_at_call 111; (with_reducible refine (IndexWrong_any A n c L _ Hin.out hs Hsm.out).mono ?_); rintro e w' ⟨i, rfl, hi, hb⟩; have Hi := Lib.hid hi; clear hi)
  go_ret
  exact ⟨by rw [← Hi.out]; rfl, hb⟩

theorem Right_any (A : Option Addr) (n c : Nat) (L : List Reply) (w : World) (hin : SliceIn w w.heap.size 9 A n c (toldsV L)) (hs : n ≤ 1000000) (hsm : ∀ t ∈ L, Small28 t) :
    Calls Tryd.prog 27 #[.slice A n c] w fun e w' => e = .returned (.bool (!anyWrong L)) ∧ Below w.heap.size w w' := by
  have Hin := Lib.hid hin; clear hin
  have Hsm := Lib.hid hsm; clear hsm
  go_enter Tryd.func27, Tryd.ntmps27
  go_wp2_with (go_at_call 73; (with_reducible refine (ContainsWrong_any A n c L _ Hin.out hs Hsm.out).mono ?_); rintro e w' ⟨rfl, hb⟩)
  go_ret
  exact ⟨rfl, hb⟩

def lines28 (L : List Reply) : List UInt8 := L.flatMap line28
/-- Replies as lines: the text, and the error's number. -/
def print28 (L : List Reply) : List UInt8 × Int :=
  if anyWrong L = true then ([], 2) else if 10000 < L.length then ([], 13) else if 1048576 < (lines28 L).length then ([], 12) else (lines28 L, 0)
theorem lines28_snoc (L : List Reply) (k : Nat) (t : Reply) (h : L[k]? = some t) : lines28 (L.take (k + 1)) = lines28 (L.take k) ++ line28 t := by
  unfold lines28
  rw [List.take_add_one, h]
  simp
theorem lines28_le (L : List Reply) (k : Nat) : (lines28 (L.take k)).length ≤ (lines28 L).length := by
  have h : lines28 L = lines28 (L.take k) ++ lines28 (L.drop k) := by
    unfold lines28
    rw [← List.flatMap_append, List.take_append_drop]
  rw [h, List.length_append]
  omega
theorem not_wrong {L : List Reply} (h : anyWrong L = false) (t : Reply) (ht : t ∈ L) : right28 t = true := by
  unfold anyWrong at h
  rw [List.any_eq_false] at h
  have := h t ht
  simpa using this
theorem line28_length (t : Reply) (hm : t.method.length ≤ 1000000) (hu : t.uri.length ≤ 1000000) (hk : t.key.length ≤ 1000000) : (line28 t).length ≤ 10000001 := by
  have := words28_length t hm hu hk
  unfold line28
  rw [List.length_append]
  simp
  omega

theorem line_at (t : Reply) (w : World) (h : right28 t = true) :
    Calls Tryd.prog 77 #[.agg #[.int .i64 t.conn, .int .i64 t.kind, .int .i64 t.moment, .int .i64 t.lines, .string ⟨t.method.toArray⟩, .string ⟨t.uri.toArray⟩, .string ⟨t.key.toArray⟩, .int .i64 t.status, .int .i64 t.age]] w fun e w' => e = .returned (.string ⟨(line28 t).toArray⟩) ∧ Below w.heap.size w w' := by
  obtain ⟨h1, h2, h3, h4⟩ := right28_fits h
  have h := line_any t w h1 (by omega) (by omega) (by omega)
  simp only [toldCells] at h
  exact h

set_option maxHeartbeats 8000000 in
theorem Print28_any (A : Option Addr) (n c : Nat) (L : List Reply) (w : World) (hin : SliceIn w w.heap.size 9 A n c (toldsV L)) (hs : n ≤ 1000000) (hsm : ∀ t ∈ L, Small28 t) :
    Calls Tryd.prog 30 #[.slice A n c] w fun e w' => e = .returned (.tuple #[.string ⟨(print28 L).1.toArray⟩, .int .i64 (print28 L).2]) ∧ Below w.heap.size w w' := by
  have hL : L.length = n := by have := hin.1; rw [toldsV_length] at this; omega
  have Hin := Lib.hid hin; clear hin
  have Hsm := Lib.hid hsm; clear hsm
  by_cases hw : anyWrong L = true
  · have hp : print28 L = ([], 2) := by unfold print28; rw [if_pos hw]
    rw [hp]
    have Hw := Lib.hid hw; clear hw hp
    clear hL
    go_enter Tryd.func30, Tryd.ntmps30
    go_wp2_with (go_at_call 27; (with_reducible refine (Right_any A n c L _ Hin.out hs Hsm.out).mono ?_); rintro e w' ⟨rfl, hb⟩; rw [Hw.out])
    go_ret2
    exact ⟨rfl, hb⟩
  · have hw' : anyWrong L = false := by simpa using hw
    by_cases hmany : 10000 < n
    · have hp : print28 L = ([], 13) := by unfold print28; rw [if_neg hw, if_pos (by omega)]
      rw [hp]
      have Hw := Lib.hid hw'; clear hw hw' hp hL
      go_enter Tryd.func30, Tryd.ntmps30
      go_wp2_with (go_at_call 27; (with_reducible refine (Right_any A n c L _ Hin.out hs Hsm.out).mono ?_); rintro e w' ⟨rfl, hb⟩; rw [Hw.out])
      go_ret2
      exact ⟨rfl, hb⟩
    · have hp : print28 L = if 1048576 < (lines28 L).length then ([], 12) else (lines28 L, 0) := by unfold print28; rw [if_neg hw, if_neg (by omega)]
      have Hp := Lib.hid hp; clear hp
      have Hw := Lib.hid hw'; clear hw hw'
      have HL := Lib.hid hL; clear hL
      go_enter Tryd.func30, Tryd.ntmps30
      go_wp2_with (go_at_call 27; (with_reducible refine (Right_any A n c L _ Hin.out hs Hsm.out).mono ?_); rintro e w1 ⟨rfl, hb1⟩; rw [Hw.out])
      have hsz1 := hb1.size
      go_loopw [17] (fun i wr => ∃ k : Nat, k ≤ n ∧ i = .int .i64 k ∧ (lines28 (L.take k)).length ≤ 1048576 ∧ Bld wr w1.heap.size w1.heap.size (lines28 (L.take k)) ∧ Below w.heap.size w wr ∧ w1.heap.size ≤ wr.heap.size) (fun i _ => n - (intOf i).toNat)
      case atStart => exact ⟨0, by omega, rfl, by simp [lines28], Bld.new w1, below_al hb1 _, by simp⟩
      case round =>
        obtain ⟨k, hk, rfl, hlen, hbld, hbel, hsz⟩ := hrel
        have Hbld := Lib.hid hbld; clear hbld
        by_cases hlt : k < n
        · obtain ⟨t, ht⟩ : ∃ t, L[k]? = some t := ⟨_, List.getElem?_eq_getElem (by have := HL.out; omega)⟩
          obtain ⟨b, off, rfl, hb, hcell⟩ := told_at Hin.out hbel ht hlt
          have hrt := not_wrong Hw.out t (List.mem_of_getElem? ht)
          have hfit := right28_fits hrt
          have hll := line28_length t (by omega) (by omega) (by omega)
          have hsn := lines28_snoc L k t ht
          have hle := lines28_le L (k + 1)
          have Hsn := Lib.hid hsn; clear hsn
          have Hrt := Lib.hid hrt; clear hrt hfit
          have Hc := Lib.hid hcell; clear hcell ht
          have hlen2 : (lines28 (L.take k)).length + (⟨(line28 t).toArray⟩ : ByteArray).size ≤ 140737488355328 := by
            have h3 : (⟨(line28 t).toArray⟩ : ByteArray).size = (line28 t).length := rfl
            rw [h3]; omega
          have Hlen2 := Lib.hid hlen2; clear hlen2
          have hl3 : (lines28 (L.take (k + 1))).length = (lines28 (L.take k)).length + (line28 t).length := by rw [Hsn.out, List.length_append]
          have Hl3 := Lib.hid hl3; clear hl3
          have hsz2 := hbel.size
          have Hle := Lib.hid hle; clear hle
          go_wp2_with (first
            | (refine wpList_load_agg rfl 48 _ rfl b (off + k * 9) rfl [.int .i64 t.conn, .int .i64 t.kind, .int .i64 t.moment, .int .i64 t.lines, .string ⟨t.method.toArray⟩, .string ⟨t.uri.toArray⟩, .string ⟨t.key.toArray⟩, .int .i64 t.status, .int .i64 t.age] _ Hc.out Tryd.underlying48 rfl (by kernel_rfl) ?_)
            | (go_at_call 77; (with_reducible refine (line_at t _ Hrt.out).mono ?_); rintro e w2 ⟨rfl, hb2⟩; have hb3 := below_step (below_al hbel _) hb2; have hbl := (Hbld.out.alloc _).below hb2; have Hbl := Lib.hid hbl; clear hbl; have hsz3 : wr.heap.size + 1 ≤ w2.heap.size := (by have := hb2.size; simpa using this))
            | (go_at_call 76; refine (WriteString_any w1.heap.size w1.heap.size _ _ _ Hbl.out Hlen2.out (by omega)).mono ?_; rintro e w3 ⟨rfl, hbl3, hb4⟩; have Hbl3 := Lib.hid hbl3; clear hbl3; have hb5 := hb3.trans (hb4.mono hsz1))
            | (go_at_call 78; refine (Len_any w1.heap.size w1.heap.size _ _ Hbl3.out).mono ?_; rintro e w' ⟨rfl, rfl⟩))
          all_goals first
            | (have hbig : 1048576 < ((lines28 (L.take k)).length : Int) + ((line28 t).length : Int) := by assumption
               go_ret2
               have hres : print28 L = ([], 12) := by
                 rw [Hp.out, if_pos]
                 have h1 := Hle.out
                 have h2 := Hl3.out
                 omega
               exact ⟨by rw [hres]; rfl, hb5⟩)
            | (have hfit : ((lines28 (L.take k)).length : Int) + ((line28 t).length : Int) ≤ 1048576 := by assumption
               go_roundw
               case rel => exact ⟨k + 1, by omega, by go_num, by have h2 := Hl3.out; omega, by rw [Hsn.out]; exact Hbl3.out, hb5, by have := hb4.size; have := hb2.size; omega⟩
               case measure => simp [intOf]; omega)
        · obtain rfl : k = n := by omega
          have e : L.take k = L := List.take_of_length_le (by have := HL.out; omega)
          rw [e] at Hbld hlen
          clear e
          have hres : print28 L = (lines28 L, 0) := by rw [Hp.out, if_neg (by omega)]
          have Hres := Lib.hid hres; clear hres
          go_wp2_with (go_at_call 79; refine (String_any w1.heap.size w1.heap.size _ _ Hbld.out hsz).mono ?_; rintro e w3 ⟨rfl, hb5⟩; have hb6 := hbel.trans (hb5.mono hsz1))
          go_ret2
          exact ⟨by rw [Hres.out]; rfl, hb6⟩
end Go.Proofs.YtaddefjkjlkjnaaDoor
