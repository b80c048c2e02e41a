/- Fb: several texts, one behind the other. -/
import Derived.Test.YtniiadhhefgmcaaGreatDoorFa
import Derived.Test.YtniiadhhefgmcaaGreatDoorOv
import Derived.Test.YtniiadhhefgmcaaGreatDoorOct4
/- Walks of layer 3: is a field right, is it of a name. Condition: texts take at most 10^9 octets. -/
namespace Go.Proofs.YtniiadhhefgmcaaGreatDoor
open Go.RowKit IH
set_option maxRecDepth 100000
theorem below_al (w : World) (o : Obj) : Below w.heap.size w (w.alloc o) := (Below.refl _ _).alloc (Nat.le_refl _) _
theorem below_al_step {w w' : World} {o : Obj} (h : Below (w.alloc o).heap.size (w.alloc o) w') : Below w.heap.size w w' := below_step (below_al w o) h
theorem new_cell {w w' : World} {e : TypeId} {cs : List Value} (hb : Below (w.alloc (.cells cs.toArray e)).heap.size (w.alloc (.cells cs.toArray e)) w') {j : Nat} {v : Value} (h : cs[j]? = some v) : w'.cell? ⟨w.heap.size, j, none⟩ = some v :=
  ((RowAt.new w e cs).below hb (by simp)).cell h
theorem fright_any (f : Fld) (h1 : f.1.length ≤ 1000000000) (h2 : f.2.length ≤ 1000000000) (w : World) :
    Calls Tryz.prog 131 #[.agg #[.string ⟨f.1.toArray⟩, .string ⟨f.2.toArray⟩]] w fun e w' => e = .returned (.bool (fit f)) ∧ Below w.heap.size w w' := by
  have T : ∀ w, Calls Tryz.prog 141 #[.string ⟨f.1.toArray⟩] w fun e w' => e = .returned (.bool (token f.1)) ∧ w = w' := fun w => Token_any ⟨f.1.toArray⟩ (by rw [size_mk]; exact h1) w
  have V : ∀ w, Calls Tryz.prog 143 #[.string ⟨f.2.toArray⟩] w fun e w' => e = .returned (.bool (value f.2)) ∧ Below w.heap.size w w' := fun w => Value_any ⟨f.2.toArray⟩ (by rw [size_mk]; exact h2) w
  have e : fit f = (token f.1 && value f.2) := rfl
  rw [e]
  generalize token f.1 = t at *
  generalize value f.2 = v at *
  generalize (⟨f.1.toArray⟩ : ByteArray) = X at *
  generalize (⟨f.2.toArray⟩ : ByteArray) = Y at *
  replace T := Lib.hid T
  replace V := Lib.hid V
  clear e h1 h2
  cases t
  · go_enter Tryz.func131, Tryz.ntmps131
    go_wp2_with (go_at_call 141; refine (T.out _).mono ?_; rintro e w2 ⟨rfl, rfl⟩)
    go_ret
    exact ⟨rfl, below_al _ _⟩
  · go_enter Tryz.func131, Tryz.ntmps131
    go_wp2_with (first
      | (go_at_call 141; refine (T.out _).mono ?_; rintro e w2 ⟨rfl, rfl⟩)
      | (go_at_call 143; refine (V.out _).mono ?_; rintro e w3 ⟨rfl, hb⟩))
    go_ret
    exact ⟨by simp, below_al_step hb⟩
theorem is_any (f : Fld) (s : ByteArray) (h1 : f.1.length ≤ 1000000000) (hs : s.size ≤ 1000000000) (w : World) :
    Calls Tryz.prog 93 #[.agg #[.string ⟨f.1.toArray⟩, .string ⟨f.2.toArray⟩], .string s] w fun e w' => e = .returned (.bool (isN f s.data.toList)) ∧ Below w.heap.size w w' := by
  have L1 : ∀ w, Calls Tryz.prog 65 #[.string ⟨f.1.toArray⟩] w fun e w' => e = .returned (.string ⟨(lower f.1).toArray⟩) ∧ Below w.heap.size w w' := fun w => Lower_any ⟨f.1.toArray⟩ (by rw [size_mk]; exact h1) w
  have L2 := Lower_any s hs
  have e : isN f s.data.toList = ((⟨(lower f.1).toArray⟩ : ByteArray).toList == (⟨(lower s.data.toList).toArray⟩ : ByteArray).toList) := by
    rw [ByteArray.toList_eq, ByteArray.toList_eq]; rfl
  rw [e]
  generalize (⟨(lower f.1).toArray⟩ : ByteArray) = X1 at *
  generalize (⟨(lower s.data.toList).toArray⟩ : ByteArray) = X2 at *
  generalize (⟨f.1.toArray⟩ : ByteArray) = Y1 at *
  generalize (⟨f.2.toArray⟩ : ByteArray) = Y2 at *
  replace L1 := Lib.hid L1
  replace L2 := Lib.hid L2
  clear e h1 hs
  go_enter Tryz.func93, Tryz.ntmps93
  go_wp2_with (first
    | (go_at_call 65; (with_reducible refine (L1.out _).mono ?_); rintro e w2 ⟨rfl, hb2⟩; have B2 := Lib.hid hb2; clear hb2)
    | (go_at_call 65; (with_reducible refine (L2.out _).mono ?_); rintro e w3 ⟨rfl, hb3⟩; have B3 := Lib.hid (below_step B2.out hb3); clear hb3))
  go_ret
  exact ⟨rfl, below_al_step B3.out⟩
end Go.Proofs.YtniiadhhefgmcaaGreatDoor

/- Walks of layer 3: what is wrong with fields, by the code's way and the document's. Condition: at most 10^6 fields, texts within 10^9 octets. -/
namespace Go.Proofs.YtniiadhhefgmcaaGreatDoor
open Go.RowKit IH
set_option maxRecDepth 100000
def unfit (f : Fld) : Bool := !fit f
theorem fault1_any (f : Fld) (h1 : f.1.length ≤ 1000000000) (h2 : f.2.length ≤ 1000000000) (w : World) :
    Calls Tryz.prog 130 #[.agg #[.string ⟨f.1.toArray⟩, .string ⟨f.2.toArray⟩]] w fun e w' => e = .returned (.bool (unfit f)) ∧ Below w.heap.size w w' := by
  have R := fright_any f h1 h2
  unfold unfit
  generalize fit f = b at *
  generalize (⟨f.1.toArray⟩ : ByteArray) = X at *
  generalize (⟨f.2.toArray⟩ : ByteArray) = Y at *
  replace R := Lib.hid R
  clear h1 h2
  go_enter Tryz.func130, Tryz.ntmps130
  go_wp2_with (go_at_call 131; refine (R.out _).mono ?_; rintro e w2 ⟨rfl, hb⟩)
  go_ret
  exact ⟨rfl, below_al_step hb⟩
set_option maxHeartbeats 4000000 in
theorem IndexFault_any (A : Option Addr) (n c : Nat) (L : List Fld) (w : World) (hin : SliceIn w w.heap.size 2 A n c (fldsV L)) (hs : n ≤ 1000000) (hm : smallF 1000000000 L) :
    Calls Tryz.prog 97 #[.slice A n c, .func (.func 130) #[] #[]] w fun e w' => e = .returned (.int .i64 (fi unfit L)) ∧ Below w.heap.size w w' := by
  have hL := fld_count hin
  go_enter Tryz.func97, Tryz.ntmps97
  go_wp2
  go_loopw [8] (fun i wr => ∃ k : Nat, k ≤ n ∧ i = .int .i64 k ∧ (L.take k).any unfit = false ∧ Below w.heap.size w wr) (fun i _ => n - (intOf i).toNat)
  case atStart => exact ⟨0, by omega, rfl, rfl, Below.refl _ _⟩
  case round =>
    obtain ⟨k, hk, rfl, hno, hbel⟩ := hrel
    by_cases hlt : k < n
    · obtain ⟨f, hf⟩ : ∃ f, L[k]? = some f := ⟨_, List.getElem?_eq_getElem (by omega)⟩
      obtain ⟨b, off, rfl, hb, c0, c1⟩ := fld_at (hin.below hbel) hf
      obtain ⟨m1, m2⟩ := smallF_get hm hf
      have F1 := fault1_any f m1 m2
      by_cases hp : unfit f = true
      · have hfin := fi_hit hf hp hno
        rw [hp] at F1
        have HF := Lib.hid hfin
        replace F1 := Lib.hid F1
        clear hfin hf hno hp m1 m2
        generalize (⟨f.1.toArray⟩ : ByteArray) = X at *
        generalize (⟨f.2.toArray⟩ : ByteArray) = Y at *
        go_wp2_with (go_at_call 130; refine (F1.out _).mono ?_; rintro e w2 ⟨rfl, hb2⟩)
        go_ret
        rw [HF.out]
        exact ⟨rfl, below_step hbel hb2⟩
      · have hp' : unfit f = false := by simpa using hp
        have hnx := any_snoc hf hp' hno
        rw [hp'] at F1
        have HN := Lib.hid hnx
        replace F1 := Lib.hid F1
        clear hnx hf hno hp hp' m1 m2
        generalize (⟨f.1.toArray⟩ : ByteArray) = X at *
        generalize (⟨f.2.toArray⟩ : ByteArray) = Y at *
        go_wp2_with (go_at_call 130; refine (F1.out _).mono ?_; rintro e w2 ⟨rfl, hb2⟩)
        go_roundw
        case rel => exact ⟨k + 1, by omega, by go_num, HN.out, below_step hbel hb2⟩
        case measure => simp [intOf]; omega
    · obtain rfl : k = n := by omega
      rw [List.take_of_length_le (by omega)] at hno
      have HF := Lib.hid (fi_none hno)
      clear hno
      go_wp2
      go_ret
      rw [HF.out]
      exact ⟨rfl, hbel⟩
theorem ContainsFault_any (A : Option Addr) (n c : Nat) (L : List Fld) (w : World) (hin : SliceIn w w.heap.size 2 A n c (fldsV L)) (hs : n ≤ 1000000) (hm : smallF 1000000000 L) :
    Calls Tryz.prog 129 #[.slice A n c, .func (.func 130) #[] #[]] w fun e w' => e = .returned (.bool (L.any unfit)) ∧ Below w.heap.size w w' := by
  have I := IndexFault_any A n c L w hin hs hm
  rw [← fi_any]
  generalize fi unfit L = i at *
  replace I := Lib.hid I
  clear hin hm
  go_enter Tryz.func129, Tryz.ntmps129
  go_wp2_with (go_at_call 97; refine I.out.mono ?_; rintro e w2 ⟨rfl, hb⟩)
  go_ret
  exact ⟨rfl, hb⟩
set_option maxHeartbeats 4000000 in
theorem fsize_any (A : Option Addr) (n c : Nat) (L : List Fld) (w : World) (hin : SliceIn w w.heap.size 2 A n c (fldsV L)) (hs : n ≤ 1000000) (hm : smallF 1000000000 L) :
    Calls Tryz.prog 132 #[.slice A n c] w fun e w' => e = .returned (.int .i64 (sizeL L : Nat)) ∧ Below w.heap.size w w' := by
  have hL := fld_count hin
  have hbd : ∀ k, k ≤ n → sizeL (L.take k) ≤ 2000000005000002 := fun k hk => by
    have h1 := sizeL_bd 1000000000 L hm
    have h2 := sizeL_mono L k
    rw [hL] at h1
    omega
  have HB := Lib.hid hbd
  clear hbd
  go_enter Tryz.func132, Tryz.ntmps132
  go_wp2
  go_loopw [3, 8] (fun x i wr => ∃ k : Nat, k ≤ n ∧ i = .int .i64 k ∧ x = .int .i64 (sizeL (L.take k) : Nat) ∧ Below w.heap.size w wr) (fun _ i _ => n - (intOf i).toNat)
  case atStart => exact ⟨0, by omega, rfl, rfl, Below.refl _ _⟩
  case round =>
    obtain ⟨k, hk, rfl, rfl, hbel⟩ := hrel
    by_cases hlt : k < n
    · obtain ⟨f, hf⟩ : ∃ f, L[k]? = some f := ⟨_, List.getElem?_eq_getElem (by omega)⟩
      obtain ⟨b, off, rfl, hb, c0, c1⟩ := fld_at (hin.below hbel) hf
      have hsn := sizeL_snoc L k f hf
      have b1 := HB.out (k + 1) (by omega)
      have b0 := HB.out k (by omega)
      rw [hsn] at b1
      have z1 : (⟨f.1.toArray⟩ : ByteArray).size = f.1.length := size_mk _
      have z2 : (⟨f.2.toArray⟩ : ByteArray).size = f.2.length := size_mk _
      generalize sizeL (L.take k) = S at *
      have Hsn : Hid (sizeL (L.take (k + 1)) = S + (⟨f.1.toArray⟩ : ByteArray).size + (⟨f.2.toArray⟩ : ByteArray).size + 4) := Lib.hid (by rw [hsn, z1, z2])
      rw [← z1, ← z2] at b1
      clear hsn hf z1 z2
      generalize (⟨f.1.toArray⟩ : ByteArray) = X at *
      generalize (⟨f.2.toArray⟩ : ByteArray) = Y at *
      go_wp2
      go_roundw
      case rel => exact ⟨k + 1, by omega, by go_num, by rw [Hsn.out]; go_num, hbel.alloc hbel.size _⟩
      case measure => simp [intOf]; omega
    · obtain rfl : k = n := by omega
      have e : L.take k = L := List.take_of_length_le (by omega)
      rw [e]
      clear e
      go_wp2
      go_ret
      exact ⟨rfl, hbel⟩
end Go.Proofs.YtniiadhhefgmcaaGreatDoor

