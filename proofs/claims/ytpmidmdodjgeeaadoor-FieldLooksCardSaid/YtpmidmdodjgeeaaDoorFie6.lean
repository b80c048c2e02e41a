/- Walks of layer 3: a copy of fields; the closures of Without and With, and what the library's search makes of them. Condition: at most 10^6 fields and names, texts within 10^9 octets. -/
import Derived.Test.YtpmidmdodjgeeaaDoorFie5
import Derived.Laws.Cover3
namespace Go.Proofs.YtpmidmdodjgeeaaDoor
open Go.RowKit IH
set_option maxRecDepth 100000
theorem eql_slice_nil {P : Program} (w : World) (t e : TypeId) (a : Option Addr) (l c : Nat) (h : P.underlying t = some (.slice e)) : (binOp .eql t (.slice a l c) (.slice none 0 0)).run P w = .ok (.bool a.isNone) w := by
  simp only [binOp]
  simp [run_equal_slice_nil w t e a l c h]
set_option maxHeartbeats 1000000 in
theorem clone_any (A : Option Addr) (n c : Nat) (L : List Fld) (w : World) (hin : SliceIn w w.heap.size 2 A n c (fldsV L)) (hs : n ≤ 1000000) :
    Calls Tryd.prog 46 #[.slice A n c] w fun e w' => ∃ v, e = .returned v ∧ w'.ownsRow w.heap.size 44 2 v L.length (fldsV L) ∧ Below w.heap.size w w' := by
  have hL := fld_count hin
  rcases A with _ | a
  · have h0 : n = 0 := by
      rcases Nat.eq_zero_or_pos n with h | h
      · exact h
      · obtain ⟨b, off, h1, _⟩ := hin.2.2.2 h; cases h1
    subst h0
    obtain rfl : L = [] := List.eq_nil_of_length_eq_zero hL
    clear hL
    have hq := fun w => eql_slice_nil (P := Tryd.prog) w 24 44 none 0 c Tryd.underlying24
    go_enter Tryd.func46, Tryd.ntmps46
    go_wp2
    go_ret
    exact ⟨_, rfl, World.ownsRow_nil _ _ _ _, Below.refl _ _⟩
  · subst hL
    have hown := World.ownsRow_lit (base := w.heap.size) (e := 44) (size := 2) w #[] 0 (Nat.le_refl _) (by simp [maxLen]) rfl
    have hin2 := hin.alloc (Nat.le_refl _) (.cells #[] 44)
    have Hown := Lib.hid hown
    have Hin2 := Lib.hid hin2
    clear hown hin2 hin
    have hq := fun w => eql_slice_nil (P := Tryd.prog) w 24 44 (some a) L.length c Tryd.underlying24
    go_enter Tryd.func46, Tryd.ntmps46
    go_wp2_with (at_builtin; refine wpList_appS fld_ty rfl _ _ rfl w.heap.size _ 0 [] rfl Hown.out w.heap.size (some a) L.length c (fldsV L) rfl Hin2.out (fldsV_one L) (by omega) (by simp only [maxLen]; omega) (by simp) ?_; intro v' w3 hown' hgr)
    go_ret
    refine ⟨_, rfl, ?_, ((Below.refl _ _).alloc (Nat.le_refl _) _).grown hgr (by simp) (fun g hg => (Hown.out.lt g hg).1)⟩
    simpa using hown'
theorem with1_any (f : Fld) (m : ByteArray) (g : Nat) (h1 : f.1.length ≤ 1000000000) (hm : m.size ≤ 1000000000) (w : World) (hg : g < w.heap.size) (c0 : w.cell? ⟨g, 0, none⟩ = some (.string m)) :
    Calls Tryd.prog 51 #[.agg #[.string ⟨f.1.toArray⟩, .string ⟨f.2.toArray⟩], .pointer (some ⟨g, 0, none⟩)] w fun e w' => e = .returned (.bool (isN f m.data.toList)) ∧ Below w.heap.size w w' := by
  have IS := is_any f m h1 hm
  generalize isN f m.data.toList = r at *
  generalize (⟨f.1.toArray⟩ : ByteArray) = X at *
  generalize (⟨f.2.toArray⟩ : ByteArray) = Y at *
  replace IS := Lib.hid IS
  have d0 := (World.cell?_alloc_lt w (.cells #[.string X, .string Y] 44) ⟨g, 0, none⟩ hg).trans c0
  clear h1 hm c0
  go_enter Tryd.func51, Tryd.ntmps51
  go_wp2_with (go_at_call 44; (with_reducible refine (IS.out _).mono ?_); rintro e w2 ⟨rfl, hb2⟩)
  go_ret
  exact ⟨rfl, below_al_step hb2⟩
set_option maxHeartbeats 4000000 in
theorem IndexWith_any (A : Option Addr) (n c : Nat) (L : List Fld) (m : ByteArray) (g : Nat) (w : World) (hin : SliceIn w w.heap.size 2 A n c (fldsV L)) (hs : n ≤ 1000000) (hm : smallF 1000000000 L) (hz : m.size ≤ 1000000000) (hg : g < w.heap.size) (cg : w.cell? ⟨g, 0, none⟩ = some (.string m)) :
    Calls Tryd.prog 50 #[.slice A n c, .func (.func 51) #[] #[.pointer (some ⟨g, 0, none⟩)]] w fun e w' => e = .returned (.int .i64 (fi (fun f => isN f m.data.toList) L)) ∧ Below w.heap.size w w' := by
  have hL := fld_count hin
  obtain ⟨p, hp⟩ : ∃ p : Fld → Bool, (fun f => isN f m.data.toList) = p := ⟨_, rfl⟩
  have hpf : ∀ f, isN f m.data.toList = p f := fun f => by rw [← hp]
  rw [hp]
  have HPF := Lib.hid hpf
  clear hp hpf
  go_enter Tryd.func50, Tryd.ntmps50
  go_wp2
  go_loopw [8] (fun i wr => ∃ k : Nat, k ≤ n ∧ i = .int .i64 k ∧ (L.take k).any p = false ∧ Below w.heap.size w wr) (fun i _ => n - (intOf i).toNat)
  case atStart => exact ⟨0, by omega, rfl, rfl, Below.refl _ _⟩
  case round =>
    obtain ⟨k, hk, rfl, hno, hbel⟩ := hrel
    by_cases hlt : k < n
    · obtain ⟨f, hf⟩ : ∃ f, L[k]? = some f := ⟨_, List.getElem?_eq_getElem (by omega)⟩
      obtain ⟨b, off, rfl, hb, c0, c1⟩ := fld_at (hin.below hbel) hf
      obtain ⟨m1, m2⟩ := smallF_get hm hf
      have cr := (hbel.cell (p := ⟨g, 0, none⟩) hg).trans cg
      have F1 := with1_any f m g m1 hz wr (Nat.lt_of_lt_of_le hg hbel.size) cr
      rw [HPF.out] at F1
      clear cr
      cases hp : p f
      · have hnx := any_snoc hf hp hno
        rw [hp] at F1
        have HN := Lib.hid hnx
        replace F1 := Lib.hid F1
        clear hnx hf hno hp m1 m2
        generalize (⟨f.1.toArray⟩ : ByteArray) = X at *
        generalize (⟨f.2.toArray⟩ : ByteArray) = Y at *
        go_wp2_with (go_at_call 51; refine F1.out.mono ?_; rintro e w2 ⟨rfl, hb2⟩)
        go_roundw
        case rel => exact ⟨k + 1, by omega, by go_num, HN.out, below_step hbel hb2⟩
        case measure => simp [intOf]; omega
      · have hfin := fi_hit hf hp hno
        rw [hp] at F1
        have HF := Lib.hid hfin
        replace F1 := Lib.hid F1
        clear hfin hf hno hp m1 m2
        generalize (⟨f.1.toArray⟩ : ByteArray) = X at *
        generalize (⟨f.2.toArray⟩ : ByteArray) = Y at *
        go_wp2_with (go_at_call 51; refine F1.out.mono ?_; rintro e w2 ⟨rfl, hb2⟩)
        go_ret
        rw [HF.out]
        exact ⟨rfl, below_step hbel hb2⟩
    · obtain rfl : k = n := by omega
      rw [List.take_of_length_le (by omega)] at hno
      have HF := Lib.hid (fi_none hno)
      clear hno
      go_wp2
      go_ret
      rw [HF.out]
      exact ⟨rfl, hbel⟩
def smallS (M : Nat) (N : List (List UInt8)) : Prop := ∀ x ∈ N, x.length ≤ M
theorem str_at {w : World} {B n c : Nat} {A : Option Addr} {L : List (List UInt8)} (h : SliceIn w B 1 A n c (strsV L)) {k : Nat} {x : List UInt8} (hk : L[k]? = some x) :
    ∃ b off, A = some ⟨b, off, none⟩ ∧ b < B ∧ w.cell? ⟨b, off + k, none⟩ = some (.string ⟨x.toArray⟩) := by
  obtain ⟨h1, h2, h3, h4⟩ := h
  have hkl : k < L.length := (List.getElem?_eq_some_iff.1 hk).1
  rw [strsV_length] at h1
  obtain ⟨b, off, rfl, hb, hc⟩ := h4 (by omega)
  exact ⟨b, off, rfl, hb, hc _ _ (by rw [strsV_get, hk]; rfl)⟩
theorem str_count {w : World} {B n c : Nat} {A : Option Addr} {L : List (List UInt8)} (h : SliceIn w B 1 A n c (strsV L)) : L.length = n := by
  have := h.1
  rw [strsV_length] at this
  omega
theorem without11_any (f : Fld) (m : ByteArray) (g : Nat) (h1 : f.1.length ≤ 1000000000) (hm : m.size ≤ 1000000000) (w : World) (c0 : w.cell? ⟨g, 0, none⟩ = some (.string ⟨f.1.toArray⟩)) (c1 : w.cell? ⟨g, 1, none⟩ = some (.string ⟨f.2.toArray⟩)) :
    Calls Tryd.prog 49 #[.string m, .pointer (some ⟨g, 0, none⟩)] w fun e w' => e = .returned (.bool (isN f m.data.toList)) ∧ Below w.heap.size w w' := by
  have IS := is_any f m h1 hm
  generalize isN f m.data.toList = r at *
  generalize (⟨f.1.toArray⟩ : ByteArray) = X at *
  generalize (⟨f.2.toArray⟩ : ByteArray) = Y at *
  replace IS := Lib.hid IS
  clear h1 hm
  go_enter Tryd.func49, Tryd.ntmps49
  go_wp2_with (go_at_call 44; (with_reducible refine (IS.out _).mono ?_); rintro e w2 ⟨rfl, hb2⟩)
  go_ret
  exact ⟨rfl, hb2⟩
set_option maxHeartbeats 4000000 in
theorem IndexNames_any (A : Option Addr) (n c : Nat) (N : List (List UInt8)) (f : Fld) (g : Nat) (w : World) (hin : SliceIn w w.heap.size 1 A n c (strsV N)) (hs : n ≤ 1000000) (hm : smallS 1000000000 N) (h1 : f.1.length ≤ 1000000000) (hg : g < w.heap.size) (g0 : w.cell? ⟨g, 0, none⟩ = some (.string ⟨f.1.toArray⟩)) (g1 : w.cell? ⟨g, 1, none⟩ = some (.string ⟨f.2.toArray⟩)) :
    Calls Tryd.prog 74 #[.slice A n c, .func (.func 49) #[] #[.pointer (some ⟨g, 0, none⟩)]] w fun e w' => e = .returned (.int .i64 (fi (fun x => isN f x) N)) ∧ Below w.heap.size w w' := by
  have hL := str_count hin
  obtain ⟨p, hp⟩ : ∃ p : List UInt8 → Bool, (fun x => isN f x) = p := ⟨_, rfl⟩
  have hpf : ∀ x, isN f x = p x := fun f => by rw [← hp]
  rw [hp]
  have HPF := Lib.hid hpf
  clear hp hpf
  go_enter Tryd.func74, Tryd.ntmps74
  go_wp2
  go_loopw [8] (fun i wr => ∃ k : Nat, k ≤ n ∧ i = .int .i64 k ∧ (N.take k).any p = false ∧ Below w.heap.size w wr) (fun i _ => n - (intOf i).toNat)
  case atStart => exact ⟨0, by omega, rfl, rfl, Below.refl _ _⟩
  case round =>
    obtain ⟨k, hk, rfl, hno, hbel⟩ := hrel
    by_cases hlt : k < n
    · obtain ⟨x, hx⟩ : ∃ f, N[k]? = some f := ⟨_, List.getElem?_eq_getElem (by omega)⟩
      obtain ⟨b, off, rfl, hb, c0⟩ := str_at (hin.below hbel) hx
      have m1 : (⟨x.toArray⟩ : ByteArray).size ≤ 1000000000 := by rw [size_mk]; exact hm x (List.mem_of_getElem? hx)
      have q0 := (hbel.cell (p := ⟨g, 0, none⟩) hg).trans g0
      have q1 := (hbel.cell (p := ⟨g, 1, none⟩) hg).trans g1
      have F1 := without11_any f ⟨x.toArray⟩ g h1 m1 wr q0 q1
      have e : isN f (⟨x.toArray⟩ : ByteArray).data.toList = p x := HPF.out x
      rw [e] at F1
      clear q0 q1 e
      cases hp : p x
      · have hnx := any_snoc hx hp hno
        rw [hp] at F1
        have HN := Lib.hid hnx
        replace F1 := Lib.hid F1
        clear hnx hx hno hp m1
        generalize (⟨x.toArray⟩ : ByteArray) = X at *
        go_wp2_with (go_at_call 49; refine F1.out.mono ?_; rintro e w2 ⟨rfl, hb2⟩)
        go_roundw
        case rel => exact ⟨k + 1, by omega, by go_num, HN.out, below_step hbel hb2⟩
        case measure => simp [intOf]; omega
      · have hfin := fi_hit hx hp hno
        rw [hp] at F1
        have HF := Lib.hid hfin
        replace F1 := Lib.hid F1
        clear hfin hx hno hp m1
        generalize (⟨x.toArray⟩ : ByteArray) = X at *
        go_wp2_with (go_at_call 49; refine F1.out.mono ?_; rintro e w2 ⟨rfl, hb2⟩)
        go_ret
        rw [HF.out]
        exact ⟨rfl, below_step hbel hb2⟩
    · obtain rfl : k = n := by omega
      rw [List.take_of_length_le (by omega)] at hno
      have HF := Lib.hid (fi_none hno)
      clear hno
      go_wp2
      go_ret
      rw [HF.out]
      exact ⟨rfl, hbel⟩
theorem ContainsNames_any (A : Option Addr) (n c : Nat) (N : List (List UInt8)) (f : Fld) (g : Nat) (w : World) (hin : SliceIn w w.heap.size 1 A n c (strsV N)) (hs : n ≤ 1000000) (hm : smallS 1000000000 N) (h1 : f.1.length ≤ 1000000000) (hg : g < w.heap.size) (g0 : w.cell? ⟨g, 0, none⟩ = some (.string ⟨f.1.toArray⟩)) (g1 : w.cell? ⟨g, 1, none⟩ = some (.string ⟨f.2.toArray⟩)) :
    Calls Tryd.prog 48 #[.slice A n c, .func (.func 49) #[] #[.pointer (some ⟨g, 0, none⟩)]] w fun e w' => e = .returned (.bool (N.any fun x => isN f x)) ∧ Below w.heap.size w w' := by
  have I := IndexNames_any A n c N f g w hin hs hm h1 hg g0 g1
  rw [← fi_any]
  generalize fi (fun x => isN f x) N = i at *
  replace I := Lib.hid I
  clear hin hm g0 g1
  go_enter Tryd.func48, Tryd.ntmps48
  go_wp2_with (go_at_call 74; refine I.out.mono ?_; rintro e w2 ⟨rfl, hb⟩)
  go_ret
  exact ⟨rfl, hb⟩
end Go.Proofs.YtpmidmdodjgeeaaDoor
