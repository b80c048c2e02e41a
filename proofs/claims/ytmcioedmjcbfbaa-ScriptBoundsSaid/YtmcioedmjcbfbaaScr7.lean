/- Walks of layer 27: what a crash keeps, of a text, on both sides. Condition: texts within 10^9 octets. -/
import Derived.Test.YtmcioedmjcbfbaaKt
import Derived.Test.YtmcioedmjcbfbaaPm
import Derived.IntWalk
namespace Go.Proofs.Ytmcioedmjcbfbaa
open Go.RowKit IH
set_option maxRecDepth 100000
theorem bool_ty : SliceTy Try.prog 49 4 (.bool false) 1 1 := ⟨Try.underlying49, by kernel_rfl, rfl, by decide⟩
def boolsV (l : List Bool) : List Value := l.map .bool
theorem boolsV_append (a b : List Bool) : boolsV (a ++ b) = boolsV a ++ boolsV b := by simp [boolsV]
theorem boolsV_length (l : List Bool) : (boolsV l).length = l.length := by simp [boolsV]
theorem boolsV_one (l : List Bool) : ∀ u ∈ boolsV l, u.oneCell' = true := by
  intro u hu
  obtain ⟨b, _, rfl⟩ := List.mem_map.1 hu
  rfl
def is01 (c : UInt8) : Bool := c == 48 || c == 49
def to1 (l : List UInt8) : List Bool := l.map (· == 49)
theorem to1_snoc (l : List UInt8) (k : Nat) (c : UInt8) (h : l[k]? = some c) : to1 (l.take (k + 1)) = to1 (l.take k) ++ [c == 49] := by
  unfold to1; rw [List.take_add_one, h]; simp
theorem to1_length (l : List UInt8) (k : Nat) (h : k ≤ l.length) : (to1 (l.take k)).length = k := by simp [to1]; omega
theorem all01_snoc (l : List UInt8) (k : Nat) (c : UInt8) (h : l[k]? = some c) (h0 : (l.take k).all is01 = true) (hc : is01 c = true) : (l.take (k + 1)).all is01 = true := by
  rw [List.take_add_one, h, List.all_append, h0]; simp [hc]
theorem keepP_bad {l : List UInt8} {k : Nat} {c : UInt8} (h : l[k]? = some c) (hc : is01 c = false) (h45 : l ≠ [45]) : keepP l = none := by
  unfold keepP
  rw [if_neg h45, if_neg]
  rintro ⟨_, h2⟩
  have := List.all_eq_true.1 h2 c (List.mem_of_getElem? h)
  unfold is01 at hc
  rw [hc] at this
  cases this
theorem keepP_good {l : List UInt8} (h : l.all is01 = true) (h45 : l ≠ [45]) (hne : l ≠ []) : keepP l = some (to1 l) := by
  unfold keepP
  rw [if_neg h45, if_pos ⟨hne, h⟩]
  rfl
theorem keepP_nil : keepP [] = none := rfl
set_option maxHeartbeats 4000000 in
theorem keeps_any (s : ByteArray) (hs : s.size ≤ 1000000000) (w : World) :
    Calls Try.prog 86 #[.string s] w fun e w' => ∃ v, e = .returned (.tuple #[v, .bool (keepP s.data.toList).isSome]) ∧ w'.ownsRow w.heap.size 4 1 v ((keepP s.data.toList).getD []).length (boolsV ((keepP s.data.toList).getD [])) ∧ Below w.heap.size w w' := by
  by_cases h45 : s.data.toList = [45]
  · have hss : s = ⟨#[45]⟩ := bytes_inj (by rw [h45])
    have hk : keepP s.data.toList = some [] := by rw [h45]; rfl
    rw [hk]
    subst hss
    clear h45 hk hs
    go_enter Try.func86, Try.ntmps86
    go_wp2
    go_ret2
    exact ⟨_, rfl, World.ownsRow_nil _ _ _ _, Below.refl _ _⟩
  · obtain ⟨l, hl⟩ : ∃ l, s.data.toList = l := ⟨_, rfl⟩
    have hll : l.length = s.size := by rw [← hl, data_len]
    have hne : (s.toList == [45]) = false := by
      rw [beq_eq_false_iff_ne, ByteArray.toList_eq]
      exact h45
    rw [hl]
    rw [hl] at h45
    go_enter Try.func86, Try.ntmps86
    go_wp2
    go_loopw [4, 10] (fun v i wr => ∃ k : Nat, k ≤ s.size ∧ i = .int .i64 k ∧ (l.take k).all is01 = true ∧ wr.ownsRow w.heap.size 4 1 v k (boolsV (to1 (l.take k))) ∧ Below w.heap.size w wr) (fun _ i _ => s.size - (intOf i).toNat)
    case atStart => exact ⟨0, by omega, rfl, rfl, World.ownsRow_nil _ _ _ _, Below.refl _ _⟩
    case round =>
      obtain ⟨k, hk, rfl, hall, hrow, hbel⟩ := hrel
      have Hrow := Lib.hid hrow
      have Hall := Lib.hid hall
      have hbs := hbel.size
      clear hrow hall
      by_cases hlt : k < s.size
      · obtain ⟨c, hc⟩ : ∃ c, l[k]? = some c := ⟨_, List.getElem?_eq_getElem (by omega)⟩
        have hat : s[k] = c := by
          have h1 := get_data s k hlt
          rw [hl, hc] at h1
          exact (Option.some.inj h1).symm
        cases h01 : is01 c
        · have hP := keepP_bad hc h01 h45
          have HP := Lib.hid hP
          have e1 : ((c.toNat : Int) == 48) = false := by
            unfold is01 at h01
            rw [beq_eq_false_iff_ne]
            intro h
            have : c = 48 := UInt8.toNat_inj.1 (by simpa using (by omega : c.toNat = 48))
            rw [this] at h01; simp at h01
          have e2 : ((c.toNat : Int) == 49) = false := by
            unfold is01 at h01
            rw [beq_eq_false_iff_ne]
            intro h
            have : c = 49 := UInt8.toNat_inj.1 (by simpa using (by omega : c.toNat = 49))
            rw [this] at h01; simp at h01
          have e3 : ((c.toNat : Int) != 48) = true := by rw [bne, e1]; rfl
          have e4 : ((c.toNat : Int) != 49) = true := by rw [bne, e2]; rfl
          clear hP hc h01 hl hll h45
          go_wp2
          go_ret2
          rw [HP.out]
          exact ⟨_, rfl, World.ownsRow_nil _ _ _ _, hbel⟩
        · have hsn := to1_snoc l k c hc
          have hal := all01_snoc l k c hc Hall.out h01
          obtain ⟨b, hb⟩ : ∃ b, (c == 49) = b := ⟨_, rfl⟩
          have hcase : (c = 48 ∧ b = false) ∨ (c = 49 ∧ b = true) := by
            unfold is01 at h01
            simp only [Bool.or_eq_true, beq_iff_eq] at h01
            rcases h01 with rfl | rfl
            · exact .inl ⟨rfl, by rw [← hb]; rfl⟩
            · exact .inr ⟨rfl, by rw [← hb]; rfl⟩
          rw [hb] at hsn
          have Hsn := Lib.hid hsn
          have Hal := Lib.hid hal
          clear hsn hal hc h01 hl hb
          rcases hcase with ⟨rfl, rfl⟩ | ⟨rfl, rfl⟩
          · go_wp2_with (at_builtin; refine wpList_app bool_ty rfl _ _ rfl w.heap.size _ _ _ rfl Hrow.out 1 1 [.bool false] rfl (by rfl) (boolsV_one [false]) (by omega) (by simp only [maxLen]; omega) hbs ?_; intro v' w4 hown' hgr)
            go_roundw
            case rel => exact ⟨k + 1, by omega, by go_num, Hal.out, by rw [Hsn.out, boolsV_append]; exact hown', hbel.grown hgr hbs (fun g hg => (Hrow.out.lt g hg).1)⟩
            case measure => simp [intOf]; omega
          · go_wp2_with (at_builtin; refine wpList_app bool_ty rfl _ _ rfl w.heap.size _ _ _ rfl Hrow.out 1 1 [.bool true] rfl (by rfl) (boolsV_one [true]) (by omega) (by simp only [maxLen]; omega) hbs ?_; intro v' w4 hown' hgr)
            go_roundw
            case rel => exact ⟨k + 1, by omega, by go_num, Hal.out, by rw [Hsn.out, boolsV_append]; exact hown', hbel.grown hgr hbs (fun g hg => (Hrow.out.lt g hg).1)⟩
            case measure => simp [intOf]; omega
      · obtain rfl : k = s.size := by omega
        rw [List.take_of_length_le (by omega)] at Hrow Hall
        by_cases h0 : l = []
        · subst h0
          have hs0 : s = ⟨#[]⟩ := bytes_inj (by rw [hl])
          subst hs0
          clear hl hll hne h45 Hall
          go_wp2
          go_ret2
          rw [keepP_nil]
          exact ⟨_, rfl, Hrow.out, hbel⟩
        · have HP := Lib.hid (keepP_good Hall.out h45 h0)
          have hlen : (to1 l).length = s.size := by rw [← hll]; simp [to1]
          have h0L : 0 < s.size := by
            rw [← hll]
            cases l with
            | nil => exact absurd rfl h0
            | cons => simp
          have hne2 : (s.toList == []) = false := by
            rw [beq_eq_false_iff_ne, ByteArray.toList_eq, hl]
            exact h0
          have HL := Lib.hid hlen
          clear hl hll h45 Hall h0 hlen
          go_wp2
          go_ret2
          rw [HP.out]
          exact ⟨_, rfl, by simp only [Option.getD_some]; rw [HL.out]; exact Hrow.out, hbel⟩
set_option maxHeartbeats 4000000 in
theorem refKeep_any (s : ByteArray) (hs : s.size ≤ 1000000000) (w : World) :
    Calls Try.prog 62 #[.string s] w fun e w' => ∃ v, e = .returned (.tuple #[v, .bool (keepP s.data.toList).isSome]) ∧ w'.ownsRow w.heap.size 4 1 v ((keepP s.data.toList).getD []).length (boolsV ((keepP s.data.toList).getD [])) ∧ Below w.heap.size w w' := by
  by_cases h45 : s.data.toList = [45]
  · have hss : s = ⟨#[45]⟩ := bytes_inj (by rw [h45])
    have hk : keepP s.data.toList = some [] := by rw [h45]; rfl
    rw [hk]
    subst hss
    clear h45 hk hs
    go_enter Try.func62, Try.ntmps62
    go_wp2
    go_ret2
    exact ⟨_, rfl, World.ownsRow_nil _ _ _ _, Below.refl _ _⟩
  · obtain ⟨l, hl⟩ : ∃ l, s.data.toList = l := ⟨_, rfl⟩
    have hll : l.length = s.size := by rw [← hl, data_len]
    have hne : (s.toList == [45]) = false := by
      rw [beq_eq_false_iff_ne, ByteArray.toList_eq]
      exact h45
    rw [hl]
    rw [hl] at h45
    go_enter Try.func62, Try.ntmps62
    go_wp2
    go_loopw [4, 5] (fun v i wr => ∃ k : Nat, k ≤ s.size ∧ i = .int .i64 k ∧ (l.take k).all is01 = true ∧ wr.ownsRow w.heap.size 4 1 v k (boolsV (to1 (l.take k))) ∧ Below w.heap.size w wr) (fun _ i _ => s.size - (intOf i).toNat)
    case atStart => exact ⟨0, by omega, rfl, rfl, World.ownsRow_nil _ _ _ _, Below.refl _ _⟩
    case round =>
      obtain ⟨k, hk, rfl, hall, hrow, hbel⟩ := hrel
      have Hrow := Lib.hid hrow
      have Hall := Lib.hid hall
      have hbs := hbel.size
      clear hrow hall
      by_cases hlt : k < s.size
      · obtain ⟨c, hc⟩ : ∃ c, l[k]? = some c := ⟨_, List.getElem?_eq_getElem (by omega)⟩
        have hat : s[k] = c := by
          have h1 := get_data s k hlt
          rw [hl, hc] at h1
          exact (Option.some.inj h1).symm
        cases h01 : is01 c
        · have hP := keepP_bad hc h01 h45
          have HP := Lib.hid hP
          have e1 : ((c.toNat : Int) == 48) = false := by
            unfold is01 at h01
            rw [beq_eq_false_iff_ne]
            intro h
            have : c = 48 := UInt8.toNat_inj.1 (by simpa using (by omega : c.toNat = 48))
            rw [this] at h01; simp at h01
          have e2 : ((c.toNat : Int) == 49) = false := by
            unfold is01 at h01
            rw [beq_eq_false_iff_ne]
            intro h
            have : c = 49 := UInt8.toNat_inj.1 (by simpa using (by omega : c.toNat = 49))
            rw [this] at h01; simp at h01
          have e3 : ((c.toNat : Int) != 48) = true := by rw [bne, e1]; rfl
          have e4 : ((c.toNat : Int) != 49) = true := by rw [bne, e2]; rfl
          clear hP hc h01 hl hll h45
          go_wp2
          go_ret2
          rw [HP.out]
          exact ⟨_, rfl, World.ownsRow_nil _ _ _ _, hbel⟩
        · have hsn := to1_snoc l k c hc
          have hal := all01_snoc l k c hc Hall.out h01
          obtain ⟨b, hb⟩ : ∃ b, (c == 49) = b := ⟨_, rfl⟩
          have hcase : (c = 48 ∧ b = false) ∨ (c = 49 ∧ b = true) := by
            unfold is01 at h01
            simp only [Bool.or_eq_true, beq_iff_eq] at h01
            rcases h01 with rfl | rfl
            · exact .inl ⟨rfl, by rw [← hb]; rfl⟩
            · exact .inr ⟨rfl, by rw [← hb]; rfl⟩
          rw [hb] at hsn
          have Hsn := Lib.hid hsn
          have Hal := Lib.hid hal
          clear hsn hal hc h01 hl hb
          rcases hcase with ⟨rfl, rfl⟩ | ⟨rfl, rfl⟩
          · go_wp2_with (at_builtin; refine wpList_app bool_ty rfl _ _ rfl w.heap.size _ _ _ rfl Hrow.out 1 1 [.bool false] rfl (by rfl) (boolsV_one [false]) (by omega) (by simp only [maxLen]; omega) hbs ?_; intro v' w4 hown' hgr)
            go_roundw
            case rel => exact ⟨k + 1, by omega, by go_num, Hal.out, by rw [Hsn.out, boolsV_append]; exact hown', hbel.grown hgr hbs (fun g hg => (Hrow.out.lt g hg).1)⟩
            case measure => simp [intOf]; omega
          · go_wp2_with (at_builtin; refine wpList_app bool_ty rfl _ _ rfl w.heap.size _ _ _ rfl Hrow.out 1 1 [.bool true] rfl (by rfl) (boolsV_one [true]) (by omega) (by simp only [maxLen]; omega) hbs ?_; intro v' w4 hown' hgr)
            go_roundw
            case rel => exact ⟨k + 1, by omega, by go_num, Hal.out, by rw [Hsn.out, boolsV_append]; exact hown', hbel.grown hgr hbs (fun g hg => (Hrow.out.lt g hg).1)⟩
            case measure => simp [intOf]; omega
      · obtain rfl : k = s.size := by omega
        rw [List.take_of_length_le (by omega)] at Hrow Hall
        by_cases h0 : l = []
        · subst h0
          have hs0 : s = ⟨#[]⟩ := bytes_inj (by rw [hl])
          subst hs0
          clear hl hll hne h45 Hall
          go_wp2
          go_ret2
          rw [keepP_nil]
          exact ⟨_, rfl, Hrow.out, hbel⟩
        · have HP := Lib.hid (keepP_good Hall.out h45 h0)
          have hlen : (to1 l).length = s.size := by rw [← hll]; simp [to1]
          have h0L : 0 < s.size := by
            rw [← hll]
            cases l with
            | nil => exact absurd rfl h0
            | cons => simp
          have hne2 : (s.toList == []) = false := by
            rw [beq_eq_false_iff_ne, ByteArray.toList_eq, hl]
            exact h0
          have HL := Lib.hid hlen
          clear hl hll h45 Hall h0 hlen
          go_wp2
          go_ret2
          rw [HP.out]
          exact ⟨_, rfl, by simp only [Option.getD_some]; rw [HL.out]; exact Hrow.out, hbel⟩
end Go.Proofs.Ytmcioedmjcbfbaa
