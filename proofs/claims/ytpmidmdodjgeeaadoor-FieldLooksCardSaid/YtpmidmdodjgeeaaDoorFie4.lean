/- Walks of layer 3: what fields have of a name, by the code's way and the document's. Condition: at most 10^6 fields, texts within 10^9 octets. -/
import Derived.Test.YtpmidmdodjgeeaaDoorFie1
import Derived.Test.YtpmidmdodjgeeaaDoorFie2
import Derived.Test.YtpmidmdodjgeeaaDoorOct5
namespace Go.Proofs.YtpmidmdodjgeeaaDoor
open Go.RowKit IH
set_option maxRecDepth 100000
theorem getL_snoc (L : List Fld) (s : List UInt8) (k : Nat) (f : Fld) (hk : L[k]? = some f) : getL (L.take (k + 1)) s = getL (L.take k) s ++ if isN f s = true then [f.2] else [] := by
  unfold getL
  rw [List.take_add_one, hk, List.filter_append, List.map_append]
  cases h : isN f s <;> simp [h]
set_option maxHeartbeats 4000000 in
theorem Get_any (A : Option Addr) (n c : Nat) (L : List Fld) (s : ByteArray) (w : World) (hin : SliceIn w w.heap.size 2 A n c (fldsV L)) (hs : n ≤ 1000000) (hm : smallF 1000000000 L) (hz : s.size ≤ 1000000000) :
    Calls Tryd.prog 18 #[.slice A n c, .string s] w fun e w' => ∃ v, e = .returned v ∧ w'.ownsRow w.heap.size 9 1 v (getL L s.data.toList).length (strsV (getL L s.data.toList)) ∧ Below w.heap.size w w' := by
  have hL := fld_count hin
  go_enter Tryd.func18, Tryd.ntmps18
  go_wp2
  go_loopw [5, 10] (fun v i wr => ∃ k : Nat, k ≤ n ∧ i = .int .i64 k ∧ wr.ownsRow w.heap.size 9 1 v (getL (L.take k) s.data.toList).length (strsV (getL (L.take k) s.data.toList)) ∧ Below w.heap.size w wr) (fun _ i _ => n - (intOf i).toNat)
  case atStart => exact ⟨0, by omega, rfl, World.ownsRow_nil _ _ _ _, Below.refl _ _⟩
  case round =>
    obtain ⟨k, hk, rfl, hrow, hbel⟩ := hrel
    have Hrow := Lib.hid hrow; clear hrow
    by_cases hlt : k < n
    · obtain ⟨f, hf⟩ : ∃ f, L[k]? = some f := ⟨_, List.getElem?_eq_getElem (by omega)⟩
      obtain ⟨b, off, rfl, hb, c0, c1⟩ := fld_at (hin.below hbel) hf
      obtain ⟨m1, m2⟩ := smallF_get hm hf
      have IS := is_any f s m1 hz
      have hsn := getL_snoc L s.data.toList k f hf
      have hlen : (getL (L.take k) s.data.toList).length ≤ 1000000 := by
        have h1 := get_length (L.take k) s.data.toList
        have h2 := List.length_take_le k L
        omega
      cases hp : isN f s.data.toList
      · rw [hp, if_neg (by simp), List.append_nil] at hsn
        rw [hp] at IS
        have Hsn := Lib.hid hsn
        replace IS := Lib.hid IS
        clear hsn hf hp m1 m2 hlen
        generalize (⟨f.1.toArray⟩ : ByteArray) = X at *
        generalize (⟨f.2.toArray⟩ : ByteArray) = Y at *
        go_wp2_with (go_at_call 44; refine (IS.out _).mono ?_; rintro e w2 ⟨rfl, hb2⟩)
        go_roundw
        case rel => exact ⟨k + 1, by omega, by go_num, by rw [Hsn.out]; exact own_below (Hrow.out.alloc _) hb2, below_step (hbel.alloc hbel.size _) hb2⟩
        case measure => simp [intOf]; omega
      · rw [hp, if_pos rfl] at hsn
        rw [hp] at IS
        have Hsn := Lib.hid hsn
        replace IS := Lib.hid IS
        clear hsn hf hp m1 m2
        obtain ⟨X, hX⟩ : ∃ X : ByteArray, (⟨f.1.toArray⟩ : ByteArray) = X := ⟨_, rfl⟩
        obtain ⟨Y, hY⟩ : ∃ Y : ByteArray, (⟨f.2.toArray⟩ : ByteArray) = Y := ⟨_, rfl⟩
        rw [hX, hY] at IS
        rw [hX] at c0
        rw [hY] at c1
        have HY := Lib.hid hY
        clear hX hY
        go_wp2_with (first
          | (go_at_call 44; refine (IS.out _).mono ?_; rintro e w2 ⟨rfl, hb2⟩; have c3 := new_cell hb2 (j := 1) rfl; have Hrow2 := Lib.hid (own_below (Hrow.out.alloc (.cells #[.string X, .string Y] 44)) hb2); have hbel2 := below_step (hbel.alloc hbel.size (.cells #[.string X, .string Y] 44)) hb2; clear hb2; have hB2 := hbel2.size)
          | (at_builtin; refine wpList_app str_ty rfl _ _ rfl w.heap.size _ _ _ rfl Hrow2.out 1 1 _ rfl (by rfl) (one1 _ rfl) (by omega) (by simp only [maxLen]; omega) hB2 ?_; intro v' w3 hown' hgr))
        go_roundw
        case rel =>
          refine ⟨k + 1, by omega, by go_num, ?_, hbel2.grown hgr hB2 (fun g hg => (Hrow2.out.lt g hg).1)⟩
          rw [Hsn.out, strsV_append, List.length_append]
          rw [← HY.out] at hown'
          exact hown'
        case measure => simp [intOf]; omega
    · obtain rfl : k = n := by omega
      have e : L.take k = L := List.take_of_length_le (by omega)
      rw [e] at Hrow
      clear e
      go_wp2
      go_ret
      exact ⟨_, rfl, Hrow.out, hbel⟩
end Go.Proofs.YtpmidmdodjgeeaaDoor
