/- Walk of access.Count: counts by a map. No condition but that the list is within bounds, its kinds Go's own. -/
import Derived.Test.YtamoebdfppjbkaaAcc4
import Derived.Maps.OwnSet
import Derived.Maps.OwnOps
import Derived.Maps.Views
namespace Go.Proofs.Ytamoebdfppjbkaa
open Go.RowKit IH Go.Maps
set_option maxRecDepth 100000

theorem RowAt.grown {w w' : World} {g : Nat} {e : TypeId} {cs : List Value} {row : Option Nat} (h : RowAt w g e cs) (hg : w.grownBy w' row) (hr : some g ≠ row) : RowAt w' g e cs := h.keep (hg.block g h.lt hr)
theorem law_int : Keyed Try.prog 3 := int_keyed Try.underlying3
theorem zero_int (w : World) : (zeroValue 3).run Try.prog w = .ok (.int .i64 0) w := by kernel_rfl
theorem ite_min (m x : Int) : (if m < x then m else x) = min x m := by split <;> omega
theorem ite_max (x : Int) : (if 0 < x then x else 0) = max 0 x := by split <;> omega
abbrev num64 (n : Int) : DataW Unit := .lit (.int .i64 n)

theorem num_of {X : DataW Unit} {c d : Int} (h : X = .lit (.int .i64 c)) (h' : X = num64 d) : c = d := by
  rw [h] at h'
  simpa [num64] using h'

/-- What a map of counts says of the five kinds. -/
def Told5 (D : DataW Unit) (L : List Reply) : Prop := ∀ j : Int, 1 ≤ j → j ≤ 5 → D.atKey (.int .i64 j) (num64 0) = num64 (countK j L)
theorem Told5.nil : Told5 (.map []) [] := fun _ _ _ => rfl
theorem Told5.step {D : DataW Unit} {L : List Reply} {t : Reply} {c : Int} (h : Told5 D L) (hD : IsMap D) (hL : L.length ≤ 1000000) (hc : D.atKey (.int .i64 t.kind) (num64 0) = num64 c) (hk : WideAt.IsKeyLit (.int .i64 t.kind)) :
    Told5 (D.put (.int .i64 t.kind) (num64 (wrap64 (c + 1)))) (L ++ [t]) := by
  intro j h1 h5
  rw [countK_snoc]
  by_cases e : t.kind = j
  · rw [if_pos e, ← e, atKey_put_same hD hk]
    rw [← e] at h1 h5
    have h2 := h _ h1 h5
    rw [hc] at h2
    have h3 : c = countK t.kind L := by simpa [num64] using h2
    have h4 := countK_le t.kind L
    rw [h3]
    have h6 : wrap64 ((countK t.kind L : Int) + 1) = countK t.kind L + 1 := by unfold wrap64; omega
    rw [h6]
    rfl
  · rw [if_neg e, atKey_put_other (fun e' => e (by cases e'; rfl))]
    exact h j h1 h5

set_option maxHeartbeats 40000000 in
theorem Count_any (A : Option Addr) (n c : Nat) (L : List Reply) (w : World) (hin : SliceIn w w.heap.size 9 A n c (toldsV L)) (hs : n ≤ 1000000) (hwf : ∀ t ∈ L, (Lit.int .i64 t.kind).wf = true) :
    Calls Try.prog 12 #[.slice A n c] w fun e w' => e = .returned (.agg (tallyOf L).toArray) ∧ Below w.heap.size w w' := by
  have hL : L.length = n := by have := hin.1; rw [toldsV_length] at this; omega
  have hmm := @run_makeMap Try.prog
  go_enter Try.func12, Try.ntmps12
  go_wp2
  go_loopw [4, 10] (fun a i wr => ∃ k : Nat, ∃ D : DataW Unit, k ≤ n ∧ i = .int .i64 k ∧ a = .int .i64 (agesOf (L.take k)) ∧ wr.ownsMap Try.prog 3 (plainElem Try.prog 3) (w.heap.size + 1) k D ∧ Told5 D (L.take k) ∧ RowAt wr w.heap.size 30 tally0 ∧ Below w.heap.size w wr) (fun _ i _ => n - (intOf i).toNat)
  case atStart =>
    have h0 : ((w.alloc (.cells tally0.toArray 30)).alloc (.map #[] 0)).ownsMap Try.prog 3 (plainElem (H := Unit) Try.prog 3) (w.heap.size + 1) 0 (.map []) := by
      have := World.ownsMap_made (w.alloc (.cells tally0.toArray 30)) Try.prog 3 (plainElem (H := Unit) Try.prog 3)
      simpa using this
    exact ⟨0, .map [], by omega, rfl, rfl, h0, Told5.nil, (RowAt.new w _ _).alloc _, ((Below.refl _ _).alloc (Nat.le_refl _) _).alloc (by simp) _⟩
  case round =>
    obtain ⟨k, D, hk, rfl, rfl, hown, h5, hrow0, hbel⟩ := hrel
    by_cases hlt : k < n
    · obtain ⟨t, ht⟩ : ∃ l, L[k]? = some l := ⟨_, List.getElem?_eq_getElem (by omega)⟩
      obtain ⟨b, off, rfl, hb, hc⟩ := hin.2.2.2 (by omega)
      have hcell : ∀ j u, (toldCells t)[j]? = some u → wr.cell? ⟨b, off + k * 9 + j, none⟩ = some u := fun j u hu => by
        have hj : j < 9 := by have := (List.getElem?_eq_some_iff.1 hu).1; rw [toldCells_length] at this; exact this
        rw [hbel.cell (p := ⟨b, off + k * 9 + j, none⟩) hb, Nat.add_assoc]
        exact hc _ _ (by rw [toldsV, flat_get toldCells 9 toldCells_length L k j t ht hj, hu])
      have hstep : L.take (k + 1) = L.take k ++ [t] := by rw [List.take_add_one, ht]; rfl
      have hlen : (L.take k).length ≤ 1000000 := by have := List.length_take_le k L; omega
      have hage : agesOf (L.take (k + 1)) = agesStep (agesOf (L.take k)) t := by rw [hstep, agesOf_snoc]
      have hwk := hwf t (List.mem_of_getElem? ht)
      have hkey := keyOf_int_mk (P := Try.prog) Try.underlying3 hwk
      have hnext : ∀ c, D.atKey (.int .i64 t.kind) (num64 0) = num64 c → Told5 (D.put (.int .i64 t.kind) (num64 (wrap64 (c + 1)))) (L.take (k + 1)) := fun c hc => by
        rw [hstep]; exact h5.step hown.isMap hlen hc (law_int.key hkey)
      have Hc := Lib.hid hcell; clear hcell hc ht hstep hwk h5
      obtain ⟨g0, g1⟩ := agesOf_bound (L.take k)
      unfold agesStep at hage
      have Hage := Lib.hid hage; clear hage
      have Hnext := Lib.hid hnext; clear hnext
      generalize agesOf (L.take k) = ag at *
      obtain ⟨tc, tk, tm, tl, tme, tu, tke, ts, ta⟩ := t
      simp only [toldCells] at *
      have Hrow0 := Lib.hid hrow0; clear hrow0
      have hlt1 := hown.lt
      have hne : wr.heap.size ≠ w.heap.size + 1 := by omega
      by_cases h1 : tk = 1
      · subst h1
        go_wp2_with (first
          | (refine wpList_load_agg rfl 43 _ rfl b (off + k * 9) rfl [.int .i64 tc, .int .i64 1, .int .i64 tm, .int .i64 tl, .string ⟨tme.toArray⟩, .string ⟨tu.toArray⟩, .string ⟨tke.toArray⟩, .int .i64 ts, .int .i64 ta] _ Hc.out Try.underlying43 rfl (by kernel_rfl) ?_)
          | (at_lookup; refine wpList_lookup_own_int _ rfl _ _ 44 rfl 3 3 .i64 law_int Try.underlying44 Try.underlying3 (zero_int _) (w.heap.size + 1) k D rfl (hown.alloc _) _ _ rfl hkey ?_; intro c hat hwc)
          | (at_mapUpdate; refine wpList_mapUpdate_own _ rfl _ _ _ 44 rfl 3 3 law_int Try.underlying44 _ (w.heap.size + 1) k D rfl (hown.alloc _) (by unfold maxLen; omega) _ _ _ rfl rfl hkey _ [] (plainElem_int Try.underlying3 (wrap64_wf _)) ?_; intro w1 hown1 hgrow1; have hbox := (RowAt.new wr 43 [.int .i64 tc, .int .i64 1, .int .i64 tm, .int .i64 tl, .string ⟨tme.toArray⟩, .string ⟨tu.toArray⟩, .string ⟨tke.toArray⟩, .int .i64 ts, .int .i64 ta]).grown hgrow1 (by simp; omega); have b1 := hbox.cell (j := 1) rfl; have b8 := hbox.cell (j := 8) rfl; have Hnew := Lib.hid (Hnext.out c hat); clear hat)
          | go_in)
        go_roundw
        case rel =>
          refine ⟨k + 1, _, by omega, by go_num, ?_, hown1, Hnew.out, (Hrow0.out.alloc _).grown hgrow1 (by simp), (hbel.alloc hbel.size _).grown hgrow1 (by simp; omega) (fun g hg => by cases hg; omega)⟩
          rw [Hage.out, if_pos (Or.inl rfl)]
          simp only [ite_min, ite_max]
        case measure => simp [intOf]; omega
      · by_cases h2 : tk = 2
        · subst h2
          go_wp2_with (first
            | (refine wpList_load_agg rfl 43 _ rfl b (off + k * 9) rfl [.int .i64 tc, .int .i64 2, .int .i64 tm, .int .i64 tl, .string ⟨tme.toArray⟩, .string ⟨tu.toArray⟩, .string ⟨tke.toArray⟩, .int .i64 ts, .int .i64 ta] _ Hc.out Try.underlying43 rfl (by kernel_rfl) ?_)
            | (at_lookup; refine wpList_lookup_own_int _ rfl _ _ 44 rfl 3 3 .i64 law_int Try.underlying44 Try.underlying3 (zero_int _) (w.heap.size + 1) k D rfl (hown.alloc _) _ _ rfl hkey ?_; intro c hat hwc)
            | (at_mapUpdate; refine wpList_mapUpdate_own _ rfl _ _ _ 44 rfl 3 3 law_int Try.underlying44 _ (w.heap.size + 1) k D rfl (hown.alloc _) (by unfold maxLen; omega) _ _ _ rfl rfl hkey _ [] (plainElem_int Try.underlying3 (wrap64_wf _)) ?_; intro w1 hown1 hgrow1; have hbox := (RowAt.new wr 43 [.int .i64 tc, .int .i64 2, .int .i64 tm, .int .i64 tl, .string ⟨tme.toArray⟩, .string ⟨tu.toArray⟩, .string ⟨tke.toArray⟩, .int .i64 ts, .int .i64 ta]).grown hgrow1 (by simp; omega); have b1 := hbox.cell (j := 1) rfl; have b8 := hbox.cell (j := 8) rfl; have Hnew := Lib.hid (Hnext.out c hat); clear hat)
            | go_in)
          go_roundw
          case rel =>
            refine ⟨k + 1, _, by omega, by go_num, ?_, hown1, Hnew.out, (Hrow0.out.alloc _).grown hgrow1 (by simp), (hbel.alloc hbel.size _).grown hgrow1 (by simp; omega) (fun g hg => by cases hg; omega)⟩
            rw [Hage.out, if_pos (Or.inr rfl)]
            simp only [ite_min, ite_max]
          case measure => simp [intOf]; omega
        · have e1 : (tk == 1) = false := by simpa using h1
          have e2 : (tk == 2) = false := by simpa using h2
          go_wp2_with (first
            | (refine wpList_load_agg rfl 43 _ rfl b (off + k * 9) rfl [.int .i64 tc, .int .i64 tk, .int .i64 tm, .int .i64 tl, .string ⟨tme.toArray⟩, .string ⟨tu.toArray⟩, .string ⟨tke.toArray⟩, .int .i64 ts, .int .i64 ta] _ Hc.out Try.underlying43 rfl (by kernel_rfl) ?_)
            | (at_lookup; refine wpList_lookup_own_int _ rfl _ _ 44 rfl 3 3 .i64 law_int Try.underlying44 Try.underlying3 (zero_int _) (w.heap.size + 1) k D rfl (hown.alloc _) _ _ rfl hkey ?_; intro c hat hwc)
            | (at_mapUpdate; refine wpList_mapUpdate_own _ rfl _ _ _ 44 rfl 3 3 law_int Try.underlying44 _ (w.heap.size + 1) k D rfl (hown.alloc _) (by unfold maxLen; omega) _ _ _ rfl rfl hkey _ [] (plainElem_int Try.underlying3 (wrap64_wf _)) ?_; intro w1 hown1 hgrow1; have hbox := (RowAt.new wr 43 [.int .i64 tc, .int .i64 tk, .int .i64 tm, .int .i64 tl, .string ⟨tme.toArray⟩, .string ⟨tu.toArray⟩, .string ⟨tke.toArray⟩, .int .i64 ts, .int .i64 ta]).grown hgrow1 (by simp; omega); have b1 := hbox.cell (j := 1) rfl; have b8 := hbox.cell (j := 8) rfl; have Hnew := Lib.hid (Hnext.out c hat); clear hat)
            | go_in)
          go_roundw
          case rel =>
            refine ⟨k + 1, _, by omega, by go_num, ?_, hown1, Hnew.out, (Hrow0.out.alloc _).grown hgrow1 (by simp), (hbel.alloc hbel.size _).grown hgrow1 (by simp; omega) (fun g hg => by cases hg; omega)⟩
            rw [Hage.out, if_neg (by omega)]
          case measure => simp [intOf]; omega
    · obtain rfl : k = n := by omega
      have e : L.take k = L := List.take_of_length_le (by omega)
      rw [e] at h5 ⊢
      clear e
      unfold tally0 at hrow0
      obtain ⟨r0, r1, r2, r3, r4, r5⟩ := tally_cells hrow0
      obtain ⟨f0, f1, f2, f3, f4, f5⟩ := tally_frozen hrow0
      have H5 := Lib.hid h5; clear h5
      go_wp2_with (first
        | (at_lookup; refine wpList_lookup_own_int _ rfl _ _ 44 rfl 3 3 .i64 law_int Try.underlying44 Try.underlying3 (zero_int _) (w.heap.size + 1) k D rfl hown _ _ rfl (keyOf_int_mk Try.underlying3 (by decide)) ?_; intro c hat hwc; have hcc := num_of hat (H5.out _ (by decide) (by decide)); clear hat hwc; subst hcc)
        | go_in)
      exact bodyPost_ret (v := .agg (tallyOf L).toArray) (by simp [results, Try.results12, go_sem, tallyOf, r0, r1, r2, r3, r4, r5]) rfl ⟨rfl, (((((hbel.setCell (p := ⟨w.heap.size, 0, none⟩) (Nat.le_refl _) _).setCell (p := ⟨w.heap.size, 1, none⟩) (Nat.le_refl _) _).setCell (p := ⟨w.heap.size, 2, none⟩) (Nat.le_refl _) _).setCell (p := ⟨w.heap.size, 3, none⟩) (Nat.le_refl _) _).setCell (p := ⟨w.heap.size, 4, none⟩) (Nat.le_refl _) _).setCell (p := ⟨w.heap.size, 5, none⟩) (Nat.le_refl _) _⟩
end Go.Proofs.Ytamoebdfppjbkaa
