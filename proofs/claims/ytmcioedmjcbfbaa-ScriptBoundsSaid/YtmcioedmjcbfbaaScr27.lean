/- Walks of layer 27: the form of a kind. No condition. -/
import Derived.Test.YtmcioedmjcbfbaaScr14
namespace Go.Proofs.Ytmcioedmjcbfbaa
open Go.RowKit IH
set_option maxRecDepth 100000
def ofR (k : Int) : Frm × Bool := match FORMS.findIdx? (fun f => f.2.1 == k) with
  | some i => (FORMS.getD i ([], 0, []), true)
  | none => (([], 0, []), false)
theorem ofR_in {k : Int} (h0 : 0 ≤ k) (h1 : k ≤ 10) : ofR k = ((nameK k, k, asksK k), true) := by
  have : k = 0 ∨ k = 1 ∨ k = 2 ∨ k = 3 ∨ k = 4 ∨ k = 5 ∨ k = 6 ∨ k = 7 ∨ k = 8 ∨ k = 9 ∨ k = 10 := by omega
  rcases this with rfl | rfl | rfl | rfl | rfl | rfl | rfl | rfl | rfl | rfl | rfl <;> decide
theorem ofR_out {k : Int} (h : ¬ (0 ≤ k ∧ k ≤ 10)) : ofR k = (([], 0, []), false) := by
  unfold ofR
  have : FORMS.findIdx? (fun f => f.2.1 == k) = none := by
    rw [forms_map, List.findIdx?_eq_none_iff]
    intro x hx
    simp only [List.mem_map, List.mem_cons, List.not_mem_nil, or_false] at hx
    obtain ⟨a, ha, rfl⟩ := hx
    rw [beq_eq_false_iff_ne]
    show a ≠ k
    omega
  rw [this]
theorem of1_any (f : Frm) (m : Int) (g : Nat) (w : World) (hg : g < w.heap.size) (c0 : w.cell? ⟨g, 0, none⟩ = some (.int .i64 m)) :
    Calls Try.prog 73 #[.agg #[.string ⟨f.1.toArray⟩, .int .i64 f.2.1, .string ⟨f.2.2.toArray⟩], .pointer (some ⟨g, 0, none⟩)] w fun e w' => e = .returned (.bool (f.2.1 == m)) ∧ Below w.heap.size w w' := by
  generalize (⟨f.1.toArray⟩ : ByteArray) = X at *
  generalize (⟨f.2.2.toArray⟩ : ByteArray) = Y at *
  generalize f.2.1 = kd at *
  have d0 := (World.cell?_alloc_lt w (.cells #[.string X, .int .i64 kd, .string Y] 94) ⟨g, 0, none⟩ hg).trans c0
  clear c0
  go_enter Try.func73, Try.ntmps73
  go_wp2
  go_ret
  exact ⟨rfl, (Below.refl _ _).alloc (Nat.le_refl _) _⟩
set_option maxHeartbeats 4000000 in
theorem IndexOf_any (A : Option Addr) (n c : Nat) (L : List Frm) (m : Int) (g : Nat) (w : World) (hin : SliceIn w w.heap.size 3 A n c (frmsV L)) (hs : n ≤ 1000000) (hg : g < w.heap.size) (cg : w.cell? ⟨g, 0, none⟩ = some (.int .i64 m)) :
    Calls Try.prog 72 #[.slice A n c, .func (.func 73) #[] #[.pointer (some ⟨g, 0, none⟩)]] w fun e w' => e = .returned (.int .i64 (fiF (fun f => f.2.1 == m) L)) ∧ Below w.heap.size w w' := by
  have hL : L.length = n := by have := hin.1; rw [frmsV_length] at this; omega
  obtain ⟨p, hp⟩ : ∃ p : Frm → Bool, (fun f => f.2.1 == m) = p := ⟨_, rfl⟩
  have hpf : ∀ f : Frm, (f.2.1 == m) = p f := fun f => by rw [← hp]
  rw [hp]
  have HPF := Lib.hid hpf
  clear hp hpf
  go_enter Try.func72, Try.ntmps72
  go_wp2
  go_loopw [8] (fun i wr => ∃ k : Nat, k ≤ n ∧ i = .int .i64 k ∧ (L.take k).any p = false ∧ Below w.heap.size w wr) (fun i _ => n - (intOf i).toNat)
  case atStart => exact ⟨0, by omega, rfl, rfl, Below.refl _ _⟩
  case round =>
    obtain ⟨k, hk, rfl, hno, hbel⟩ := hrel
    by_cases hlt : k < n
    · obtain ⟨f, hf⟩ : ∃ f, L[k]? = some f := ⟨_, List.getElem?_eq_getElem (by omega)⟩
      obtain ⟨b, off, rfl, hb, c0, c1, c2⟩ := frm_at (hin.below hbel) hf
      have cr := (hbel.cell (p := ⟨g, 0, none⟩) hg).trans cg
      have F1 := of1_any f m g wr (Nat.lt_of_lt_of_le hg hbel.size) cr
      rw [HPF.out] at F1
      clear cr
      cases hp : p f
      · have hnx := anyF_snoc hf hp hno
        rw [hp] at F1
        have HN := Lib.hid hnx
        replace F1 := Lib.hid F1
        clear hnx hf hno hp
        generalize (⟨f.1.toArray⟩ : ByteArray) = X at *
        generalize (⟨f.2.2.toArray⟩ : ByteArray) = Y at *
        go_wp2_with (go_at_call 73; refine F1.out.mono ?_; rintro e w2 ⟨rfl, hb2⟩)
        go_roundw
        case rel => exact ⟨k + 1, by omega, by go_num, HN.out, below_step hbel hb2⟩
        case measure => simp [intOf]; omega
      · have hfin : fiF p L = k := by unfold fiF; rw [fiF_hit hf hp hno]
        rw [hp] at F1
        have HF := Lib.hid hfin
        replace F1 := Lib.hid F1
        clear hfin hf hno hp
        generalize (⟨f.1.toArray⟩ : ByteArray) = X at *
        generalize (⟨f.2.2.toArray⟩ : ByteArray) = Y at *
        go_wp2_with (go_at_call 73; refine F1.out.mono ?_; rintro e w2 ⟨rfl, hb2⟩)
        go_ret
        rw [HF.out]
        exact ⟨rfl, below_step hbel hb2⟩
    · obtain rfl : k = n := by omega
      rw [List.take_of_length_le (by omega)] at hno
      have HF : Hid (fiF p L = -1) := Lib.hid (by unfold fiF; rw [fiF_none hno])
      clear hno
      go_wp2
      go_ret
      rw [HF.out]
      exact ⟨rfl, hbel⟩
set_option maxHeartbeats 2000000 in
theorem of_any (s : Int) (w : World) :
    Calls Try.prog 51 #[.int .i64 s] w fun e w' => e = .returned (.tuple #[.agg (frmCells (ofR s).1).toArray, .bool (ofR s).2]) ∧ Below w.heap.size w w' := by
  have FO := Lib.hid (fun w => forms_any w)
  obtain ⟨w1, hw1⟩ : ∃ w1, w.alloc (.cells #[.int .i64 s] 3) = w1 := ⟨_, rfl⟩
  have hz1 : w1.heap.size = w.heap.size + 1 := by rw [← hw1]; simp
  have hb1 : Below w.heap.size w w1 := by rw [← hw1]; exact (Below.refl _ _).alloc (Nat.le_refl _) _
  have c1 : w1.cell? ⟨w.heap.size, 0, none⟩ = some (.int .i64 s) := by rw [← hw1]; exact (RowAt.new w 3 [.int .i64 s]).cell (j := 0) rfl
  obtain ⟨w2, hw2⟩ : ∃ w2, w1.alloc (.cells #[.string ⟨#[]⟩, .int .i64 0, .string ⟨#[]⟩] 94) = w2 := ⟨_, rfl⟩
  have hz2 : w2.heap.size = w.heap.size + 2 := by rw [← hw2]; simp; omega
  have hb2 : Below w.heap.size w w2 := by rw [← hw2]; exact hb1.alloc (by omega) _
  have c2 : w2.cell? ⟨w.heap.size, 0, none⟩ = some (.int .i64 s) := by rw [← hw2, World.cell?_alloc_lt w1 _ _ (by simp; omega)]; exact c1
  have r2 : RowAt w2 (w.heap.size + 1) 94 [.string ⟨#[]⟩, .int .i64 0, .string ⟨#[]⟩] := by rw [← hw2, ← hz1]; exact RowAt.new w1 94 [.string ⟨#[]⟩, .int .i64 0, .string ⟨#[]⟩]
  obtain ⟨w3, hw3⟩ : ∃ w3, w2.alloc (.cells (frmsV FORMS).toArray 94) = w3 := ⟨_, rfl⟩
  have hz3 : w3.heap.size = w.heap.size + 3 := by rw [← hw3]; simp; omega
  have hb3 : Below w.heap.size w w3 := by rw [← hw3]; exact hb2.alloc (by omega) _
  have c3 : w3.cell? ⟨w.heap.size, 0, none⟩ = some (.int .i64 s) := by rw [← hw3, World.cell?_alloc_lt w2 _ _ (by simp; omega)]; exact c2
  have r3 : RowAt w3 (w.heap.size + 1) 94 [.string ⟨#[]⟩, .int .i64 0, .string ⟨#[]⟩] := by rw [← hw3]; exact r2.alloc _
  have s3 : SliceIn w3 w3.heap.size 3 (some ⟨w2.heap.size, 0, none⟩) 11 11 (frmsV FORMS) := by
    rw [← hw3]
    exact (RowAt.new w2 94 (frmsV FORMS)).slice (size := 3) (n := 11) (c := 11) rfl (Nat.le_refl _) (by simp [maxLen])
  have IX := IndexOf_any (some ⟨w2.heap.size, 0, none⟩) 11 11 FORMS s w.heap.size w3 s3 (by omega) (by omega) c3
  rw [hz2] at IX
  have F2 := FO.out w2
  rw [hz2] at F2
  rw [hw3] at F2
  replace F2 := Lib.hid F2
  have R3 := Lib.hid r3
  have S3 := Lib.hid s3
  have B3 := Lib.hid hb3
  clear FO c1 c2 c3 r2 r3 s3 hb1 hb2 hb3
  unfold ofR
  unfold fiF at IX
  cases hfi : FORMS.findIdx? (fun f => f.2.1 == s) with
  | none =>
    rw [hfi] at IX
    simp only at IX
    replace IX := Lib.hid IX
    clear hfi
    go_enter Try.func51, Try.ntmps51
    go_wp2_with (first
      | (go_at_call 71; refine F2.out.mono ?_; rintro e w5 ⟨rfl, rfl⟩)
      | (go_at_call 72; refine IX.out.mono ?_; rintro e w4 ⟨rfl, hb4⟩; have R4 := Lib.hid (R3.out.below hb4 (by omega)); have B4 := Lib.hid (B3.out.trans (hb4.mono (by omega))))
      | (refine wpList_store_row rfl 94 _ _ rfl (w.heap.size + 1) 94 [.string ⟨#[]⟩, .int .i64 0, .string ⟨#[]⟩] [.string ⟨#[]⟩, .int .i64 0, .string ⟨#[]⟩] rfl rfl R4.out rfl (by kernel_rfl) one3 ?_; intro w6 hr6 ho6; have q0 := hr6.cell (j := 0) rfl; have q1 := hr6.cell (j := 1) rfl; have q2 := hr6.cell (j := 2) rfl))
    exact bodyPost_ret (v := .tuple #[.agg (frmCells ([], 0, [])).toArray, .bool false]) (by simp [results, Try.results51, go_sem, frmCells, q0, q1, q2]) rfl ⟨rfl, ho6.below B4.out (by omega)⟩
  | some i =>
    have hi : i < 11 := (List.findIdx?_eq_some_iff_getElem.1 hfi).1
    rw [hfi] at IX
    simp only at IX
    replace IX := Lib.hid IX
    obtain ⟨f, hf⟩ : ∃ f, FORMS[i]? = some f := ⟨_, List.getElem?_eq_getElem hi⟩
    have hfd : FORMS.getD i ([], 0, []) = f := by rw [List.getD_eq_getElem?_getD, hf]; rfl
    simp only [hfd]
    rw [hz2] at S3
    have hcl : ∀ w4, Below w3.heap.size w3 w4 → w4.cell? ⟨w.heap.size + 2, i * 3, none⟩ = some (.string ⟨f.1.toArray⟩) ∧ w4.cell? ⟨w.heap.size + 2, i * 3 + 1, none⟩ = some (.int .i64 f.2.1) ∧ w4.cell? ⟨w.heap.size + 2, i * 3 + 2, none⟩ = some (.string ⟨f.2.2.toArray⟩) := fun w4 hb => by
      obtain ⟨b, off, hA, _, d0, d1, d2⟩ := frm_at (S3.out.below hb) hf
      simp only [Option.some.injEq, Addr.mk.injEq, and_true] at hA
      obtain ⟨rfl, rfl⟩ := hA
      rw [Nat.zero_add] at d0 d1 d2
      exact ⟨d0, d1, d2⟩
    have HC := Lib.hid hcl
    have hfc : frmCells f = [.string ⟨f.1.toArray⟩, .int .i64 f.2.1, .string ⟨f.2.2.toArray⟩] := rfl
    rw [hfc]
    clear hfi hf hfd hcl hfc
    generalize (⟨f.1.toArray⟩ : ByteArray) = X at *
    generalize (⟨f.2.2.toArray⟩ : ByteArray) = Y at *
    generalize f.2.1 = kd at *
    go_enter Try.func51, Try.ntmps51
    go_wp2_with (first
      | (go_at_call 71; refine F2.out.mono ?_; rintro e w5 ⟨rfl, rfl⟩)
      | (go_at_call 72; refine IX.out.mono ?_; rintro e w4 ⟨rfl, hb4⟩; have R4 := Lib.hid (R3.out.below hb4 (by omega)); have B4 := Lib.hid (B3.out.trans (hb4.mono (by omega))); obtain ⟨d0, d1, d2⟩ := HC.out _ hb4)
      | (refine wpList_store_row rfl 94 _ _ rfl (w.heap.size + 1) 94 [.string X, .int .i64 kd, .string Y] [.string ⟨#[]⟩, .int .i64 0, .string ⟨#[]⟩] rfl rfl R4.out rfl (by kernel_rfl) one3 ?_; intro w6 hr6 ho6; have q0 := hr6.cell (j := 0) rfl; have q1 := hr6.cell (j := 1) rfl; have q2 := hr6.cell (j := 2) rfl))
    exact bodyPost_ret (v := .tuple #[.agg #[.string X, .int .i64 kd, .string Y], .bool true]) (by simp [results, Try.results51, go_sem, q0, q1, q2]) rfl ⟨rfl, ho6.below B4.out (by omega)⟩
end Go.Proofs.Ytmcioedmjcbfbaa
