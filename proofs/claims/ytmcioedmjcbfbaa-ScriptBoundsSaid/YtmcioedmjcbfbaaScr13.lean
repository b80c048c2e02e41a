/- Walks of layer 27: the form of a word. No condition. -/
import Derived.Test.YtmcioedmjcbfbaaScr12
import Derived.Test.YtmcioedmjcbfbaaKt
import Derived.Deep.CutRange
namespace Go.Proofs.Ytmcioedmjcbfbaa
open Go.RowKit IH
set_option maxRecDepth 100000
def namedR (l : List UInt8) : Frm × Bool := match FORMS.findIdx? (fun f => f.1 == l) with
  | some i => (FORMS.getD i ([], 0, []), true)
  | none => (([], 0, []), false)
theorem one3 {a b : ByteArray} {k : Int} : ∀ v ∈ ([.string a, .int .i64 k, .string b] : List Value), v.oneCell' = true := by
  intro v hv
  simp at hv
  rcases hv with rfl | rfl | rfl <;> rfl
set_option maxHeartbeats 2000000 in
theorem named_any (s : ByteArray) (w : World) :
    Calls Try.prog 58 #[.string s] w fun e w' => e = .returned (.tuple #[.agg (frmCells (namedR s.data.toList).1).toArray, .bool (namedR s.data.toList).2]) ∧ Below w.heap.size w w' := by
  have FO := Lib.hid (fun w => forms_any w)
  obtain ⟨w1, hw1⟩ : ∃ w1, w.alloc (.cells #[.string s] 9) = w1 := ⟨_, rfl⟩
  have hz1 : w1.heap.size = w.heap.size + 1 := by rw [← hw1]; simp
  have hb1 : Below w.heap.size w w1 := by rw [← hw1]; exact (Below.refl _ _).alloc (Nat.le_refl _) _
  have c1 : w1.cell? ⟨w.heap.size, 0, none⟩ = some (.string s) := by rw [← hw1]; exact (RowAt.new w 9 [.string s]).cell (j := 0) rfl
  obtain ⟨w2, hw2⟩ : ∃ w2, w1.alloc (.cells #[.string ⟨#[]⟩, .int .i64 0, .string ⟨#[]⟩] 94) = w2 := ⟨_, rfl⟩
  have hz2 : w2.heap.size = w.heap.size + 2 := by rw [← hw2]; simp; omega
  have hb2 : Below w.heap.size w w2 := by rw [← hw2]; exact hb1.alloc (by omega) _
  have c2 : w2.cell? ⟨w.heap.size, 0, none⟩ = some (.string s) := by rw [← hw2, World.cell?_alloc_lt w1 _ _ (by simp; omega)]; exact c1
  have r2 : RowAt w2 (w.heap.size + 1) 94 [.string ⟨#[]⟩, .int .i64 0, .string ⟨#[]⟩] := by rw [← hw2, ← hz1]; exact RowAt.new w1 94 [.string ⟨#[]⟩, .int .i64 0, .string ⟨#[]⟩]
  obtain ⟨w3, hw3⟩ : ∃ w3, w2.alloc (.cells (frmsV FORMS).toArray 94) = w3 := ⟨_, rfl⟩
  have hz3 : w3.heap.size = w.heap.size + 3 := by rw [← hw3]; simp; omega
  have hb3 : Below w.heap.size w w3 := by rw [← hw3]; exact hb2.alloc (by omega) _
  have c3 : w3.cell? ⟨w.heap.size, 0, none⟩ = some (.string s) := by rw [← hw3, World.cell?_alloc_lt w2 _ _ (by simp; omega)]; exact c2
  have r3 : RowAt w3 (w.heap.size + 1) 94 [.string ⟨#[]⟩, .int .i64 0, .string ⟨#[]⟩] := by rw [← hw3]; exact r2.alloc _
  have s3 : SliceIn w3 w3.heap.size 3 (some ⟨w2.heap.size, 0, none⟩) 11 11 (frmsV FORMS) := by
    rw [← hw3]
    exact (RowAt.new w2 94 (frmsV FORMS)).slice (size := 3) (n := 11) (c := 11) rfl (Nat.le_refl _) (by simp [maxLen])
  have IX := IndexNamed_any (some ⟨w2.heap.size, 0, none⟩) 11 11 FORMS s w.heap.size w3 s3 (by omega) (by omega) c3
  rw [hz2] at IX
  have F2 := FO.out w2
  rw [hz2] at F2
  rw [hw3] at F2
  replace F2 := Lib.hid F2
  have R3 := Lib.hid r3
  have S3 := Lib.hid s3
  have B3 := Lib.hid hb3
  clear FO c1 c2 c3 r2 r3 s3 hb1 hb2 hb3
  unfold namedR
  unfold fiF at IX
  cases hfi : FORMS.findIdx? (fun f => f.1 == s.data.toList) with
  | none =>
    rw [hfi] at IX
    simp only at IX
    replace IX := Lib.hid IX
    clear hfi
    go_enter Try.func58, Try.ntmps58
    go_wp2_with (first
      | (go_at_call 71; refine F2.out.mono ?_; rintro e w5 ⟨rfl, rfl⟩)
      | (go_at_call 72; refine IX.out.mono ?_; rintro e w4 ⟨rfl, hb4⟩; have R4 := Lib.hid (R3.out.below hb4 (by omega)); have B4 := Lib.hid (B3.out.trans (hb4.mono (by omega))))
      | (refine wpList_store_row rfl 94 _ _ rfl (w.heap.size + 1) 94 [.string ⟨#[]⟩, .int .i64 0, .string ⟨#[]⟩] [.string ⟨#[]⟩, .int .i64 0, .string ⟨#[]⟩] rfl rfl R4.out rfl (by kernel_rfl) one3 ?_; intro w6 hr6 ho6; have q0 := hr6.cell (j := 0) rfl; have q1 := hr6.cell (j := 1) rfl; have q2 := hr6.cell (j := 2) rfl))
    exact bodyPost_ret (v := .tuple #[.agg (frmCells ([], 0, [])).toArray, .bool false]) (by simp [results, Try.results58, go_sem, frmCells, q0, q1, q2]) rfl ⟨rfl, ho6.below B4.out (by omega)⟩
  | some i =>
    have hi : i < 11 := (List.findIdx?_eq_some_iff_getElem.1 hfi).1
    rw [hfi] at IX
    simp only at IX
    replace IX := Lib.hid IX
    obtain ⟨f, hf⟩ : ∃ f, FORMS[i]? = some f := ⟨_, List.getElem?_eq_getElem hi⟩
    have hfd : FORMS.getD i ([], 0, []) = f := by rw [List.getD_eq_getElem?_getD, hf]; rfl
    simp only [hfd]
    rw [hz2] at S3
    have hcl : ∀ w4, Below w3.heap.size w3 w4 → w4.cell? ⟨w.heap.size + 2, i * 3, none⟩ = some (.string ⟨f.1.toArray⟩) ∧ w4.cell? ⟨w.heap.size + 2, i * 3 + 1, none⟩ = some (.int .i64 f.2.1) ∧ w4.cell? ⟨w.heap.size + 2, i * 3 + 2, none⟩ = some (.string ⟨f.2.2.toArray⟩) := fun w4 hb => by
      obtain ⟨b, off, hA, _, d0, d1, d2⟩ := frm_at (S3.out.below hb) hf
      simp only [Option.some.injEq, Addr.mk.injEq, and_true] at hA
      obtain ⟨rfl, rfl⟩ := hA
      rw [Nat.zero_add] at d0 d1 d2
      exact ⟨d0, d1, d2⟩
    have HC := Lib.hid hcl
    have hfc : frmCells f = [.string ⟨f.1.toArray⟩, .int .i64 f.2.1, .string ⟨f.2.2.toArray⟩] := rfl
    rw [hfc]
    clear hfi hf hfd hcl hfc
    generalize (⟨f.1.toArray⟩ : ByteArray) = X at *
    generalize (⟨f.2.2.toArray⟩ : ByteArray) = Y at *
    generalize f.2.1 = kd at *
    go_enter Try.func58, Try.ntmps58
    go_wp2_with (first
      | (go_at_call 71; refine F2.out.mono ?_; rintro e w5 ⟨rfl, rfl⟩)
      | (go_at_call 72; refine IX.out.mono ?_; rintro e w4 ⟨rfl, hb4⟩; have R4 := Lib.hid (R3.out.below hb4 (by omega)); have B4 := Lib.hid (B3.out.trans (hb4.mono (by omega))); obtain ⟨d0, d1, d2⟩ := HC.out _ hb4)
      | (refine wpList_store_row rfl 94 _ _ rfl (w.heap.size + 1) 94 [.string X, .int .i64 kd, .string Y] [.string ⟨#[]⟩, .int .i64 0, .string ⟨#[]⟩] rfl rfl R4.out rfl (by kernel_rfl) one3 ?_; intro w6 hr6 ho6; have q0 := hr6.cell (j := 0) rfl; have q1 := hr6.cell (j := 1) rfl; have q2 := hr6.cell (j := 2) rfl))
    exact bodyPost_ret (v := .tuple #[.agg #[.string X, .int .i64 kd, .string Y], .bool true]) (by simp [results, Try.results58, go_sem, q0, q1, q2]) rfl ⟨rfl, ho6.below B4.out (by omega)⟩
end Go.Proofs.Ytmcioedmjcbfbaa
