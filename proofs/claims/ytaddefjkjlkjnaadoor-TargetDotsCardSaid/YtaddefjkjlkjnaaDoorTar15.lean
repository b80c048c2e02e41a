/- Walks of layer 5: a URI's text, by the code and by the document; may there be such a URI? Condition: texts within 10^7 octets; the world's shape. -/
import Derived.Test.YtaddefjkjlkjnaaDoorTar14
import Derived.Test.YtaddefjkjlkjnaaDoorOct9
import Derived.Laws.StructEq
namespace Go.Proofs.YtaddefjkjlkjnaaDoor
open Go.RowKit IH
set_option maxRecDepth 100000
theorem printN_len (n : Int) (_ : n ≤ 9223372036854775807) : (printN n 10).length ≤ 64 := by
  unfold printN
  exact digs_length _ 64 _
theorem printU_flat (u : Uri) : printU u = http7 ++ u.host ++ (if u.port = 80 then [] else 58 :: printN u.port 10) ++ u.path := rfl
set_option maxHeartbeats 4000000 in
theorem print5_any (H : ByteArray) (n : Int) (Q : ByteArray) (hH : H.size ≤ 10000000) (hQ : Q.size ≤ 10000000) (h0 : -9223372036854775808 ≤ n) (h1 : n ≤ 9223372036854775807) (w : World) :
    Calls Tryd.prog 41 #[.agg #[.string H, .int .i64 n, .string Q]] w fun e w' => e = .returned (.string ⟨(printU ⟨H.data.toList, n, Q.data.toList⟩).toArray⟩) ∧ Below w.heap.size w w' := by
  have hB : ((⟨#[104, 116, 116, 112, 58, 47, 47]⟩ : ByteArray) ++ H).size = H.size + 7 := by rw [← data_len, append_data, List.length_append, data_len H]; show 7 + _ = _; omega
  by_cases h80 : n = 80
  · have e1 : (n == 80) = true := by simp [h80]
    have e2 : (n != 80) = false := by simp [h80]
    have hp : Hid (((⟨#[104, 116, 116, 112, 58, 47, 47]⟩ : ByteArray) ++ H ++ Q).data.toList = printU ⟨H.data.toList, n, Q.data.toList⟩) := Lib.hid (by rw [append_data, append_data, printU_flat, if_pos h80]; simp; rfl)
    clear h80 h0 h1
    go_enter Tryd.func41, Tryd.ntmps41
    go_wp2
    go_ret
    exact ⟨ret_str (bytes_eq hp.out), (Below.refl _ _).alloc (Nat.le_refl _) _⟩
  · have e1 : (n == 80) = false := by rw [beq_eq_false_iff_ne]; exact h80
    have e2 : (n != 80) = true := by rw [bne, e1]; rfl
    obtain ⟨X, hX⟩ : ∃ X : ByteArray, (⟨(printN n 10).toArray⟩ : ByteArray) = X := ⟨_, rfl⟩
    have PN := fun w => Print_any n 10 h0 h1 w
    rw [hX] at PN
    have hXs : X.size ≤ 64 := by rw [← hX, size_mk]; exact printN_len n h1
    have hXl : X.data.toList = printN n 10 := by rw [← hX]
    have hC : ((⟨#[58]⟩ : ByteArray) ++ X).size = X.size + 1 := by rw [← data_len, append_data, List.length_append, data_len X]; show 1 + _ = _; omega
    have hD : ((⟨#[104, 116, 116, 112, 58, 47, 47]⟩ : ByteArray) ++ H ++ ((⟨#[58]⟩ : ByteArray) ++ X)).size = H.size + X.size + 8 := by rw [← data_len, append_data, List.length_append, data_len, data_len, hB, hC]; omega
    have hp : Hid (((⟨#[104, 116, 116, 112, 58, 47, 47]⟩ : ByteArray) ++ H ++ ((⟨#[58]⟩ : ByteArray) ++ X) ++ Q).data.toList = printU ⟨H.data.toList, n, Q.data.toList⟩) := Lib.hid (by rw [append_data, append_data, append_data, append_data, printU_flat, if_neg h80, hXl]; simp; rfl)
    replace PN := Lib.hid PN
    clear h80 h0 h1 hX hXl
    go_enter Tryd.func41, Tryd.ntmps41
    go_wp2_with (go_at_call 101; refine (PN.out _).mono ?_; rintro e w2 ⟨rfl, q, rfl⟩)
    go_ret
    exact ⟨ret_str (bytes_eq hp.out), below_drewN ((Below.refl _ _).alloc (Nat.le_refl _) _) q⟩
set_option maxHeartbeats 4000000 in
theorem refPrint5_any (H : ByteArray) (n : Int) (Q : ByteArray) (hH : H.size ≤ 10000000) (hQ : Q.size ≤ 10000000) (_ : -9223372036854775808 ≤ n) (h1 : n ≤ 9223372036854775807) (w : World) :
    Calls Tryd.prog 44 #[.agg #[.string H, .int .i64 n, .string Q]] w fun e w' => e = .returned (.string ⟨(printU ⟨H.data.toList, n, Q.data.toList⟩).toArray⟩) ∧ Below w.heap.size w w' := by
  have hB : ((⟨#[104, 116, 116, 112, 58, 47, 47]⟩ : ByteArray) ++ H).size = H.size + 7 := by rw [← data_len, append_data, List.length_append, data_len H]; show 7 + _ = _; omega
  by_cases h80 : n = 80
  · have e1 : (n == 80) = true := by simp [h80]
    have e2 : (n != 80) = false := by simp [h80]
    have hp : Hid (((⟨#[104, 116, 116, 112, 58, 47, 47]⟩ : ByteArray) ++ H ++ Q).data.toList = printU ⟨H.data.toList, n, Q.data.toList⟩) := Lib.hid (by rw [append_data, append_data, printU_flat, if_pos h80]; simp; rfl)
    clear h80 h1
    go_enter Tryd.func44, Tryd.ntmps44
    go_wp2
    go_ret
    exact ⟨ret_str (bytes_eq hp.out), (Below.refl _ _).alloc (Nat.le_refl _) _⟩
  · have e1 : (n == 80) = false := by rw [beq_eq_false_iff_ne]; exact h80
    have e2 : (n != 80) = true := by rw [bne, e1]; rfl
    obtain ⟨X, hX⟩ : ∃ X : ByteArray, (⟨(printN n 10).toArray⟩ : ByteArray) = X := ⟨_, rfl⟩
    have PN := fun w => refPrint_any n 10 h1 w
    rw [hX] at PN
    have hXs : X.size ≤ 64 := by rw [← hX, size_mk]; exact printN_len n h1
    have hXl : X.data.toList = printN n 10 := by rw [← hX]
    have hC : ((⟨#[104, 116, 116, 112, 58, 47, 47]⟩ : ByteArray) ++ H ++ (⟨#[58]⟩ : ByteArray)).size = H.size + 8 := by rw [← data_len, append_data, List.length_append, data_len, hB]; rfl
    have hD : ((⟨#[104, 116, 116, 112, 58, 47, 47]⟩ : ByteArray) ++ H ++ (⟨#[58]⟩ : ByteArray) ++ X).size = H.size + X.size + 8 := by rw [← data_len, append_data, List.length_append, data_len, data_len, hC]; omega
    have hp : Hid (((⟨#[104, 116, 116, 112, 58, 47, 47]⟩ : ByteArray) ++ H ++ (⟨#[58]⟩ : ByteArray) ++ X ++ Q).data.toList = printU ⟨H.data.toList, n, Q.data.toList⟩) := Lib.hid (by rw [append_data, append_data, append_data, append_data, printU_flat, if_neg h80, hXl]; simp; rfl)
    replace PN := Lib.hid PN
    clear h80 h1 hX hXl
    go_enter Tryd.func44, Tryd.ntmps44
    go_wp2_with (go_at_call 70; refine (PN.out _).mono ?_; rintro e w2 ⟨rfl, hb2⟩; have c2 := (hb2.cell (p := ⟨w.heap.size, 2, none⟩) (by simp)).trans ((RowAt.new w 63 [.string H, .int .i64 n, .string Q]).cell (j := 2) rfl))
    go_ret
    exact ⟨ret_str (bytes_eq hp.out), below_step ((Below.refl _ _).alloc (Nat.le_refl _) _) hb2⟩
end Go.Proofs.YtaddefjkjlkjnaaDoor
