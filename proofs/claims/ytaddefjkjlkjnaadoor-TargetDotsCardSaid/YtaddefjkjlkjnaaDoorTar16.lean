/- Walks of layer 5: are two URIs the same? may there be such a URI? Condition: texts within 10^7 octets; the world's shape. -/
import Derived.Test.YtaddefjkjlkjnaaDoorTar15
namespace Go.Proofs.YtaddefjkjlkjnaaDoor
open Go.RowKit IH
set_option maxRecDepth 100000
def sameU (a b : Uri) : Bool := decide (a.host = b.host ∧ a.port = b.port ∧ a.path = b.path)
theorem sameU_iff (a b : Uri) : sameU a b = true ↔ a = b := by
  unfold sameU
  rw [decide_eq_true_eq]
  obtain ⟨h, n, p⟩ := a
  obtain ⟨h', n', p'⟩ := b
  rw [Uri.mk.injEq]
def rightU (u : Uri) : Bool := decide ((parseU (printU u)).2 = 0) && sameU (parseU (printU u)).1 u
theorem rightU_iff (u : Uri) : rightU u = true ↔ parseU (printU u) = (u, 0) := by
  unfold rightU
  rw [Bool.and_eq_true, decide_eq_true_eq, sameU_iff]
  constructor
  · rintro ⟨h1, h2⟩
    exact Prod.ext h2 h1
  · intro h
    rw [h]
    exact ⟨rfl, rfl⟩
theorem mk_inj (l : List UInt8) (H : ByteArray) : ((⟨l.toArray⟩ : ByteArray) = H) ↔ l = H.data.toList := by
  constructor
  · intro h; rw [← h]
  · intro h; rw [h, Lib.mk_data]
theorem uri_eql (H : ByteArray) (n : Int) (Q H' : ByteArray) (n' : Int) (Q' : ByteArray) (w : World) : (binOp .eql 63 (.agg #[.string H, .int .i64 n, .string Q]) (.agg #[.string H', .int .i64 n', .string Q'])).run Tryd.prog w = .ok (.bool (decide (H = H' ∧ n = n' ∧ Q = Q'))) w := by
  have u1 := Tryd.underlying3
  have u2 := Tryd.underlying9
  have hS : Program.underlying Tryd.prog 63 = some (.struct (Program.fieldsOf Tryd.prog 63)) := by kernel_rfl
  have hp : Program.stoodInHeld Tryd.prog 63 = false := by kernel_rfl
  rw [run_eql_struct, show (10000 : Nat) = 9999 + 1 from rfl, run_equalIn_agg w 9999 63 _ _ hS hp]
  simp only [Program.fieldsOf, Tryd.underlying63]
  have s1 := str_eq H H'
  have s2 := str_eq Q Q'
  by_cases h1 : H = H'
  · by_cases h2 : n = n'
    · by_cases h3 : Q = Q'
      · rw [decide_eq_true h1] at s1
        rw [decide_eq_true h3] at s2
        have e2 : (n == n') = true := by simp [h2]
        rw [decide_eq_true ⟨h1, h2, h3⟩]
        clear h1 h2 h3
        go_simp
      · rw [decide_eq_true h1] at s1
        rw [decide_eq_false h3] at s2
        have e2 : (n == n') = true := by simp [h2]
        rw [decide_eq_false (fun h => h3 h.2.2)]
        clear h1 h2 h3
        go_simp
    · rw [decide_eq_true h1] at s1
      have e2 : (n == n') = false := by simp [h2]
      rw [decide_eq_false (fun h => h2 h.2.1)]
      clear h1 h2 s2
      go_simp
  · rw [decide_eq_false h1] at s1
    rw [decide_eq_false (fun h => h1 h.1)]
    clear h1 s2
    go_simp
theorem uri_same (u : Uri) (H : ByteArray) (n : Int) (Q : ByteArray) : decide ((⟨u.host.toArray⟩ : ByteArray) = H ∧ u.port = n ∧ (⟨u.path.toArray⟩ : ByteArray) = Q) = sameU u ⟨H.data.toList, n, Q.data.toList⟩ := by
  unfold sameU
  rw [decide_eq_decide, mk_inj, mk_inj]
set_option maxHeartbeats 4000000 in
theorem right5_any (H : ByteArray) (n : Int) (Q : ByteArray) (hH : H.size ≤ 10000000) (hQ : Q.size ≤ 10000000) (h0 : -9223372036854775808 ≤ n) (h1 : n ≤ 9223372036854775807) (w : World) (hsh : w.ShapedOpen Tryd.prog) :
    Calls Tryd.prog 45 #[.agg #[.string H, .int .i64 n, .string Q]] w fun e w' => e = .returned (.bool (rightU ⟨H.data.toList, n, Q.data.toList⟩)) ∧ Below w.heap.size w w' := by
  have PR := fun w => print5_any H n Q hH hQ h0 h1 w
  obtain ⟨T, hT⟩ : ∃ T : ByteArray, (⟨(printU ⟨H.data.toList, n, Q.data.toList⟩).toArray⟩ : ByteArray) = T := ⟨_, rfl⟩
  rw [hT] at PR
  have hTl : T.data.toList = printU ⟨H.data.toList, n, Q.data.toList⟩ := by rw [← hT]
  have hTs : T.size ≤ 1000000000 := by
    rw [← data_len, hTl, printU_flat]
    have h2 := printN_len n h1
    have : (if n = 80 then ([] : List UInt8) else 58 :: printN n 10).length ≤ 65 := by split <;> simp; omega
    simp only [List.length_append, data_len]
    show 7 + _ + _ + _ ≤ _
    omega
  have PA := fun (W : World) (hW : Below w.heap.size w W) => parse5_any T hTs W (shaped_below hsh hW)
  rw [hTl] at PA
  obtain ⟨J, hJ⟩ : ∃ J, parseU (printU ⟨H.data.toList, n, Q.data.toList⟩) = J := ⟨_, rfl⟩
  have hr : rightU ⟨H.data.toList, n, Q.data.toList⟩ = (decide (J.2 = 0) && sameU J.1 ⟨H.data.toList, n, Q.data.toList⟩) := by unfold rightU; rw [hJ]
  rw [hr]
  rw [hJ] at PA
  obtain ⟨JU, JE⟩ := J
  simp only [uriC] at PA ⊢
  have EQ := fun W => uri_eql ⟨JU.host.toArray⟩ JU.port ⟨JU.path.toArray⟩ H n Q W
  rw [uri_same] at EQ
  obtain ⟨sm, hsm⟩ : ∃ b, sameU JU ⟨H.data.toList, n, Q.data.toList⟩ = b := ⟨_, rfl⟩
  rw [hsm] at EQ ⊢
  replace PR := Lib.hid PR
  replace PA := Lib.hid PA
  clear hT hTl hTs hJ hr hsm hsh h0 h1
  by_cases hz : JE = 0
  · subst hz
    go_enter Tryd.func45, Tryd.ntmps45
    go_wp2_with (first
      | (go_at_call 41; refine (PR.out _).mono ?_; rintro e w2 ⟨rfl, hb2⟩; have B2 := Lib.hid (((Below.refl w.heap.size w).alloc (Nat.le_refl _) _).trans (hb2.mono (by simp))); have E2 := Lib.hid ((RowAt.new w 63 [.string H, .int .i64 n, .string Q]).below hb2 (by simp)); clear hb2)
      | (go_at_call 37; refine (PA.out _ B2.out).mono ?_; rintro e w3 ⟨rfl, hb3⟩; have B3 := Lib.hid (below_step B2.out hb3); have E3 := E2.out.below hb3 E2.out.lt; have c0 := E3.cell (j := 0) rfl; have c1 := E3.cell (j := 1) rfl; have c2 := E3.cell (j := 2) rfl; have hlt3 := E3.lt; clear hb3 E3))
    go_ret
    exact ⟨ret_bool (by simp), B3.out.alloc B3.out.size _⟩
  · have e0 : (JE == 0) = false := by rw [beq_eq_false_iff_ne]; exact hz
    rw [decide_eq_false hz, Bool.false_and]
    clear hz
    go_enter Tryd.func45, Tryd.ntmps45
    go_wp2_with (first
      | (go_at_call 41; refine (PR.out _).mono ?_; rintro e w2 ⟨rfl, hb2⟩; have B2 := Lib.hid (((Below.refl w.heap.size w).alloc (Nat.le_refl _) _).trans (hb2.mono (by simp))); clear hb2)
      | (go_at_call 37; refine (PA.out _ B2.out).mono ?_; rintro e w3 ⟨rfl, hb3⟩; have B3 := Lib.hid (below_step B2.out hb3); clear hb3))
    go_ret
    exact ⟨rfl, B3.out.alloc B3.out.size _⟩
set_option maxHeartbeats 4000000 in
theorem refRight5_any (H : ByteArray) (n : Int) (Q : ByteArray) (hH : H.size ≤ 10000000) (hQ : Q.size ≤ 10000000) (h0 : -9223372036854775808 ≤ n) (h1 : n ≤ 9223372036854775807) (w : World) :
    Calls Tryd.prog 46 #[.agg #[.string H, .int .i64 n, .string Q]] w fun e w' => e = .returned (.bool (rightU ⟨H.data.toList, n, Q.data.toList⟩)) ∧ Below w.heap.size w w' := by
  have PR := fun w => refPrint5_any H n Q hH hQ h0 h1 w
  obtain ⟨T, hT⟩ : ∃ T : ByteArray, (⟨(printU ⟨H.data.toList, n, Q.data.toList⟩).toArray⟩ : ByteArray) = T := ⟨_, rfl⟩
  rw [hT] at PR
  have hTl : T.data.toList = printU ⟨H.data.toList, n, Q.data.toList⟩ := by rw [← hT]
  have hTs : T.size ≤ 100000000 := by
    rw [← data_len, hTl, printU_flat]
    have h2 := printN_len n h1
    have : (if n = 80 then ([] : List UInt8) else 58 :: printN n 10).length ≤ 65 := by split <;> simp; omega
    simp only [List.length_append, data_len]
    show 7 + _ + _ + _ ≤ _
    omega
  have PA := fun (W : World) => refParse5_any T hTs W
  rw [hTl] at PA
  obtain ⟨J, hJ⟩ : ∃ J, parseU (printU ⟨H.data.toList, n, Q.data.toList⟩) = J := ⟨_, rfl⟩
  have hr : rightU ⟨H.data.toList, n, Q.data.toList⟩ = (decide (J.2 = 0) && sameU J.1 ⟨H.data.toList, n, Q.data.toList⟩) := by unfold rightU; rw [hJ]
  rw [hr]
  rw [hJ] at PA
  obtain ⟨JU, JE⟩ := J
  simp only [uriC] at PA ⊢
  have EQ := fun W => uri_eql ⟨JU.host.toArray⟩ JU.port ⟨JU.path.toArray⟩ H n Q W
  rw [uri_same] at EQ
  obtain ⟨sm, hsm⟩ : ∃ b, sameU JU ⟨H.data.toList, n, Q.data.toList⟩ = b := ⟨_, rfl⟩
  rw [hsm] at EQ ⊢
  replace PR := Lib.hid PR
  replace PA := Lib.hid PA
  clear hT hTl hTs hJ hr hsm h0 h1
  by_cases hz : JE = 0
  · subst hz
    go_enter Tryd.func46, Tryd.ntmps46
    go_wp2_with (first
      | (go_at_call 44; refine (PR.out _).mono ?_; rintro e w2 ⟨rfl, hb2⟩; have B2 := Lib.hid (((Below.refl w.heap.size w).alloc (Nat.le_refl _) _).trans (hb2.mono (by simp))); have E2 := Lib.hid ((RowAt.new w 63 [.string H, .int .i64 n, .string Q]).below hb2 (by simp)); clear hb2)
      | (go_at_call 38; refine (PA.out _).mono ?_; rintro e w3 ⟨rfl, hb3⟩; have B3 := Lib.hid (below_step B2.out hb3); have E3 := E2.out.below hb3 E2.out.lt; have c0 := E3.cell (j := 0) rfl; have c1 := E3.cell (j := 1) rfl; have c2 := E3.cell (j := 2) rfl; have hlt3 := E3.lt; clear hb3 E3))
    go_ret
    exact ⟨ret_bool (by simp), B3.out.alloc B3.out.size _⟩
  · have e0 : (JE == 0) = false := by rw [beq_eq_false_iff_ne]; exact hz
    rw [decide_eq_false hz, Bool.false_and]
    clear hz
    go_enter Tryd.func46, Tryd.ntmps46
    go_wp2_with (first
      | (go_at_call 44; refine (PR.out _).mono ?_; rintro e w2 ⟨rfl, hb2⟩; have B2 := Lib.hid (((Below.refl w.heap.size w).alloc (Nat.le_refl _) _).trans (hb2.mono (by simp))); clear hb2)
      | (go_at_call 38; refine (PA.out _).mono ?_; rintro e w3 ⟨rfl, hb3⟩; have B3 := Lib.hid (below_step B2.out hb3); clear hb3))
    go_ret
    exact ⟨rfl, B3.out.alloc B3.out.size _⟩
end Go.Proofs.YtaddefjkjlkjnaaDoor
