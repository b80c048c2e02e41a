/- Walks of layer 1: the document's Quote and Unquote. Condition: lengths within bounds. -/
import Derived.Test.YtclgkkencpkjpaaGreatDoorOct5
import Derived.Test.YtclgkkencpkjpaaGreatDoorMath6
namespace IH
theorem unq34 {l r : List UInt8} (h : l = 34 :: r) : unquote l = unqF [] 1 r := by rw [h]; unfold unquote; simp
theorem escQ_plain {c : UInt8} (h1 : c ≠ 34) (h2 : c ≠ 92) : escQ c = [c] := by unfold escQ; rw [if_neg (by intro h; rcases h with h | h; exact h1 h; exact h2 h)]
theorem escQ_esc {c : UInt8} (h : c = 34 ∨ c = 92) : escQ c = [92, c] := by unfold escQ; rw [if_pos h]
theorem quoteL_take (l : List UInt8) (k : Nat) (c : UInt8) (h : l[k]? = some c) : 34 :: (l.take (k + 1)).flatMap escQ = (34 :: (l.take k).flatMap escQ) ++ escQ c := by
  rw [List.take_add_one, h]
  simp
theorem escs_len (l : List UInt8) : (l.flatMap escQ).length ≤ 2 * l.length := by
  induction l with
  | nil => simp
  | cons c l ih =>
    rw [List.flatMap_cons, List.length_append, List.length_cons]
    have : (escQ c).length ≤ 2 := by unfold escQ; split <;> simp
    omega
theorem allOf_take {l : List UInt8} {k : Nat} {c : UInt8} (h : allOf isPlain (l.take k) = true) (hk : l[k]? = some c) (hc : isPlain c = true) : allOf isPlain (l.take (k + 1)) = true := by
  unfold allOf at h ⊢
  rw [List.take_add_one, hk]
  simp [h, hc]
theorem allOf_bad {l : List UInt8} {k : Nat} {c : UInt8} (hk : l[k]? = some c) (hc : isPlain c = false) : allOf isPlain l = false := by
  unfold allOf
  rw [Bool.eq_false_iff]
  intro h
  rw [List.all_eq_true] at h
  rw [h c (List.mem_of_getElem? hk)] at hc
  cases hc
end IH
namespace Go.Proofs.YtclgkkencpkjpaaGreatDoor
open Go.RowKit IH
set_option maxRecDepth 100000
def quoV (r : List UInt8 × Int) : Value := .tuple #[.string ⟨r.1.toArray⟩, .int .i64 r.2]
set_option maxHeartbeats 8000000 in
theorem refQuote_any (s : ByteArray) (hs : s.size ≤ 1000000) (w : World) :
    Calls Tryz.prog 15 #[.string s] w fun e w' => e = .returned (quoV (quoteR s.data.toList)) ∧ Below w.heap.size w w' := by
  obtain ⟨T, hT⟩ : ∃ T, quoteR s.data.toList = T := ⟨_, rfl⟩
  have HT := Lib.hid hT
  rw [hT]
  clear hT
  have Hown := Lib.hid (World.ownsRow_lit (base := w.heap.size) (e := 5) (size := 1) w #[.int .u8 34] 1 (Nat.le_refl _) (by simp [maxLen]) rfl)
  have B0 : Hid (Below w.heap.size w (w.alloc (.cells #[.int .u8 34] 5))) := Lib.hid ((Below.refl _ _).alloc (Nat.le_refl _) _)
  go_enter Tryz.func15, Tryz.ntmps15
  go_wp2
  go_loopw [4, 5] (fun v i wr => ∃ k m : Nat, k ≤ s.size ∧ i = .int .i64 k ∧ m ≤ 2 * k + 1 ∧ allOf isPlain (s.data.toList.take k) = true ∧ wr.ownsRow w.heap.size 5 1 v m (bytesV (34 :: (s.data.toList.take k).flatMap escQ)) ∧ Below w.heap.size w wr) (fun _ i _ => s.size - (intOf i).toNat)
  case atStart => exact ⟨0, 1, by omega, rfl, by omega, rfl, Hown.out, B0.out⟩
  case round =>
    clear Hown B0
    obtain ⟨wq, hwq⟩ : ∃ x : World, x = wr := ⟨_, rfl⟩
    subst hwq
    obtain ⟨k, m, hk, rfl, hm, hall, hrow, hbel⟩ := hrel
    have Hrow := Lib.hid hrow
    have Hall := Lib.hid hall
    have Bq := Lib.hid hbel
    clear hrow hall hbel
    by_cases hlt : k < s.size
    · obtain ⟨c, hc⟩ : ∃ c, s[k] = c := ⟨_, rfl⟩
      have hg : s.data.toList[k]? = some c := by rw [← hc]; exact get_data s k hlt
      have PL := Lib.hid (Plain_any c)
      cases hp : isPlain c with
      | false =>
        have HR : Hid (T = ([], 10)) := Lib.hid (by rw [← HT.out]; unfold quoteR; rw [if_neg (by rw [allOf_bad hg hp]; simp)])
        rw [hp] at PL
        clear hg hp
        go_wp2_with (go_at_call 61; refine (PL.out _).mono ?_; rintro e w2 ⟨rfl, rfl⟩)
        go_ret2
        exact ⟨by rw [HR.out]; rfl, Bq.out⟩
      | true =>
        have HA := Lib.hid (allOf_take Hall.out hg hp)
        have HQ := Lib.hid (quoteL_take _ _ _ hg)
        rw [hp] at PL
        clear hg hp
        by_cases he : c = 34 ∨ c = 92
        · have HE := Lib.hid (escQ_esc he)
          have hcB : ((c.toNat : Int) == 34) = true ∨ (((c.toNat : Int) == 34) = false ∧ ((c.toNat : Int) == 92) = true) := by
            rcases he with rfl | rfl
            · exact .inl rfl
            · exact .inr ⟨rfl, rfl⟩
          clear he
          rcases hcB with hc1 | ⟨hc1, hc2⟩
          all_goals
            go_upto_region 9 with (first
              | (go_at_call 61; refine (PL.out _).mono ?_; rintro e w2 ⟨rfl, rfl⟩)
              | (at_builtin; refine wpList_app u8_ty rfl _ _ rfl w.heap.size _ m _ rfl Hrow.out 1 1 _ rfl (by rfl) (one1 _ rfl) (by omega) (by simp only [maxLen]; omega) Bq.out.size ?_; intro v1 w1 hown1 hgr1; have B1 := Lib.hid (Bq.out.grown hgr1 Bq.out.size (fun q hq => (Hrow.out.lt q hq).1)); have O1 := Lib.hid hown1; clear hown1 hgr1))
            go_wp2_with (at_builtin; refine wpList_app u8_ty rfl _ _ rfl w.heap.size _ (m + 1) _ rfl O1.out 1 1 _ rfl (by rfl) (one1 _ rfl) (by omega) (by simp only [maxLen]; omega) B1.out.size ?_; intro v2 w2 hown2 hgr2; have B2 := Lib.hid (B1.out.grown hgr2 B1.out.size (fun q hq => (O1.out.lt q hq).1)); have O2 := Lib.hid hown2; clear hown2 hgr2)
            go_roundw
            case rel =>
              refine ⟨k + 1, m + 2, by omega, by go_num, by omega, HA.out, ?_, B2.out⟩
              rw [HQ.out, HE.out, bytesV_append]
              have h := O2.out
              rw [List.append_assoc] at h
              exact h
            case measure => simp [intOf]; omega
        · have h1 : c ≠ 34 := fun h => he (.inl h)
          have h2 : c ≠ 92 := fun h => he (.inr h)
          have HE := Lib.hid (escQ_plain h1 h2)
          have b34 : ((c.toNat : Int) == 34) = false := by rw [Bool.eq_false_iff]; exact fun h => h1 ((byte_lit c 34 (by omega)).1 h)
          have b92 : ((c.toNat : Int) == 92) = false := by rw [Bool.eq_false_iff]; exact fun h => h2 ((byte_lit c 92 (by omega)).1 h)
          clear he h1 h2
          go_wp2_with (first
            | (go_at_call 61; refine (PL.out _).mono ?_; rintro e w2 ⟨rfl, rfl⟩)
            | (at_builtin; refine wpList_app u8_ty rfl _ _ rfl w.heap.size _ m _ rfl Hrow.out 1 1 _ rfl (by rfl) (one1 _ rfl) (by omega) (by simp only [maxLen]; omega) Bq.out.size ?_; intro v1 w1 hown1 hgr1; have B1 := Lib.hid (Bq.out.grown hgr1 Bq.out.size (fun q hq => (Hrow.out.lt q hq).1)); have O1 := Lib.hid hown1; clear hown1 hgr1))
          go_roundw
          case rel =>
            refine ⟨k + 1, m + 1, by omega, by go_num, by omega, HA.out, ?_, B1.out⟩
            rw [HQ.out, HE.out, bytesV_append]
            exact O1.out
          case measure => simp [intOf]; omega
    · have e : s.data.toList.take k = s.data.toList := List.take_of_length_le (by rw [data_len]; omega)
      rw [e] at Hrow Hall
      have HR : Hid (T = (quoteL s.data.toList, 0)) := Lib.hid (by rw [← HT.out]; unfold quoteR; rw [if_pos Hall.out])
      clear e
      go_wp2_with (at_builtin; refine wpList_app u8_ty rfl _ _ rfl w.heap.size _ m _ rfl Hrow.out 1 1 _ rfl (by rfl) (one1 _ rfl) (by omega) (by simp only [maxLen]; omega) Bq.out.size ?_; intro v1 w1 hown1 hgr1; have B1 := Lib.hid (Bq.out.grown hgr1 Bq.out.size (fun q hq => (Hrow.out.lt q hq).1)); rw [show bytesV (34 :: List.flatMap escQ s.data.toList) ++ [.int .u8 34] = bytesV (34 :: List.flatMap escQ s.data.toList ++ [34]) from by rw [bytesV_append]; rfl] at hown1; obtain ⟨A, C, rfl, hsl⟩ := own_slice hown1; have hcs := run_string_of (P := Tryz.prog) hsl 38 9 5 Tryz.underlying38 Tryz.underlying5 Tryz.underlying9; clear hown1 hgr1 hsl)
      go_ret2
      exact ⟨by rw [HR.out]; rfl, B1.out⟩
set_option maxHeartbeats 8000000 in
theorem refUnquote_any (s : ByteArray) (hs : s.size ≤ 1000000) (w : World) :
    Calls Tryz.prog 17 #[.string s] w fun e w' => e = .returned (.tuple #[.string ⟨(unquote s.data.toList).1.toArray⟩, .int .i64 (unquote s.data.toList).2.1, .int .i64 (unquote s.data.toList).2.2]) ∧ Below w.heap.size w w' := by
  obtain ⟨T, hT⟩ : ∃ T, unquote s.data.toList = T := ⟨_, rfl⟩
  rw [hT]
  by_cases h0 : s.size = 0
  · have hd : s.data.toList = [] := List.eq_nil_of_length_eq_zero (by rw [data_len]; exact h0)
    rw [hd] at hT
    have HT : Hid (T = ([], 0, 10)) := Lib.hid hT.symm
    have hz : ((s.size : Int) == 0) = true := by rw [beq_iff_eq]; omega
    clear hT hd h0
    go_enter Tryz.func17, Tryz.ntmps17
    go_wp2
    go_ret3
    exact ⟨by rw [HT.out]; rfl, Below.refl _ _⟩
  · have hz : ((s.size : Int) == 0) = false := by rw [beq_eq_false_iff_ne]; omega
    have hlt0 : 0 < s.size := by omega
    obtain ⟨c, hc⟩ : ∃ c, s[0] = c := ⟨_, rfl⟩
    have hd := data_drop s 0 hlt0
    rw [List.drop_zero, hc] at hd
    by_cases h34 : c = 34
    · subst h34
      have HT : Hid (T = unqF [] 1 (s.data.toList.drop 1)) := Lib.hid (by rw [← hT]; exact unq34 hd)
      have hne : (((34 : UInt8).toNat : Int) != 34) = false := by decide
      clear hT h0 hd
      go_enter Tryz.func17, Tryz.ntmps17
      go_wp2
      clear hc
      go_loopw [5, 6] (fun v i wr => ∃ (k : Nat) (acc : List UInt8), i = .int .i64 k ∧ k ≤ s.size + 1 ∧ acc.length ≤ k ∧ T = unqF acc k (s.data.toList.drop k) ∧ wr.ownsRow w.heap.size 5 1 v acc.length (bytesV acc) ∧ Below w.heap.size w wr) (fun _ i _ => s.size + 1 - (intOf i).toNat)
      case atStart => exact ⟨1, [], rfl, by omega, by simp, HT.out, World.ownsRow_nil _ _ _ _, Below.refl _ _⟩
      case round =>
        clear HT
        obtain ⟨wq, hwq⟩ : ∃ x : World, x = wr := ⟨_, rfl⟩
        subst hwq
        obtain ⟨k, acc, rfl, hk, hacc, hat, hrow, hbel⟩ := hrel
        have Hrow := Lib.hid hrow
        have Bq := Lib.hid hbel
        clear hrow hbel
        by_cases hlt : k < s.size
        · obtain ⟨c, hc⟩ : ∃ c, s[k] = c := ⟨_, rfl⟩
          rw [data_drop s k hlt, hc] at hat
          by_cases h34 : c = 34
          · subst h34
            rw [unqF_end] at hat
            have Hat := Lib.hid hat
            obtain ⟨A, C, rfl, hsl⟩ := own_slice Hrow.out
            have hcs := run_string_of (P := Tryz.prog) hsl 38 9 5 Tryz.underlying38 Tryz.underlying5 Tryz.underlying9
            clear hat hsl
            go_wp2
            go_ret3
            exact ⟨by rw [Hat.out]; rfl, Bq.out⟩
          · have b34 : ((c.toNat : Int) == 34) = false := by rw [Bool.eq_false_iff]; exact fun h => h34 ((byte_lit c 34 (by omega)).1 h)
            by_cases h92 : c = 92
            · subst h92
              by_cases hk1 : k + 1 < s.size
              · obtain ⟨d, hd⟩ : ∃ d, s[k + 1] = d := ⟨_, rfl⟩
                rw [data_drop s (k + 1) hk1, hd, unqF_esc] at hat
                have PL := Lib.hid (Plain_any d)
                have hI : ¬ ((s.size : Int) ≤ (k : Int) + 1) := by omega
                cases hp : isPlain d with
                | true =>
                  rw [if_pos hp] at hat
                  rw [hp] at PL
                  have Hat := Lib.hid hat; clear hat hp h34
                  go_wp2_with (first
                    | (go_at_call 61; refine (PL.out _).mono ?_; rintro e w2 ⟨rfl, rfl⟩)
                    | (at_builtin; refine wpList_app u8_ty rfl _ _ rfl w.heap.size _ acc.length _ rfl Hrow.out 1 1 _ rfl (by rfl) (one1 _ rfl) (by omega) (by simp only [maxLen]; omega) Bq.out.size ?_; intro v1 w1 hown1 hgr1; have B1 := Lib.hid (Bq.out.grown hgr1 Bq.out.size (fun q hq => (Hrow.out.lt q hq).1)); have O1 := Lib.hid hown1; clear hown1 hgr1))
                  go_roundw
                  case rel => exact ⟨k + 2, acc ++ [d], by go_num, by omega, by simp; omega, Hat.out, by rw [List.length_append, bytesV_append]; exact O1.out, B1.out⟩
                  case measure => simp [intOf]; omega
                | false =>
                  rw [if_neg (by rw [hp]; simp)] at hat
                  rw [hp] at PL
                  have Hat := Lib.hid hat; clear hat hp h34
                  go_wp2_with (go_at_call 61; refine (PL.out _).mono ?_; rintro e w2 ⟨rfl, rfl⟩)
                  go_ret3
                  exact ⟨by rw [Hat.out]; rfl, Bq.out⟩
              · rw [List.drop_eq_nil_of_le (by rw [data_len]; omega), unqF_esc_nil] at hat
                have hI : (s.size : Int) ≤ (k : Int) + 1 := by omega
                have Hat := Lib.hid hat; clear hat h34
                go_wp2
                go_ret3
                exact ⟨by rw [Hat.out]; rfl, Bq.out⟩
            · have b92 : ((c.toNat : Int) == 92) = false := by rw [Bool.eq_false_iff]; exact fun h => h92 ((byte_lit c 92 (by omega)).1 h)
              rw [unqF_plain _ _ _ _ h34 h92] at hat
              have PL := Lib.hid (Plain_any c)
              have hI : ¬ ((s.size : Int) ≤ (k : Int)) := by omega
              cases hp : isPlain c with
              | true =>
                rw [if_pos hp] at hat
                rw [hp] at PL
                have Hat := Lib.hid hat; clear hat hp h34 h92
                go_wp2_with (first
                  | (go_at_call 61; refine (PL.out _).mono ?_; rintro e w2 ⟨rfl, rfl⟩)
                  | (at_builtin; refine wpList_app u8_ty rfl _ _ rfl w.heap.size _ acc.length _ rfl Hrow.out 1 1 _ rfl (by rfl) (one1 _ rfl) (by omega) (by simp only [maxLen]; omega) Bq.out.size ?_; intro v1 w1 hown1 hgr1; have B1 := Lib.hid (Bq.out.grown hgr1 Bq.out.size (fun q hq => (Hrow.out.lt q hq).1)); have O1 := Lib.hid hown1; clear hown1 hgr1))
                go_roundw
                case rel => exact ⟨k + 1, acc ++ [c], by go_num, by omega, by simp; omega, Hat.out, by rw [List.length_append, bytesV_append]; exact O1.out, B1.out⟩
                case measure => simp [intOf]; omega
              | false =>
                rw [if_neg (by rw [hp]; simp)] at hat
                rw [hp] at PL
                have Hat := Lib.hid hat; clear hat hp h34 h92
                go_wp2_with (go_at_call 61; refine (PL.out _).mono ?_; rintro e w2 ⟨rfl, rfl⟩)
                go_ret3
                exact ⟨by rw [Hat.out]; rfl, Bq.out⟩
        · rw [List.drop_eq_nil_of_le (by rw [data_len]; omega), unqF_nil] at hat
          have Hat := Lib.hid hat
          have hI : ¬ ((k : Int) < (s.size : Int)) := by omega
          clear hat
          go_wp2
          go_ret3
          exact ⟨by rw [Hat.out]; rfl, Bq.out⟩
    · have HT : Hid (T = ([], 0, 10)) := Lib.hid (by rw [← hT, hd]; unfold unquote; simp [h34])
      have hne : ((c.toNat : Int) != 34) = true := by rw [bne_iff_ne]; exact fun h => h34 ((byte_lit c 34 (by omega)).1 (by rw [beq_iff_eq]; exact h))
      clear hT h0 hd
      go_enter Tryz.func17, Tryz.ntmps17
      go_wp2
      go_ret3
      exact ⟨by rw [HT.out]; rfl, Below.refl _ _⟩
end Go.Proofs.YtclgkkencpkjpaaGreatDoor
