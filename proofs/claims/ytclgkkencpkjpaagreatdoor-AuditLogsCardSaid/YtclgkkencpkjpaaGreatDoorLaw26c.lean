/- Layer 26's laws: AuditLogs, walked. Condition: the world's shape. -/
import Derived.Test.YtclgkkencpkjpaaGreatDoorKf
import Derived.Test.YtclgkkencpkjpaaGreatDoorMts9
import Derived.Test.YtclgkkencpkjpaaGreatDoorOct8
namespace Go.Proofs.YtclgkkencpkjpaaGreatDoor
open Go.RowKit IH
set_option maxRecDepth 100000
theorem log_ty : SliceTy Tryz.prog 55 57 (.agg #[.int .i64 0, .string ⟨#[]⟩, .bool false]) 3 32 := ⟨Tryz.underlying55, by kernel_rfl, rfl, by decide⟩
set_option maxHeartbeats 16000000 in
theorem alogs_walk (w : World) (hsh : w.ShapedOpen Tryz.prog) (A : Option Addr) (n c : Nat) (LS : List LogL) (hin : SliceIn w w.heap.size 3 A n c (logsV LS)) :
    Calls Tryz.prog 7 #[.slice A n c] w fun e w' => e = .returned (.bool true) ∧ Below w.heap.size w w' := by
  have AW := Lib.hid (fun W (hW : Below w.heap.size w W) => awake26_any W (shaped_below hsh hW))
  have B0 := Lib.hid (Below.refl w.heap.size w)
  have tokA : Hid True := Lib.hid trivial
  have hL := log_count hin
  by_cases hn : 200 < n
  · have hI : (200 : Int) < (n : Int) := by omega
    clear hsh hin hL
    go_enter Tryz.func7, Tryz.ntmps7
    go_wp2_with (first
      | (have _t := tokA; go_at_call 21; (with_reducible refine (AW.out _ B0.out).mono ?_); rintro e w1 ⟨rfl, hb1⟩; have B1 := Lib.hid (below_step B0.out hb1); clear hb1 tokA _t)
      | (go_at_call 21; (with_reducible refine (AW.out _ B1.out).mono ?_); rintro e w2 ⟨rfl, hb2⟩; have B2 := Lib.hid (below_step B1.out hb2); clear hb2))
    go_ret
    exact ⟨rfl, B2.out⟩
  · have hI : (n : Int) ≤ 200 := by omega
    have Hn : Hid (n ≤ 200) := Lib.hid (by omega)
    have Hin := Lib.hid hin
    have HL := Lib.hid hL
    clear hsh hin hL hn
    go_enter Tryz.func7, Tryz.ntmps7
    go_wp2_with (go_at_call 21; (with_reducible refine (AW.out _ B0.out).mono ?_); rintro e w1 ⟨rfl, hb1⟩; have B1 := Lib.hid (below_step B0.out hb1); clear hb1 tokA)
    go_loopw [3] (fun iv wr => ∃ i : Nat, iv = .int .i64 i ∧ i ≤ n ∧ (∀ l ∈ LS.take i, l.key.length ≤ 300) ∧ w1 = wr) (fun iv _ => n - (intOf iv).toNat)
    case atStart => exact ⟨0, rfl, Nat.zero_le _, (by simp), rfl⟩
    case round =>
      obtain ⟨i, rfl, hi, hall, hwr⟩ := hrel
      subst hwr
      have HA := Lib.hid hall
      clear hall
      by_cases hlt : i < n
      · obtain ⟨l, hl⟩ : ∃ l, LS[i]? = some l := ⟨_, List.getElem?_eq_getElem (by rw [HL.out]; exact hlt)⟩
        obtain ⟨b, o, hA, hb, -, x1, -⟩ := log_at Hin.out hl
        obtain ⟨K, hK⟩ : ∃ K : ByteArray, (⟨l.key.toArray⟩ : ByteArray) = K := ⟨_, rfl⟩
        have hKs : K.size = l.key.length := by rw [← hK, size_mk]
        rw [hK] at x1
        have y1 := (B1.out.cell (p := ⟨b, o + i * 3 + 1, none⟩) hb).trans x1
        have hib : (i : Int) < (n : Int) := by omega
        subst hA
        clear x1 hb hK
        by_cases hbig : 300 < K.size
        · have hJ : (300 : Int) < (K.size : Int) := by omega
          clear hKs hbig
          go_wp2_with fail
          go_ret
          exact ⟨rfl, B1.out⟩
        · have hJ : (K.size : Int) ≤ 300 := by omega
          have HA2 : Hid (∀ l ∈ LS.take (i + 1), l.key.length ≤ 300) := Lib.hid (by
            intro l' h
            rw [List.take_add_one, hl] at h
            rcases List.mem_append.1 h with h | h
            · exact HA.out l' h
            · simp only [Option.toList_some, List.mem_singleton] at h
              subst h
              omega)
          clear hKs hbig hl
          go_wp2_with fail
          go_roundw
          case rel => exact ⟨i + 1, by go_num, by omega, HA2.out, by first | rfl | trivial⟩
          case measure => simp [intOf]; omega
      · obtain rfl : i = n := by omega
        have ht : LS.take i = LS := List.take_of_length_le (by rw [HL.out]; exact Nat.le_refl _)
        rw [ht] at HA
        have hni : ¬ ((i : Int) < (i : Int)) := by omega
        have Hown := Lib.hid (World.ownsRow_lit (base := w1.heap.size) (e := 57) (size := 3) w1 #[] 0 (Nat.le_refl _) (by simp [maxLen]) rfl)
        have Hin2 := Lib.hid (((Hin.out.below B1.out).more B1.out.size).alloc (Nat.le_refl _) (.cells #[] 57))
        clear ht
        go_wp2_with (first
          | (at_builtin; refine wpList_appN log_ty rfl _ _ rfl w1.heap.size _ 0 [] rfl Hown.out (by intro h; cases h) w1.heap.size A i c (logsV LS) rfl Hin2.out (logsV_one LS) (by have := Hn.out; omega) (by have := Hn.out; simp only [maxLen]; omega) (by simp) ?_; intro g cap w3 hown' hgr; rw [Nat.zero_add, List.nil_append] at hown'; simp only [Nat.zero_add]; have B3 := Lib.hid (below_step B1.out (((Below.refl w1.heap.size w1).alloc (Nat.le_refl _) (.cells #[] 57)).grown hgr (by simp) (fun q hq => (Hown.out.lt q hq).1))); have KA := Lib.hid (akept_any (some ⟨g, 0, none⟩) i cap LS w3 (SliceIn.of_own hown') (by have := Hn.out; omega)); clear hown' hgr)
          | (go_at_call 30; (with_reducible refine KA.out.mono ?_); rintro e w4 ⟨A4, n4, c4, rfl, hs4, hb4⟩; have B4 := Lib.hid (below_step B3.out hb4); have S4 := Lib.hid hs4; have KR := Lib.hid (rkept26_any A i c LS w4 ((Hin.out.below B4.out).more B4.out.size) (by have := Hn.out; omega) (fun l h => by have := HA.out l h; omega)); clear hb4 hs4)
          | (go_at_call 31; (with_reducible refine KR.out.mono ?_); rintro e w5 ⟨A5, n5, c5, rfl, hs5, hb5⟩; have B5 := Lib.hid (below_step B4.out hb5); have SA := Lib.hid (Same_any A4 A5 n4 n5 c4 c5 _ _ w5 _ _ (S4.out.below hb5) hs5); clear hb5 hs5)
          | (go_at_call 19; (with_reducible refine SA.out.mono ?_); rintro e w6 ⟨rfl, q, rfl⟩))
        go_ret
        exact ⟨by simp [sameL], below_drewN B5.out q⟩
end Go.Proofs.YtclgkkencpkjpaaGreatDoor
