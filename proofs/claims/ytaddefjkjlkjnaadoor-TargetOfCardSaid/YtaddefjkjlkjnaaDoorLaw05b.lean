/- Layer 5's laws: an argument that is a URI, opened; TargetResolves, walked. Condition: the world's shape. -/
import Derived.Test.YtaddefjkjlkjnaaDoorLaw05a
import Derived.Test.YtaddefjkjlkjnaaDoorTar20
import Derived.ProofKit
import Derived.OpenShut
import Derived.Lib.SmallJoins
namespace Go.Proofs.YtaddefjkjlkjnaaDoor
open Go.RowKit IH
open Go.ChangeShapes Go.WideShapes Go.ChangeAt Go.Joins
set_option maxRecDepth 100000
section
variable {H : Type} {enc : TypeId × Value → H} {w : World} {base b0 : Nat} {spare : Nat → Bool} {held : Bool} {r : Reach}
theorem open_uri {v : Value} {d : DataW H} {p : List MemPlace} (hval : Value.okWide Tryd.prog w r b0 63 v) (h : DataW.Trod enc Tryd.prog w base spare held 63 v d p) :
    ∃ (A : ByteArray) (n : Int) (B : ByteArray), v = .agg #[.string A, .int .i64 n, .string B] ∧ A.size ≤ maxLen ∧ (Lit.int .i64 n).wf = true ∧ B.size ≤ maxLen := by
  obtain ⟨c0, c1, c2, y0, y1, y2, m, rfl, rfl, rfl, hy0, hy1, hy2⟩ := open_agg3 Tryd.underlying63 (by kernel_rfl) (by kernel_rfl) hval h
  obtain ⟨x, e0, rfl, wx⟩ := DataW.trod_string Tryd.underlying9 hy0
  obtain ⟨y, e1, rfl, wy⟩ := DataW.trod_int Tryd.underlying3 hy1
  obtain ⟨z, e2, rfl, wz⟩ := DataW.trod_string Tryd.underlying9 hy2
  simp only [List.cons.injEq, and_true] at e0 e1 e2
  subst e0 e1 e2
  exact ⟨x, y, z, rfl, wx, wy, wz⟩
end
set_option maxHeartbeats 16000000 in
theorem tresolves_walk (w : World) (hsh : w.ShapedOpen Tryd.prog) (H : ByteArray) (n : Int) (Q : ByteArray) (_wH : H.size ≤ maxLen) (wn : (Lit.int .i64 n).wf = true) (_wQ : Q.size ≤ maxLen) (s : ByteArray) (_hs : s.size ≤ 9223372036854775807) :
    Calls Tryd.prog 10 #[.agg #[.string H, .int .i64 n, .string Q], .string s] w fun e w' => e = .returned (.bool true) ∧ Below w.heap.size w w' := by
  obtain ⟨n0, n1⟩ := bounds_i64 wn
  obtain ⟨w1, hw1⟩ : ∃ W, w.alloc (.cells #[.string H, .int .i64 n, .string Q] 63) = W := ⟨_, rfl⟩
  obtain ⟨g2, hg2⟩ : ∃ g, w.heap.size = g := ⟨_, rfl⟩
  have hlt24 : g2 < w1.heap.size := by rw [← hg2, ← hw1]; simp
  have BR : Hid (Below w1.heap.size w1 w1) := Lib.hid (Below.refl _ _)
  have BX := Lib.hid (fun (W : World) (hW : Below w1.heap.size w1 W) => (show Below g2 w W from by rw [← hg2]; exact (((Below.refl w.heap.size w).alloc (Nat.le_refl _) _).trans ((by rw [hw1, hg2]; exact hW.mono (by omega))))))
  have UX := Lib.hid (fun (W : World) (hW : Below w1.heap.size w1 W) => (show RowAt W g2 63 [.string H, .int .i64 n, .string Q] from (by have := RowAt.new w 63 [.string H, .int .i64 n, .string Q]; rw [hg2] at this; rw [show ([.string H, .int .i64 n, .string Q] : List Value).toArray = #[.string H, .int .i64 n, .string Q] from rfl, hw1] at this; exact this.below hW hlt24)))
  have AW := Lib.hid (fun (W : World) (hW : Below g2 w W) => awake05_any W (shaped_below hsh (by rw [hg2]; exact hW)))
  rw [hg2]
  have V0 := UX.out _ BR.out
  have u0 := V0.cell (j := 0) rfl
  have u1 := V0.cell (j := 1) rfl
  have u2 := V0.cell (j := 2) rfl
  clear V0
  by_cases h1 : 500 < H.size
  · clear hsh
    · have h500I : (500 : Int) < (H.size : Int) := by omega
      go_enter Tryd.func10, Tryd.ntmps10
      go_wp2_with (first
        | (go_at_call 36; refine (AW.out _ (BX.out _ BR.out)).mono ?_; rintro e w2 ⟨rfl, hb2⟩; have B2 := Lib.hid (below_step BR.out hb2); clear hb2 u0 u1 u2; have V0 := UX.out _ B2.out; have u0 := V0.cell (j := 0) rfl; have u1 := V0.cell (j := 1) rfl; have u2 := V0.cell (j := 2) rfl; clear V0)
        | (go_at_call 36; refine (AW.out _ (BX.out _ B2.out)).mono ?_; rintro e w3 ⟨rfl, hb3⟩; have B3 := Lib.hid (below_step B2.out hb3); clear hb3))
      go_ret
      exact ⟨rfl, BX.out _ B3.out⟩
  · by_cases h2 : 3000 < Q.size
    · clear hsh
      have h500I : ¬ ((500 : Int) < (H.size : Int)) := by omega
      have h3000I : (3000 : Int) < (Q.size : Int) := by omega
      go_enter Tryd.func10, Tryd.ntmps10
      go_wp2_with (first
        | (go_at_call 36; refine (AW.out _ (BX.out _ BR.out)).mono ?_; rintro e w2 ⟨rfl, hb2⟩; have B2 := Lib.hid (below_step BR.out hb2); clear hb2 u0 u1 u2; have V0 := UX.out _ B2.out; have u0 := V0.cell (j := 0) rfl; have u1 := V0.cell (j := 1) rfl; have u2 := V0.cell (j := 2) rfl; clear V0)
        | (go_at_call 36; refine (AW.out _ (BX.out _ B2.out)).mono ?_; rintro e w3 ⟨rfl, hb3⟩; have B3 := Lib.hid (below_step B2.out hb3); clear hb3))
      go_ret
      exact ⟨rfl, BX.out _ B3.out⟩
    · by_cases h3 : 9000 < s.size
      · clear hsh
        have h500I : ¬ ((500 : Int) < (H.size : Int)) := by omega
        have h3000I : ¬ ((3000 : Int) < (Q.size : Int)) := by omega
        have h9000I : (9000 : Int) < (s.size : Int) := by omega
        go_enter Tryd.func10, Tryd.ntmps10
        go_wp2_with (first
          | (go_at_call 36; refine (AW.out _ (BX.out _ BR.out)).mono ?_; rintro e w2 ⟨rfl, hb2⟩; have B2 := Lib.hid (below_step BR.out hb2); clear hb2 u0 u1 u2; have V0 := UX.out _ B2.out; have u0 := V0.cell (j := 0) rfl; have u1 := V0.cell (j := 1) rfl; have u2 := V0.cell (j := 2) rfl; clear V0)
          | (go_at_call 36; refine (AW.out _ (BX.out _ B2.out)).mono ?_; rintro e w3 ⟨rfl, hb3⟩; have B3 := Lib.hid (below_step B2.out hb3); clear hb3))
        go_ret
        exact ⟨rfl, BX.out _ B3.out⟩
      · have h500I : ¬ ((500 : Int) < (H.size : Int)) := by omega
        have h3000I : ¬ ((3000 : Int) < (Q.size : Int)) := by omega
        have h9000I : ¬ ((9000 : Int) < (s.size : Int)) := by omega
        have PA := fun (W : World) (hW : Below g2 w W) => resolve5_any H n Q s (by omega) (by omega) n0 n1 (by omega) W (shaped_below hsh (by rw [hg2]; exact hW))
        have PB := fun (W : World) => refResolve5_any H n Q s (by omega) (by omega) n0 n1 (by omega) W
        obtain ⟨J, hJ⟩ : ∃ J, resolveU ⟨H.data.toList, n, Q.data.toList⟩ s.data.toList = J := ⟨_, rfl⟩
        rw [hJ] at PA PB
        obtain ⟨JU, JE⟩ := J
        simp only [uriC] at PA PB
        replace PA := Lib.hid PA
        replace PB := Lib.hid PB
        have EQ := fun W => uri_eql ⟨JU.host.toArray⟩ JU.port ⟨JU.path.toArray⟩ ⟨JU.host.toArray⟩ JU.port ⟨JU.path.toArray⟩ W
        rw [decide_eq_true ⟨rfl, rfl, rfl⟩] at EQ
        have ej : (JE == JE) = true := by simp
        clear hsh hJ h1 h2 h3
        go_enter Tryd.func10, Tryd.ntmps10
        go_upto_region 3 with (go_at_call 36; refine (AW.out _ (BX.out _ BR.out)).mono ?_; rintro e w2 ⟨rfl, hb2⟩; have B2 := Lib.hid (below_step BR.out hb2); clear hb2 u0 u1 u2; have V0 := UX.out _ B2.out; have u0 := V0.cell (j := 0) rfl; have u1 := V0.cell (j := 1) rfl; have u2 := V0.cell (j := 2) rfl; clear V0)
        clear BR
        go_wp2_with (first
          | (go_at_call 39; refine (PA.out _ (BX.out _ B2.out)).mono ?_; rintro e w3 ⟨rfl, hb3⟩; have B3 := Lib.hid (below_step B2.out hb3); clear hb3 u0 u1 u2; obtain ⟨g1, hg1⟩ : ∃ g, w3.heap.size = g := ⟨_, rfl⟩; obtain ⟨w4, hw4⟩ : ∃ V, w3.alloc (.cells zeroC.toArray 63) = V := ⟨_, rfl⟩; have Z1 : Hid (RowAt w4 g1 63 zeroC) := Lib.hid (by rw [← hw4, ← hg1]; exact RowAt.new w3 _ _); have N1 : Hid (Res g1 w3 w4) := Lib.hid (by rw [← hw4, ← hg1]; exact Res.start w3); rw [show zeroC.toArray = #[.string ⟨#[]⟩, .int .i64 0, .string ⟨#[]⟩] from rfl] at hw4)
          | (refine wpList_store_row rfl 63 _ _ rfl g1 63 [.string ⟨JU.host.toArray⟩, .int .i64 JU.port, .string ⟨JU.path.toArray⟩] zeroC rfl rfl Z1.out rfl (by kernel_rfl) uri_one ?_; intro w5 hq5 ho5; have Q5 := Lib.hid hq5; have N5 := Lib.hid (N1.out.stored ho5 hq5 rfl); have B5 := Lib.hid (below_step B3.out (by rw [hg1]; exact N5.out.below)); clear Z1 N1 ho5 hq5 hg1 hw4; have V0 := UX.out _ B5.out; have u0 := V0.cell (j := 0) rfl; have u1 := V0.cell (j := 1) rfl; have u2 := V0.cell (j := 2) rfl; clear V0)
          | (go_at_call 40; refine (PB.out _).mono ?_; rintro e w6 ⟨rfl, hb6⟩; have B6 := Lib.hid (below_step B5.out hb6); have Q6 := Lib.hid (Q5.out.below hb6 Q5.out.lt); clear hb6 u0 u1 u2; obtain ⟨g7, hg7⟩ : ∃ g, w6.heap.size = g := ⟨_, rfl⟩; obtain ⟨w7, hw7⟩ : ∃ V, w6.alloc (.cells zeroC.toArray 63) = V := ⟨_, rfl⟩; have Z2 : Hid (RowAt w7 g7 63 zeroC) := Lib.hid (by rw [← hw7, ← hg7]; exact RowAt.new w6 _ _); have N2 : Hid (Res g7 w6 w7) := Lib.hid (by rw [← hw7, ← hg7]; exact Res.start w6); rw [show zeroC.toArray = #[.string ⟨#[]⟩, .int .i64 0, .string ⟨#[]⟩] from rfl] at hw7)
          | (refine wpList_store_row rfl 63 _ _ rfl g7 63 [.string ⟨JU.host.toArray⟩, .int .i64 JU.port, .string ⟨JU.path.toArray⟩] zeroC rfl rfl Z2.out rfl (by kernel_rfl) uri_one ?_; intro w8 hq8 ho8; have q30 := hq8.cell (j := 0) rfl; have q31 := hq8.cell (j := 1) rfl; have q32 := hq8.cell (j := 2) rfl; have Q8 := Lib.hid (Q6.out.below (by rw [hg7]; exact (N2.out.stored ho8 hq8 rfl).below) Q6.out.lt); have B8 := Lib.hid (below_step B6.out (by rw [hg7]; exact (N2.out.stored ho8 hq8 rfl).below)); have q10 := Q8.out.cell (j := 0) rfl; have q11 := Q8.out.cell (j := 1) rfl; have q12 := Q8.out.cell (j := 2) rfl))
        go_ret
        exact ⟨rfl, BX.out _ B8.out⟩
end Go.Proofs.YtaddefjkjlkjnaaDoor
