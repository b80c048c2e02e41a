/- Layer 5's laws: the document's example; TargetParses, walked. Condition: the world's shape. -/
import Derived.Test.YtaddefjkjlkjnaaDoorTar18
import Derived.Test.YtaddefjkjlkjnaaDoorTgt4
namespace Go.Proofs.YtaddefjkjlkjnaaDoor
open Go.RowKit IH
set_option maxRecDepth 100000
def exC : List Value := [.string ⟨#[97, 46, 98]⟩, .int .i64 80, .string ⟨#[47, 120, 47, 126, 122, 63, 113, 61, 37, 50, 70]⟩]
def exD : List Value := [.string ⟨#[97, 46, 98]⟩, .int .i64 80, .string ⟨#[47, 119]⟩]
theorem exC_eq : uriC ex5U = exC := rfl
theorem exD_eq : uriC ⟨[97, 46, 98], 80, [47, 119]⟩ = exD := rfl
theorem ex5_data : (⟨#[72, 84, 84, 80, 58, 47, 47, 65, 46, 98, 58, 48, 56, 48, 47, 120, 47, 46, 47, 121, 47, 46, 46, 47, 37, 55, 69, 122, 63, 113, 61, 37, 50, 102]⟩ : ByteArray).data.toList = ex5 := rfl
theorem exU_data : (⟨(⟨#[97, 46, 98]⟩ : ByteArray).data.toList, 80, (⟨#[47, 120, 47, 126, 122, 63, 113, 61, 37, 50, 70]⟩ : ByteArray).data.toList⟩ : Uri) = ex5U := rfl
set_option maxHeartbeats 8000000 in
theorem awake05_any (w : World) (hsh : w.ShapedOpen Tryd.prog) : Calls Tryd.prog 36 #[] w fun e w' => e = .returned (.bool true) ∧ Below w.heap.size w w' := by
  have PA := fun (W : World) (hW : Below w.heap.size w W) => parse5_any ⟨#[72, 84, 84, 80, 58, 47, 47, 65, 46, 98, 58, 48, 56, 48, 47, 120, 47, 46, 47, 121, 47, 46, 46, 47, 37, 55, 69, 122, 63, 113, 61, 37, 50, 102]⟩ (by decide) W (shaped_below hsh hW)
  rw [ex5_data, ex5_parse] at PA
  simp only [exC_eq] at PA
  have PB := fun (W : World) (hW : Below w.heap.size w W) => resolve5_any ⟨#[97, 46, 98]⟩ 80 ⟨#[47, 120, 47, 126, 122, 63, 113, 61, 37, 50, 70]⟩ ⟨#[46, 46, 47, 119]⟩ (by decide) (by decide) (by decide) (by decide) (by decide) W (shaped_below hsh hW)
  rw [exU_data, show (⟨#[46, 46, 47, 119]⟩ : ByteArray).data.toList = [46, 46, 47, 119] from rfl, ex5_resolve] at PB
  simp only [exD_eq] at PB
  rw [show exC.toArray = #[.string ⟨#[97, 46, 98]⟩, .int .i64 80, .string ⟨#[47, 120, 47, 126, 122, 63, 113, 61, 37, 50, 70]⟩] from rfl] at PA
  rw [show exD.toArray = #[.string ⟨#[97, 46, 98]⟩, .int .i64 80, .string ⟨#[47, 119]⟩] from rfl] at PB
  replace PA := Lib.hid PA
  replace PB := Lib.hid PB
  have EQ := fun W => uri_eql ⟨#[97, 46, 98]⟩ 80 ⟨#[47, 120, 47, 126, 122, 63, 113, 61, 37, 50, 70]⟩ ⟨#[97, 46, 98]⟩ 80 ⟨#[47, 120, 47, 126, 122, 63, 113, 61, 37, 50, 70]⟩ W
  rw [decide_eq_true ⟨rfl, rfl, rfl⟩] at EQ
  have ES := str_eq ⟨#[47, 119]⟩ ⟨#[47, 119]⟩
  rw [decide_eq_true rfl] at ES
  have BR : Hid (Below w.heap.size w w) := Lib.hid (Below.refl _ _)
  clear hsh
  go_enter Tryd.func36, Tryd.ntmps36
  go_wp2_with (first
    | (go_at_call 37; refine (PA.out _ BR.out).mono ?_; rintro e w3 ⟨rfl, hb3⟩; have B3 := Lib.hid (below_step BR.out hb3); clear hb3; obtain ⟨g1, hg1⟩ : ∃ g, w3.heap.size = g := ⟨_, rfl⟩; obtain ⟨w4, hw4⟩ : ∃ V, w3.alloc (.cells zeroC.toArray 63) = V := ⟨_, rfl⟩; have Z1 : Hid (RowAt w4 g1 63 zeroC) := Lib.hid (by rw [← hw4, ← hg1]; exact RowAt.new w3 _ _); have N1 : Hid (Res g1 w3 w4) := Lib.hid (by rw [← hw4, ← hg1]; exact Res.start w3); rw [show zeroC.toArray = #[.string ⟨#[]⟩, .int .i64 0, .string ⟨#[]⟩] from rfl] at hw4)
    | (refine wpList_store_row rfl 63 _ _ rfl g1 63 [.string ⟨#[97, 46, 98]⟩, .int .i64 80, .string ⟨#[47, 120, 47, 126, 122, 63, 113, 61, 37, 50, 70]⟩] zeroC rfl rfl Z1.out rfl (by kernel_rfl) uri_one ?_; intro w5 hq5 ho5; have q10 := hq5.cell (j := 0) rfl; have q11 := hq5.cell (j := 1) rfl; have q12 := hq5.cell (j := 2) rfl; have lt5 := hq5.lt; have Q5 := Lib.hid hq5; have N5 := Lib.hid (N1.out.stored ho5 hq5 rfl); have B5 := Lib.hid (below_step B3.out (by rw [hg1]; exact N5.out.below)); clear Z1 N1 ho5 hq5 hg1)
    | (go_at_call 39; refine (PB.out _ B5.out).mono ?_; rintro e w6 ⟨rfl, hb6⟩; have B6 := Lib.hid (below_step B5.out hb6); have Q6 := Lib.hid (Q5.out.below hb6 Q5.out.lt); clear hb6 q10 q11 q12 lt5 hw4; obtain ⟨g7, hg7⟩ : ∃ g, w6.heap.size = g := ⟨_, rfl⟩; obtain ⟨w7, hw7⟩ : ∃ V, w6.alloc (.cells zeroC.toArray 63) = V := ⟨_, rfl⟩; have Z2 : Hid (RowAt w7 g7 63 zeroC) := Lib.hid (by rw [← hw7, ← hg7]; exact RowAt.new w6 _ _); have N2 : Hid (Res g7 w6 w7) := Lib.hid (by rw [← hw7, ← hg7]; exact Res.start w6); rw [show zeroC.toArray = #[.string ⟨#[]⟩, .int .i64 0, .string ⟨#[]⟩] from rfl] at hw7)
    | (refine wpList_store_row rfl 63 _ _ rfl g7 63 [.string ⟨#[97, 46, 98]⟩, .int .i64 80, .string ⟨#[47, 119]⟩] zeroC rfl rfl Z2.out rfl (by kernel_rfl) uri_one ?_; intro w8 hq8 ho8; have q30 := hq8.cell (j := 0) rfl; have q31 := hq8.cell (j := 1) rfl; have q32 := hq8.cell (j := 2) rfl; have Q8 := Lib.hid (Q6.out.below (by rw [hg7]; exact (N2.out.stored ho8 hq8 rfl).below) Q6.out.lt); have B8 := Lib.hid (below_step B6.out (by rw [hg7]; exact (N2.out.stored ho8 hq8 rfl).below)); have q10 := Q8.out.cell (j := 0) rfl; have q11 := Q8.out.cell (j := 1) rfl; have q12 := Q8.out.cell (j := 2) rfl))
  go_ret
  exact ⟨rfl, B8.out⟩
set_option maxHeartbeats 8000000 in
theorem tparses_walk (w : World) (hsh : w.ShapedOpen Tryd.prog) (s : ByteArray) (_hs : s.size ≤ 9223372036854775807) : Calls Tryd.prog 9 #[.string s] w fun e w' => e = .returned (.bool true) ∧ Below w.heap.size w w' := by
  have AW := Lib.hid (fun (W : World) (hW : Below w.heap.size w W) => awake05_any W (shaped_below hsh hW))
  have BR : Hid (Below w.heap.size w w) := Lib.hid (Below.refl _ _)
  by_cases h9 : 9000 < s.size
  · clear hsh
    go_enter Tryd.func9, Tryd.ntmps9
    go_wp2_with fail
    refine (AW.out _ BR.out).mono ?_
    rintro e w2 ⟨rfl, hb2⟩
    have B2 := Lib.hid hb2; clear hb2
    go_wp2_with fail
    refine (AW.out _ B2.out).mono ?_
    rintro e w3 ⟨rfl, hb3⟩
    have B3 := Lib.hid (below_step B2.out hb3); clear hb3
    go_wp2
    go_ret
    exact ⟨rfl, B3.out⟩
  · have PA := fun (W : World) (hW : Below w.heap.size w W) => parse5_any s (by omega) W (shaped_below hsh hW)
    have PB := fun (W : World) => refParse5_any s (by omega) W
    obtain ⟨J, hJ⟩ : ∃ J, parseU s.data.toList = J := ⟨_, rfl⟩
    rw [hJ] at PA PB
    obtain ⟨JU, JE⟩ := J
    simp only [uriC] at PA PB
    replace PA := Lib.hid PA
    replace PB := Lib.hid PB
    have EQ := fun W => uri_eql ⟨JU.host.toArray⟩ JU.port ⟨JU.path.toArray⟩ ⟨JU.host.toArray⟩ JU.port ⟨JU.path.toArray⟩ W
    rw [decide_eq_true ⟨rfl, rfl, rfl⟩] at EQ
    have ej : (JE == JE) = true := by simp
    have hI : (s.size : Int) ≤ 9000 := by omega
    clear hsh hJ h9
    go_enter Tryd.func9, Tryd.ntmps9
    go_wp2_with (first
      | (go_at_call 36; refine (AW.out _ BR.out).mono ?_; rintro e w2 ⟨rfl, hb2⟩; have B2 := Lib.hid hb2; clear hb2)
      | (go_at_call 37; refine (PA.out _ B2.out).mono ?_; rintro e w3 ⟨rfl, hb3⟩; have B3 := Lib.hid (below_step B2.out hb3); clear hb3; obtain ⟨g1, hg1⟩ : ∃ g, w3.heap.size = g := ⟨_, rfl⟩; obtain ⟨w4, hw4⟩ : ∃ V, w3.alloc (.cells zeroC.toArray 63) = V := ⟨_, rfl⟩; have Z1 : Hid (RowAt w4 g1 63 zeroC) := Lib.hid (by rw [← hw4, ← hg1]; exact RowAt.new w3 _ _); have N1 : Hid (Res g1 w3 w4) := Lib.hid (by rw [← hw4, ← hg1]; exact Res.start w3); rw [show zeroC.toArray = #[.string ⟨#[]⟩, .int .i64 0, .string ⟨#[]⟩] from rfl] at hw4)
      | (refine wpList_store_row rfl 63 _ _ rfl g1 63 [.string ⟨JU.host.toArray⟩, .int .i64 JU.port, .string ⟨JU.path.toArray⟩] zeroC rfl rfl Z1.out rfl (by kernel_rfl) uri_one ?_; intro w5 hq5 ho5; have Q5 := Lib.hid hq5; have N5 := Lib.hid (N1.out.stored ho5 hq5 rfl); have B5 := Lib.hid (below_step B3.out (by rw [hg1]; exact N5.out.below)); clear Z1 N1 ho5 hq5 hg1 hw4)
      | (go_at_call 38; refine (PB.out _).mono ?_; rintro e w6 ⟨rfl, hb6⟩; have B6 := Lib.hid (below_step B5.out hb6); have Q6 := Lib.hid (Q5.out.below hb6 Q5.out.lt); clear hb6; obtain ⟨g7, hg7⟩ : ∃ g, w6.heap.size = g := ⟨_, rfl⟩; obtain ⟨w7, hw7⟩ : ∃ V, w6.alloc (.cells zeroC.toArray 63) = V := ⟨_, rfl⟩; have Z2 : Hid (RowAt w7 g7 63 zeroC) := Lib.hid (by rw [← hw7, ← hg7]; exact RowAt.new w6 _ _); have N2 : Hid (Res g7 w6 w7) := Lib.hid (by rw [← hw7, ← hg7]; exact Res.start w6); rw [show zeroC.toArray = #[.string ⟨#[]⟩, .int .i64 0, .string ⟨#[]⟩] from rfl] at hw7)
      | (refine wpList_store_row rfl 63 _ _ rfl g7 63 [.string ⟨JU.host.toArray⟩, .int .i64 JU.port, .string ⟨JU.path.toArray⟩] zeroC rfl rfl Z2.out rfl (by kernel_rfl) uri_one ?_; intro w8 hq8 ho8; have q30 := hq8.cell (j := 0) rfl; have q31 := hq8.cell (j := 1) rfl; have q32 := hq8.cell (j := 2) rfl; have Q8 := Lib.hid (Q6.out.below (by rw [hg7]; exact (N2.out.stored ho8 hq8 rfl).below) Q6.out.lt); have B8 := Lib.hid (below_step B6.out (by rw [hg7]; exact (N2.out.stored ho8 hq8 rfl).below)); have q10 := Q8.out.cell (j := 0) rfl; have q11 := Q8.out.cell (j := 1) rfl; have q12 := Q8.out.cell (j := 2) rfl))
    go_ret
    exact ⟨rfl, B8.out⟩
end Go.Proofs.YtaddefjkjlkjnaaDoor
