/- The law AccessCounts, walked: it returns true. No condition but what the arguments are. -/
import Derived.Test.YtamoebdfppjbkaaAcc11
namespace Go.Proofs.Ytamoebdfppjbkaa
open Go.RowKit IH
set_option maxRecDepth 100000
set_option linter.unusedSimpArgs false

def ex28 : Reply := { conn := 0, kind := 1, moment := 1005, lines := 1, method := [71, 69, 84], uri := [104, 116, 116, 112, 58, 47, 47, 104, 47, 97], key := [104, 116, 116, 112, 58, 47, 47, 104, 47, 97, 10], status := 200, age := 5 }
theorem ex28_print : print28 [ex28] = ([49, 48, 48, 53, 32, 48, 32, 104, 105, 116, 32, 71, 69, 84, 32, 104, 116, 116, 112, 58, 47, 47, 104, 47, 97, 32, 50, 48, 48, 32, 53, 32, 49, 32, 34, 104, 116, 116, 112, 58, 47, 47, 104, 47, 97, 92, 110, 34, 10], 0) := by decide +kernel

theorem awake28_any (w : World) : Calls Try.prog 11 #[] w fun e w' => e = .returned (.bool true) ∧ Below w.heap.size w w' := by
  have hin : SliceIn (w.alloc (.cells (toldsV [ex28]).toArray 43)) (w.alloc (.cells (toldsV [ex28]).toArray 43)).heap.size 9 (some ⟨w.heap.size, 0, none⟩) 1 1 (toldsV [ex28]) :=
    (RowAt.new w 43 (toldsV [ex28])).slice rfl (Nat.le_refl _) (by simp [maxLen])
  have HP := Lib.hid (Print28_any _ _ _ _ _ hin (by decide) (by intro t ht; rw [List.mem_singleton.1 ht]; exact ⟨by decide, by decide, by decide⟩))
  rw [ex28_print] at HP
  clear hin
  go_enter Try.func11, Try.ntmps11
  go_wp2_with (go_at_call 18; refine HP.out.mono ?_; rintro e w1 ⟨rfl, hb⟩)
  go_ret
  exact ⟨rfl, below_step ((Below.refl _ _).alloc (Nat.le_refl _) _) hb⟩

theorem tally_neq (L : List Reply) (w : World) : (binOp .neq 30 (.agg (tallyOf L).toArray) (.agg (tallyOf L).toArray)).run Try.prog w = .ok (.bool false) w := by
  have u1 := Try.underlying3
  have hS : Program.underlying Try.prog 30 = some (.struct (Program.fieldsOf Try.prog 30)) := by kernel_rfl
  have hp : Program.stoodInHeld Try.prog 30 = false := by kernel_rfl
  simp only [tallyOf]
  rw [run_neq_struct, show (10000 : Nat) = 9999 + 1 from rfl, run_equalIn_agg w 9999 30 _ _ hS hp]
  simp only [Program.fieldsOf, Try.underlying30]
  go_simp
  try simp
theorem countsAll (a b : List Reply) : tallyOf (a ++ b) = [.int .i64 (countK 1 a + countK 1 b), .int .i64 (countK 2 a + countK 2 b), .int .i64 (countK 3 a + countK 3 b), .int .i64 (countK 4 a + countK 4 b), .int .i64 (countK 5 a + countK 5 b), .int .i64 (min (agesOf a + agesOf b) 1152921504606846975)] := by
  simp [tallyOf, countK_append, agesOf_append]

theorem Count_at (A : Option Addr) (n c : Nat) (L : List Reply) (w : World) (hin : SliceIn w w.heap.size 9 A n c (toldsV L)) (hs : n ≤ 1000000) (hwf : ∀ t ∈ L, (Lit.int .i64 t.kind).wf = true) :
    Calls Try.prog 12 #[.slice A n c] w fun e w' => e = .returned (.agg #[.int .i64 (countK 1 L), .int .i64 (countK 2 L), .int .i64 (countK 3 L), .int .i64 (countK 4 L), .int .i64 (countK 5 L), .int .i64 (agesOf L)]) ∧ Below w.heap.size w w' := Count_any A n c L w hin hs hwf
theorem refCount_at (A : Option Addr) (n c : Nat) (L : List Reply) (w : World) (hin : SliceIn w w.heap.size 9 A n c (toldsV L)) (hs : n ≤ 1000000) :
    Calls Try.prog 13 #[.slice A n c] w fun e w' => e = .returned (.agg #[.int .i64 (countK 1 L), .int .i64 (countK 2 L), .int .i64 (countK 3 L), .int .i64 (countK 4 L), .int .i64 (countK 5 L), .int .i64 (agesOf L)]) ∧ Below w.heap.size w w' := refCount_any A n c L w hin hs
/-- Six cells of each of two blocks from their heads on. -/
abbrev K66 (g g' : Nat) (v0 v1 v2 v3 v4 v5 u0 u1 u2 u3 u4 u5 : Value) (w : World) : Prop :=
  w.cell? ⟨g, 0, none⟩ = some v0 ∧ w.cell? ⟨g, 1, none⟩ = some v1 ∧ w.cell? ⟨g, 2, none⟩ = some v2 ∧ w.cell? ⟨g, 3, none⟩ = some v3 ∧ w.cell? ⟨g, 4, none⟩ = some v4 ∧ w.cell? ⟨g, 5, none⟩ = some v5 ∧
  w.cell? ⟨g', 0, none⟩ = some u0 ∧ w.cell? ⟨g', 1, none⟩ = some u1 ∧ w.cell? ⟨g', 2, none⟩ = some u2 ∧ w.cell? ⟨g', 3, none⟩ = some u3 ∧ w.cell? ⟨g', 4, none⟩ = some u4 ∧ w.cell? ⟨g', 5, none⟩ = some u5
section
variable {g g' : Nat} {v0 v1 v2 v3 v4 v5 u0 u1 u2 u3 u4 u5 : Value} {W W' : World}
theorem K66.keep (h : K66 g g' v0 v1 v2 v3 v4 v5 u0 u1 u2 u3 u4 u5 W) (hk : ∀ b j, b < W.heap.size → W'.cell? ⟨b, j, none⟩ = W.cell? ⟨b, j, none⟩) : K66 g g' v0 v1 v2 v3 v4 v5 u0 u1 u2 u3 u4 u5 W' := by
  have hlt : g < W.heap.size := World.block_lt_of_cell? W _ h.1
  have hlt' : g' < W.heap.size := World.block_lt_of_cell? W _ h.2.2.2.2.2.2.1
  unfold K66 at *
  rw [hk g 0 hlt, hk g 1 hlt, hk g 2 hlt, hk g 3 hlt, hk g 4 hlt, hk g 5 hlt, hk g' 0 hlt', hk g' 1 hlt', hk g' 2 hlt', hk g' 3 hlt', hk g' 4 hlt', hk g' 5 hlt']
  exact h
theorem K66.below (hb : Below W.heap.size W W') (h : K66 g g' v0 v1 v2 v3 v4 v5 u0 u1 u2 u3 u4 u5 W) : K66 g g' v0 v1 v2 v3 v4 v5 u0 u1 u2 u3 u4 u5 W' := h.keep fun b j hj => hb.cell (p := ⟨b, j, none⟩) hj
theorem K66.heap (h : K66 g g' v0 v1 v2 v3 v4 v5 u0 u1 u2 u3 u4 u5 W) (hh : W'.heap = W.heap) : K66 g g' v0 v1 v2 v3 v4 v5 u0 u1 u2 u3 u4 u5 W' := by
  have e : ∀ p, W'.cell? p = W.cell? p := fun p => by unfold World.cell?; rw [hh]
  exact h.keep fun _ _ _ => e _
end
theorem slice_keep {W W' : World} {size n c : Nat} {A : Option Addr} {xs : List Value} (h : SliceIn W W.heap.size size A n c xs) (hb : Below W.heap.size W W') : SliceIn W' W'.heap.size size A n c xs := (h.below hb).more hb.size
theorem own_lit0 (w : World) (e : TypeId) (size : Nat) : (w.alloc (.cells #[] e)).ownsRow w.heap.size e size (.slice (some ⟨w.heap.size, 0, none⟩) 0 0) 0 [] := World.ownsRow_made w #[] 0 (Nat.le_refl _) (Nat.zero_le _) (by simp)

theorem app0_own {w : World} {base : Nat} {e : TypeId} {size n : Nat} {v : Value} {xs : List Value} (h : w.ownsRow base e size v (0 + n) ([] ++ xs)) : Hid (w.ownsRow base e size v n xs) := by
  rw [Nat.zero_add, List.nil_append] at h
  exact Lib.hid h
theorem app0_below {W w5 : World} {o : Obj} {v : Value} (h : (W.alloc o).grownBy w5 v.ownBlock) (hv : v.ownBlock = some W.heap.size) : Below W.heap.size W w5 :=
  (Below.refl _ _).grown (grownBy_of_alloc h) (Nat.le_refl _) (fun g hg => by rw [hv] at hg; cases hg; exact Nat.le_refl _)

set_option maxHeartbeats 8000000 in
theorem counts_far (w : World) (A B : Option Addr) (n m c d : Nat) (conn : Int) (h : 100 < n ∨ 100 < m) (hn : n ≤ 9223372036854775807) (hm : m ≤ 9223372036854775807) :
    Calls Try.prog 4 #[.slice A n c, .slice B m d, .int .i64 conn] w fun e w' => e = .returned (.bool true) ∧ Below w.heap.size w w' := by
  by_cases h1 : 100 < n
  · clear h
    go_enter Try.func4, Try.ntmps4
    go_wp2_with fail
    refine (awake28_any _).mono ?_
    rintro e w1 ⟨rfl, hb1⟩
    go_wp2_with fail
    refine (awake28_any _).mono ?_
    rintro e w2 ⟨rfl, hb2⟩
    go_wp2
    go_ret
    exact ⟨rfl, below_step hb1 hb2⟩
  · have h2 : 100 < m := by omega
    clear h
    go_enter Try.func4, Try.ntmps4
    go_wp2_with fail
    refine (awake28_any _).mono ?_
    rintro e w1 ⟨rfl, hb1⟩
    go_wp2_with fail
    refine (awake28_any _).mono ?_
    rintro e w2 ⟨rfl, hb2⟩
    go_wp2
    go_ret
    exact ⟨rfl, below_step hb1 hb2⟩

set_option maxHeartbeats 40000000 in
theorem counts_near (w : World) (A B : Option Addr) (n m c d : Nat) (conn : Int) (La Lb : List Reply) (hA : SliceIn w w.heap.size 9 A n c (toldsV La)) (hB : SliceIn w w.heap.size 9 B m d (toldsV Lb)) (hn : n ≤ 100) (hm : m ≤ 100)
    (hwa : ∀ t ∈ La, (Lit.int .i64 t.kind).wf = true) (hwb : ∀ t ∈ Lb, (Lit.int .i64 t.kind).wf = true) :
    Calls Try.prog 4 #[.slice A n c, .slice B m d, .int .i64 conn] w fun e w' => e = .returned (.bool true) ∧ Below w.heap.size w w' := by
  have HA := Lib.hid hA; clear hA
  have HB := Lib.hid hB; clear hB
  have HWA := Lib.hid hwa; clear hwa
  have HWB := Lib.hid hwb; clear hwb
  go_enter Try.func4, Try.ntmps4
  go_wp2_with fail
  refine (awake28_any _).mono ?_
  rintro e w1 ⟨rfl, hb1⟩
  have hA1 := (HA.out.below hb1).more hb1.size
  have hB1 := (HB.out.below hb1).more hb1.size
  have HA1 := Lib.hid hA1; clear hA1
  have HB1 := Lib.hid hB1; clear hB1
  go_wp2_with fail
  refine (Count_at A n c La _ HA1.out (by omega) HWA.out).mono ?_
  rintro e w2 ⟨rfl, hb2⟩
  have hA2 := (HA1.out.below hb2).more hb2.size
  have hB2 := (HB1.out.below hb2).more hb2.size
  have HA2 := Lib.hid hA2; clear hA2
  have HB2 := Lib.hid hB2; clear hB2
  have hb12 := below_step hb1 hb2
  clear hb1 hb2 HA1 HB1
  go_wp2_with fail
  refine (Count_at B m d Lb _ HB2.out (by omega) HWB.out).mono ?_
  rintro e w3 ⟨rfl, hb3⟩
  have hA3 := (HA2.out.below hb3).more hb3.size
  have hB3 := (HB2.out.below hb3).more hb3.size
  have hb13 := below_step hb12 hb3
  clear hb12 hb3 HA2 HB2
  have HA3 := Lib.hid hA3; clear hA3
  have HB3 := Lib.hid hB3; clear hB3
  have hla : La.length = n := by have := HA3.out.1; rw [toldsV_length] at this; omega
  have hlb : Lb.length = m := by have := HB3.out.1; rw [toldsV_length] at this; omega
  have HLA := Lib.hid hla; clear hla
  have HLB := Lib.hid hlb; clear hlb
  go_upto_region 4 with fail
  obtain ⟨W, hW⟩ : ∃ W : World, W = (w3.alloc (.cells #[.int .i64 (countK 1 La), .int .i64 (countK 2 La), .int .i64 (countK 3 La), .int .i64 (countK 4 La), .int .i64 (countK 5 La), .int .i64 (agesOf La)] 30)).alloc (.cells #[.int .i64 (countK 1 Lb), .int .i64 (countK 2 Lb), .int .i64 (countK 3 Lb), .int .i64 (countK 4 Lb), .int .i64 (countK 5 Lb), .int .i64 (agesOf Lb)] 30) := ⟨_, rfl⟩
  rw [← hW]
  have hX : RowAt W w3.heap.size 30 (tallyOf La) := by rw [hW]; exact (RowAt.new w3 _ (tallyOf La)).alloc _
  have hY : RowAt W (w3.heap.size + 1) 30 (tallyOf Lb) := by rw [hW]; exact RowAt.new_at _ _ (tallyOf Lb) _ (by simp)
  have hbW : Below w.heap.size w W := by rw [hW]; exact below_al (below_al hb13 _) _
  have hWA : SliceIn W w3.heap.size 9 A n c (toldsV La) := by rw [hW]; exact (HA3.out.alloc (Nat.le_refl _) _).alloc (by simp) _
  have hWB : SliceIn W w3.heap.size 9 B m d (toldsV Lb) := by rw [hW]; exact (HB3.out.alloc (Nat.le_refl _) _).alloc (by simp) _
  have hsz : w3.heap.size + 2 = W.heap.size := by rw [hW]; simp
  have hwsz := hbW.size
  clear hW hb13
  have HX := Lib.hid hX; clear hX
  have HY := Lib.hid hY; clear hY
  have HWA2 := Lib.hid hWA; clear hWA
  have HWB2 := Lib.hid hWB; clear hWB
  have HSZ := Lib.hid hsz; clear hsz
  have hB0 : w3.heap.size ≤ W.heap.size := by have := HSZ.out; omega
  have tok : True := trivial
  go_wp2_with (first
    | (at_builtin; have _t := tok; refine wpList_appS told_ty rfl _ _ rfl W.heap.size _ 0 [] rfl (own_lit0 W _ _) w3.heap.size A n c (toldsV La) rfl (HWA2.out.alloc hB0 _) (toldsV_one La) (by omega) (by simp only [maxLen]; omega) (by simp) ?_; intro v1 w5 hown1 hgr1; clear tok _t; have Hown1 := app0_own hown1; have hg5 := app0_below hgr1 rfl; clear hown1 hgr1; have tok2 : True := trivial)
    | (at_builtin; have _t := tok2; refine wpList_appS told_ty rfl _ _ rfl W.heap.size v1 n (toldsV La) rfl Hown1.out w3.heap.size B m d (toldsV Lb) rfl ((HWB2.out.keep (fun p hp => hg5.cell (by omega)))) (toldsV_one Lb) (by omega) (by simp only [maxLen]; omega) hg5.size ?_; intro v2 w6 hown2 hgr2; clear tok2 _t; obtain ⟨A2, c2, rfl, hin2⟩ := own_slice hown2))
  have hg6 : Below W.heap.size W w6 := hg5.grown hgr2 hg5.size (fun g hg => (Hown1.out.lt g hg).1)
  have hcat : toldsV La ++ toldsV Lb = toldsV (La ++ Lb) := by unfold toldsV; rw [List.flatMap_append]
  rw [hcat] at hin2
  have Hin2 := Lib.hid hin2
  clear hin2 hown2 hgr2 hcat hg5 Hown1
  refine (Count_at A2 (n + m) c2 (La ++ Lb) _ Hin2.out (by omega) (by intro t ht; rcases List.mem_append.1 ht with h | h; exact HWA.out t h; exact HWB.out t h)).mono ?_
  rintro e w7 ⟨rfl, hb7⟩
  have hg7 : Below W.heap.size W w7 := hg6.trans (hb7.mono hg6.size)
  have hx7 := (HX.out.below hg7 (by have := HSZ.out; omega))
  have hy7 := (HY.out.below hg7 (by have := HSZ.out; omega))
  have ha7 : SliceIn w7 w7.heap.size 9 A n c (toldsV La) := (HWA2.out.keep (fun p hp => hg7.cell (by omega))).more (by have := hg7.size; omega)
  have hb8 : SliceIn w7 w7.heap.size 9 B m d (toldsV Lb) := (HWB2.out.keep (fun p hp => hg7.cell (by omega))).more (by have := hg7.size; omega)
  have hbw7 := below_step hbW hg7
  clear hb7 hg6 Hin2 HX HY HWA2 HWB2 hbW hg7
  have HX := Lib.hid hx7; clear hx7
  have HY := Lib.hid hy7; clear hy7
  have HWA2 := Lib.hid ha7; clear ha7
  have HWB2 := Lib.hid hb8; clear hb8
  go_upto_region 6 with fail
  obtain ⟨V, hV⟩ : ∃ V : World, V = w7.alloc (.cells #[.int .i64 (countK 1 (La ++ Lb)), .int .i64 (countK 2 (La ++ Lb)), .int .i64 (countK 3 (La ++ Lb)), .int .i64 (countK 4 (La ++ Lb)), .int .i64 (countK 5 (La ++ Lb)), .int .i64 (agesOf (La ++ Lb))] 30) := ⟨_, rfl⟩
  rw [← hV]
  have hX : RowAt V w3.heap.size 30 (tallyOf La) := by rw [hV]; exact HX.out.alloc _
  have hY : RowAt V (w3.heap.size + 1) 30 (tallyOf Lb) := by rw [hV]; exact HY.out.alloc _
  have hZ : RowAt V w7.heap.size 30 (tallyOf (La ++ Lb)) := by rw [hV]; exact RowAt.new w7 _ (tallyOf (La ++ Lb))
  have hbV : Below w.heap.size w V := by rw [hV]; exact below_al hbw7 _
  have hVA : SliceIn V V.heap.size 9 A n c (toldsV La) := by rw [hV]; exact (HWA2.out.alloc (Nat.le_refl _) _).more (by simp)
  have hVB : SliceIn V V.heap.size 9 B m d (toldsV Lb) := by rw [hV]; exact (HWB2.out.alloc (Nat.le_refl _) _).more (by simp)
  clear hV hbw7 HWA2 HWB2 HX HY
  obtain ⟨x0, x1, x2, x3, x4, x5⟩ := tally_cells hX
  obtain ⟨y0, y1, y2, y3, y4, y5⟩ := tally_cells hY
  have HX := Lib.hid hX; clear hX
  have HY := Lib.hid hY; clear hY
  have HZ := Lib.hid hZ; clear hZ
  have HVA := Lib.hid hVA; clear hVA
  have HVB := Lib.hid hVB; clear hVB
  have nA := tally_neq La
  have nB := tally_neq Lb
  simp only [tallyOf] at nA nB
  have tokA : True := trivial
  have tokB : True := trivial
  have hof : (ofConn conn La).length ≤ 100 := by have h1 := List.length_filter_le (fun t : Reply => t.conn == conn && !(t.kind == 5)) La; have h2 := HLA.out; unfold ofConn; omega
  have HOF := Lib.hid hof; clear hof
  go_region_held3 (K66 w3.heap.size (w3.heap.size + 1) (.int .i64 (countK 1 La)) (.int .i64 (countK 2 La)) (.int .i64 (countK 3 La)) (.int .i64 (countK 4 La)) (.int .i64 (countK 5 La)) (.int .i64 (agesOf La)) (.int .i64 (countK 1 Lb)) (.int .i64 (countK 2 Lb)) (.int .i64 (countK 3 Lb)) (.int .i64 (countK 4 Lb)) (.int .i64 (countK 5 Lb)) (.int .i64 (agesOf Lb)))
    (first | assumption | exact ⟨x0, x1, x2, x3, x4, x5, y0, y1, y2, y3, y4, y5⟩ | exact K66.below hbs (by assumption) | exact K66.below hbr (by assumption) | exact K66.below hbq (by assumption) | exact K66.below hbp (by assumption) | exact K66.heap (by assumption) (by rfl) | fail)
    (first
      | (go_at_call 13; have _t := tokA; refine (refCount_at A n c La _ (by first | exact HVA.out | exact slice_drewN HVA.out _) (by omega)).mono ?_; rintro e w8 ⟨rfl, hbp⟩; clear tokA _t)
      | (go_at_call 13; have _t := tokB; refine (refCount_at B m d Lb _ (by first | exact slice_keep HVB.out hbp | exact slice_keep (slice_drewN HVB.out _) hbp) (by omega)).mono ?_; rintro e w9 ⟨rfl, hbq⟩; clear tokB _t; have HA9 := Lib.hid (slice_keep (slice_keep (slice_drewN HVA.out _) hbp) hbq))
      | (go_at_call 15; refine (Of_any conn A n c La _ (by first | exact HA9.out | exact slice_drewN HA9.out _) (by omega)).mono ?_; rintro e w10 ⟨v3, rfl, hown3, hbr⟩; obtain ⟨A3, c3, rfl, hin3⟩ := own_slice hown3; have HA10 := Lib.hid (slice_keep HA9.out hbr); have H3 := Lib.hid hin3; clear hown3 hin3)
      | (go_at_call 16; refine (refOf_any conn A n c La _ (by first | exact HA10.out | exact slice_drewN HA10.out _) (by omega)).mono ?_; rintro e w11 ⟨v4, rfl, hown4, hbs⟩; obtain ⟨A4, c4, rfl, hin4⟩ := own_slice hown4; have H4 := Lib.hid hin4; have H3b := Lib.hid (slice_keep H3.out hbs); clear hown4 hin4)
      | (go_at_call 14; refine (Same_told (ofConn conn La) A3 A4 _ c3 c4 _ (by first | exact H3b.out | exact slice_drewN H3b.out _) (by first | exact H4.out | exact slice_drewN H4.out _) (by have := HOF.out; omega)).mono ?_; rintro e w12 ⟨rfl, q, rfl⟩))
  have e8 : Below V.heap.size V w8 := by first | exact below_step (below_drewN (Below.refl _ _) _) hbp | exact below_step ((Below.refl _ _).drew) hbp
  have e11 := below_step (below_step (below_step e8 hbq) hbr) hbs
  have hfin : Below w.heap.size w w11 := hbV.trans (e11.mono hbV.size)
  have hX11 := HX.out.below e11 HX.out.lt
  have hY11 := HY.out.below e11 HY.out.lt
  have hZ11 := HZ.out.below e11 HZ.out.lt
  rw [countsAll] at hZ11
  clear hbp hbq hbr hbs e8 e11 x0 x1 x2 x3 x4 x5 y0 y1 y2 y3 y4 y5 nA nB
  obtain ⟨x0, x1, x2, x3, x4, x5⟩ := tally_cells (hX11.drewN q)
  obtain ⟨y0, y1, y2, y3, y4, y5⟩ := tally_cells (hY11.drewN q)
  obtain ⟨z0, z1, z2, z3, z4, z5⟩ := tally_cells (hZ11.drewN q)
  have hla := HLA.out
  have hlb := HLB.out
  have p1 := countK_le 1 La
  have p2 := countK_le 2 La
  have p3 := countK_le 3 La
  have p4 := countK_le 4 La
  have p5 := countK_le 5 La
  have q1 := countK_le 1 Lb
  have q2 := countK_le 2 Lb
  have q3 := countK_le 3 Lb
  have q4 := countK_le 4 Lb
  have q5 := countK_le 5 Lb
  obtain ⟨g0, g1⟩ := agesOf_bound La
  obtain ⟨g2, g3⟩ := agesOf_bound Lb
  rw [hla] at p1 p2 p3 p4 p5
  rw [hlb] at q1 q2 q3 q4 q5
  have HFIN := Lib.hid hfin; clear hfin hX11 hY11 hZ11 hla hlb
  generalize countK 1 La = a1 at *
  generalize countK 2 La = a2 at *
  generalize countK 3 La = a3 at *
  generalize countK 4 La = a4 at *
  generalize countK 5 La = a5 at *
  generalize countK 1 Lb = b1 at *
  generalize countK 2 Lb = b2 at *
  generalize countK 3 Lb = b3 at *
  generalize countK 4 Lb = b4 at *
  generalize countK 5 Lb = b5 at *
  generalize agesOf La = ga at *
  generalize agesOf Lb = gb at *
  go_wp2
  go_ret
  exact ⟨ret_bool (by simp), below_drewN HFIN.out _⟩

theorem counts_walk (w : World) (A : Option Addr) (n c : Nat) (La : List Reply) (hA : SliceIn w w.heap.size 9 A n c (toldsV La)) (hwa : ∀ t ∈ La, (Lit.int .i64 t.kind).wf = true)
    (B : Option Addr) (m d : Nat) (Lb : List Reply) (hB : SliceIn w w.heap.size 9 B m d (toldsV Lb)) (hwb : ∀ t ∈ Lb, (Lit.int .i64 t.kind).wf = true) (conn : Int) :
    Calls Try.prog 4 #[.slice A n c, .slice B m d, .int .i64 conn] w fun e w' => e = .returned (.bool true) ∧ Below w.heap.size w w' := by
  by_cases h : 100 < n ∨ 100 < m
  · have h1 := hA.2.1
    have h2 := hA.2.2.1
    have h3 := hB.2.1
    have h4 := hB.2.2.1
    simp only [maxLen] at h2 h4
    exact counts_far w A B n m c d conn h (by omega) (by omega)
  · exact counts_near w A B n m c d conn La Lb hA hB (by omega) (by omega) hwa hwb
end Go.Proofs.Ytamoebdfppjbkaa
