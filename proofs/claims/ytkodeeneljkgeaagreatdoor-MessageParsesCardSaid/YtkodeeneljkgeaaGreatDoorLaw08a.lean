/- Layer 8's laws: MessageParses, walked. Condition: the world's shape. Printed by mklaw08a.py. -/
import Derived.Test.YtkodeeneljkgeaaGreatDoorTe
import Derived.Test.YtkodeeneljkgeaaGreatDoorKt
namespace Go.Proofs.YtkodeeneljkgeaaGreatDoor
open Go.RowKit IH
set_option maxRecDepth 100000
theorem ret_bool8 {b : Bool} (h : b = true) : Ending.returned (.bool b) = Ending.returned (.bool true) := by rw [h]
def RightC (C : List Value) : Prop := C.length = 7 ∧ ∀ v ∈ C, v.oneCell' = true
theorem msgC_right (s : Sta) (A A' : Option Addr) (n c n' c' : Nat) : RightC (msgC s (.slice A n c) (.slice A' n' c')) := ⟨rfl, msgC_one _ _ _ _ _ _ _⟩
def IsMsg (T : Told8) (C : List Value) (W : World) : Prop := ∃ A n c A2 n2 c2, C = msgC T.start (.slice A n c) (.slice A2 n2 c2) ∧ SliceIn W W.heap.size 2 A n c (fldsV T.fields) ∧ SliceIn W W.heap.size 1 A2 n2 c2 (bytesV T.body)
theorem isMsg_below (T : Told8) (C : List Value) (W W' : World) (h : IsMsg T C W) (hb : Below W.heap.size W W') : IsMsg T C W' := by
  obtain ⟨A, n, c, A2, n2, c2, h1, h2, h3⟩ := h
  exact ⟨A, n, c, A2, n2, c2, h1, (h2.below hb).more hb.size, (h3.below hb).more hb.size⟩
theorem isMsg_right (T : Told8) (C : List Value) (W : World) (h : IsMsg T C W) : RightC C := by
  obtain ⟨A, n, c, A2, n2, c2, rfl, -, -⟩ := h
  exact msgC_right _ _ _ _ _ _ _
theorem headT_few (method : List UInt8) (s : Sta) (k : Nat) (r : List UInt8) : (headT method s k r).fields.length ≤ 128 := by
  unfold headT
  split
  · simp [Told8.none]
  · split
    · simp [Told8.none]
    · split
      · simp [Told8.none]
      · unfold bodyT
        split
        · split
          · simp [Told8.none]
          · exact parse_len _
        · exact parse_len _
theorem told_few (asks : Bool) (method b : List UInt8) : (toldM asks method b).fields.length ≤ 128 := by
  unfold toldM
  split
  · simp [Told8.none]
  · split
    · simp [Told8.none]
    · exact headT_few _ _ _ _
theorem isMsg_same (T : Told8) (hT : T.fields.length ≤ 128) (C D : List Value) (W : World) (h : IsMsg T C W) (h' : IsMsg T D W) : Calls Tryz.prog 25 #[.agg C.toArray, .agg D.toArray] W fun e w' => e = .returned (.bool true) ∧ Below W.heap.size W w' := by
  obtain ⟨A, n, c, A2, n2, c2, rfl, h2, h3⟩ := h
  obtain ⟨A4, n4, c4, A5, n5, c5, rfl, h5, h6⟩ := h'
  exact rsame8_any T.start T.fields T.body A A2 A4 A5 n n2 n4 n5 c c2 c4 c5 W h2 h3 h5 h6 (by have := fld_count h2; omega)
theorem zero_same (W : World) : Calls Tryz.prog 25 #[.agg zeroM.toArray, .agg zeroM.toArray] W fun e w' => e = .returned (.bool true) ∧ Below W.heap.size W w' :=
  isMsg_same (Told8.none 0 0) (by simp [Told8.none]) zeroM zeroM W ⟨none, 0, 0, none, 0, 0, rfl, SliceIn.none_ (Nat.zero_le _), SliceIn.none_ (Nat.zero_le _)⟩ ⟨none, 0, 0, none, 0, 0, rfl, SliceIn.none_ (Nat.zero_le _), SliceIn.none_ (Nat.zero_le _)⟩
set_option maxHeartbeats 8000000 in
theorem mp_far (A : Option Addr) (n c : Nat) (asks : Bool) (M : ByteArray) (w : World) (hsh : w.ShapedOpen Tryz.prog) (h : 9000 < n ∨ 100 < M.size) :
    Calls Tryz.prog 5 #[.slice A n c, .bool asks, .string M] w fun e w' => e = .returned (.bool true) ∧ Below w.heap.size w w' := by
  have AW := Lib.hid (fun W (hW : Below w.heap.size w W) => awake08_any W (shaped_below hsh hW))
  clear hsh
  have B0 := Lib.hid (Below.refl w.heap.size w)
  have tokA : Hid True := Lib.hid trivial
  by_cases hn : 9000 < n
  · have hI : (9000 : Int) < (n : Int) := by omega
    clear h
    go_enter Tryz.func5, Tryz.ntmps5
    go_wp2_with (first
      | (have _t := tokA; go_at_call 22; (with_reducible refine (AW.out _ B0.out).mono ?_); rintro e w1 ⟨rfl, hb1⟩; have B1 := Lib.hid (below_step B0.out hb1); clear hb1 tokA _t)
      | (go_at_call 22; (with_reducible refine (AW.out _ B1.out).mono ?_); rintro e w2 ⟨rfl, hb2⟩; have B2 := Lib.hid (below_step B1.out hb2); clear hb2))
    go_ret
    exact ⟨rfl, B2.out⟩
  · have hI : (n : Int) ≤ 9000 := by omega
    have hM : 100 < M.size := by omega
    have hJ : (100 : Int) < (M.size : Int) := by omega
    clear h
    go_enter Tryz.func5, Tryz.ntmps5
    go_wp2_with (first
      | (have _t := tokA; go_at_call 22; (with_reducible refine (AW.out _ B0.out).mono ?_); rintro e w1 ⟨rfl, hb1⟩; have B1 := Lib.hid (below_step B0.out hb1); clear hb1 tokA _t)
      | (go_at_call 22; (with_reducible refine (AW.out _ B1.out).mono ?_); rintro e w2 ⟨rfl, hb2⟩; have B2 := Lib.hid (below_step B1.out hb2); clear hb2))
    go_ret
    exact ⟨rfl, B2.out⟩
set_option maxHeartbeats 32000000 in
theorem mp_1 (A : Option Addr) (n c : Nat) (L : List UInt8) (asks framed done : Bool) (M : ByteArray) (te tn : Int) (G H : List Value → World → Prop) (w : World) (hin : SliceIn w w.heap.size 1 A n c (bytesV L)) (h : n ≤ 9000) (hM : M.size ≤ 100) (hte : te ≠ 0)
    (AW : ∀ W, Below w.heap.size w W → Calls Tryz.prog 22 #[] W fun e w' => e = .returned (.bool true) ∧ Below W.heap.size W w')
    (UN : ∀ W g cap, Below w.heap.size w W → g < W.heap.size → SliceIn W W.heap.size 1 (some ⟨g, 0, none⟩) n cap (bytesV L) → Calls Tryz.prog 23 #[.slice (some ⟨g, 0, none⟩) n cap, .bool asks, .string M] W fun e w' => ∃ D, e = .returned (.tuple #[.agg D.toArray, .int .i64 0, .int .i64 te]) ∧ G D w' ∧ Below W.heap.size W w')
    (RU : ∀ W, Below w.heap.size w W → Calls Tryz.prog 24 #[.slice A n c, .bool asks, .string M] W fun e w' => ∃ D, e = .returned (.tuple #[.agg D.toArray, .bool framed, .int .i64 tn, .bool done, .int .i64 te]) ∧ H D w' ∧ Below W.heap.size W w')
    (GB : ∀ D W W', G D W → Below W.heap.size W W' → G D W') (HB : ∀ D W W', H D W → Below W.heap.size W W' → H D W')
    (GC : ∀ D W, G D W → RightC D) (HC : ∀ D W, H D W → RightC D)
    (SM : ∀ W C D, G C W → D = zeroM → Calls Tryz.prog 25 #[.agg C.toArray, .agg D.toArray] W fun e w' => e = .returned (.bool true) ∧ Below W.heap.size W w') :
    Calls Tryz.prog 5 #[.slice A n c, .bool asks, .string M] w fun e w' => e = .returned (.bool true) ∧ Below w.heap.size w w' := by
  have hI : (n : Int) ≤ 9000 := by omega
  have hJ : (M.size : Int) ≤ 100 := by omega
  have GI : Hid (∀ D : List Value, RightC D → (Tryz.prog.info? 43).map (·.size) = some D.length) := Lib.hid (fun D h => by rw [h.1]; kernel_rfl)
  have e1 : (te == te) = true := beq_self_eq_true _
  have e2 : (te != 0) = true := by rw [bne_iff_ne]; exact hte
  clear hte
  have Hin := Lib.hid hin
  replace AW := Lib.hid AW
  replace UN := Lib.hid UN
  replace RU := Lib.hid RU
  replace SM := Lib.hid SM
  replace GB := Lib.hid GB
  replace HB := Lib.hid HB
  replace GC := Lib.hid GC
  replace HC := Lib.hid HC
  have B0 := Lib.hid (Below.refl w.heap.size w)
  clear hin
  go_enter Tryz.func5, Tryz.ntmps5
  go_wp2_with (first
    | (go_at_call 22; (with_reducible refine (AW.out _ B0.out).mono ?_); rintro e w1 ⟨rfl, hb1⟩; have B1 := Lib.hid (below_step B0.out hb1); have Hown := Lib.hid (World.ownsRow_lit (base := w1.heap.size) (e := 5) (size := 1) w1 #[] 0 (Nat.le_refl _) (by simp [maxLen]) rfl); have Hin2 := Lib.hid (((Hin.out.below B1.out).more B1.out.size).alloc (Nat.le_refl _) (.cells #[] 5)); clear hb1)
    | (at_builtin; refine wpList_appN u8_ty rfl _ _ rfl w1.heap.size _ 0 [] rfl Hown.out (by intro h; cases h) w1.heap.size A n c (bytesV L) rfl Hin2.out (bytesV_one L) (by omega) (by simp only [maxLen]; omega) (by simp) ?_; intro g cap w3 hown' hgr; rw [Nat.zero_add, List.nil_append] at hown'; simp only [Nat.zero_add]; have B3 := Lib.hid (below_step B1.out (((Below.refl w1.heap.size w1).alloc (Nat.le_refl _) (.cells #[] 5)).grown hgr (by simp) (fun q hq => (Hown.out.lt q hq).1))); have U3 := Lib.hid (UN.out w3 g cap B3.out (hown'.lt g rfl).2 (SliceIn.of_own hown')); clear hown' hgr)
    | (go_at_call 23; (with_reducible refine U3.out.mono ?_); rintro e' w4 ⟨D, rfl, hg4, hb4⟩; have B4 := Lib.hid (below_step B3.out hb4); have G4 := Lib.hid hg4; have D4 := Lib.hid (GC.out _ _ hg4); have tokA : Hid True := Lib.hid trivial; clear hb4 hg4)
    | (have _t := tokA; refine wpList_store_row rfl 43 _ _ rfl w4.heap.size _ D zeroM rfl rfl (RowAt.new w4 43 _) (by rw [D4.out.1]; rfl) (GI.out _ D4.out) D4.out.2 ?_; intro w5 hro hoo
       have hb5 := hoo.below ((Below.refl w4.heap.size w4).alloc (Nat.le_refl _) _) (Nat.le_refl _)
       have B5 := Lib.hid (below_step B4.out hb5)
       have G5 := Lib.hid (GB.out _ _ _ G4.out hb5)
       have RX := Lib.hid hro
       clear hro hoo hb5 tokA _t G4)
    | (go_at_call 24; (with_reducible refine (RU.out w5 B5.out).mono ?_); rintro e' w6 ⟨C, rfl, hg6, hb6⟩; have B6 := Lib.hid (below_step B5.out hb6); have G6 := Lib.hid (GB.out _ _ _ G5.out hb6); have H6 := Lib.hid hg6; have C6 := Lib.hid (HC.out _ _ hg6); have RY := Lib.hid (RX.out.below hb6 RX.out.lt); have tokB : Hid True := Lib.hid trivial; clear hb6 hg6 G5 RX)
    | (have _t := tokB; refine wpList_store_row rfl 43 _ _ rfl w6.heap.size _ C zeroM rfl rfl (RowAt.new w6 43 _) (by rw [C6.out.1]; rfl) (GI.out _ C6.out) C6.out.2 ?_; intro w7 hro hoo
       have hb7 := hoo.below ((Below.refl w6.heap.size w6).alloc (Nat.le_refl _) _) (Nat.le_refl _)
       have B7 := Lib.hid (below_step B6.out hb7)
       have RZ := Lib.hid (RY.out.below hb7 RY.out.lt)
       have RC := Lib.hid hro
       have G7 := Lib.hid (GB.out _ _ _ G6.out hb7)
       have H7 := Lib.hid (HB.out _ _ _ H6.out hb7)
       clear hro hoo hb7 tokB _t G6 H6 RY)
    | (refine wpList_load_g (by first | exact wanted_un rfl | exact wanted_yes rfl rfl rfl rfl | exact (wanted_is rfl rfl rfl rfl).trans (by simp; omega)) 43 _ rfl w4.heap.size 0 rfl D _ (rangeOf RZ.out) Tryz.underlying43 rfl (GI.out _ D4.out) ?_)
    | (go_at_call 25; rw [show (.agg #[.string ⟨#[]⟩, .string ⟨#[]⟩, .int .i64 0, .string ⟨#[]⟩, .int .i64 0, .slice none 0 0, .slice none 0 0] : Value) = .agg zeroM.toArray from rfl]; (with_reducible refine (SM.out _ _ _ G7.out rfl).mono ?_); rintro e wp ⟨rfl, hb⟩; have B8 := Lib.hid (below_step B7.out hb); clear hb))
  go_ret
  exact ⟨ret_bool8 (by simp), B8.out⟩
set_option maxHeartbeats 32000000 in
theorem mp_2 (A : Option Addr) (n c : Nat) (L : List UInt8) (asks framed : Bool) (M : ByteArray) (tn : Int) (G H : List Value → World → Prop) (w : World) (hin : SliceIn w w.heap.size 1 A n c (bytesV L)) (h : n ≤ 9000) (hM : M.size ≤ 100)
    (AW : ∀ W, Below w.heap.size w W → Calls Tryz.prog 22 #[] W fun e w' => e = .returned (.bool true) ∧ Below W.heap.size W w')
    (UN : ∀ W g cap, Below w.heap.size w W → g < W.heap.size → SliceIn W W.heap.size 1 (some ⟨g, 0, none⟩) n cap (bytesV L) → Calls Tryz.prog 23 #[.slice (some ⟨g, 0, none⟩) n cap, .bool asks, .string M] W fun e w' => ∃ D, e = .returned (.tuple #[.agg D.toArray, .int .i64 0, .int .i64 11]) ∧ G D w' ∧ Below W.heap.size W w')
    (RU : ∀ W, Below w.heap.size w W → Calls Tryz.prog 24 #[.slice A n c, .bool asks, .string M] W fun e w' => ∃ D, e = .returned (.tuple #[.agg D.toArray, .bool framed, .int .i64 tn, .bool false, .int .i64 0]) ∧ H D w' ∧ Below W.heap.size W w')
    (GB : ∀ D W W', G D W → Below W.heap.size W W' → G D W') (HB : ∀ D W W', H D W → Below W.heap.size W W' → H D W')
    (GC : ∀ D W, G D W → RightC D) (HC : ∀ D W, H D W → RightC D)
    (SM : ∀ W C D, G C W → D = zeroM → Calls Tryz.prog 25 #[.agg C.toArray, .agg D.toArray] W fun e w' => e = .returned (.bool true) ∧ Below W.heap.size W w') :
    Calls Tryz.prog 5 #[.slice A n c, .bool asks, .string M] w fun e w' => e = .returned (.bool true) ∧ Below w.heap.size w w' := by
  have hI : (n : Int) ≤ 9000 := by omega
  have hJ : (M.size : Int) ≤ 100 := by omega
  have GI : Hid (∀ D : List Value, RightC D → (Tryz.prog.info? 43).map (·.size) = some D.length) := Lib.hid (fun D h => by rw [h.1]; kernel_rfl)
  have Hin := Lib.hid hin
  replace AW := Lib.hid AW
  replace UN := Lib.hid UN
  replace RU := Lib.hid RU
  replace SM := Lib.hid SM
  replace GB := Lib.hid GB
  replace HB := Lib.hid HB
  replace GC := Lib.hid GC
  replace HC := Lib.hid HC
  have B0 := Lib.hid (Below.refl w.heap.size w)
  clear hin
  go_enter Tryz.func5, Tryz.ntmps5
  go_wp2_with (first
    | (go_at_call 22; (with_reducible refine (AW.out _ B0.out).mono ?_); rintro e w1 ⟨rfl, hb1⟩; have B1 := Lib.hid (below_step B0.out hb1); have Hown := Lib.hid (World.ownsRow_lit (base := w1.heap.size) (e := 5) (size := 1) w1 #[] 0 (Nat.le_refl _) (by simp [maxLen]) rfl); have Hin2 := Lib.hid (((Hin.out.below B1.out).more B1.out.size).alloc (Nat.le_refl _) (.cells #[] 5)); clear hb1)
    | (at_builtin; refine wpList_appN u8_ty rfl _ _ rfl w1.heap.size _ 0 [] rfl Hown.out (by intro h; cases h) w1.heap.size A n c (bytesV L) rfl Hin2.out (bytesV_one L) (by omega) (by simp only [maxLen]; omega) (by simp) ?_; intro g cap w3 hown' hgr; rw [Nat.zero_add, List.nil_append] at hown'; simp only [Nat.zero_add]; have B3 := Lib.hid (below_step B1.out (((Below.refl w1.heap.size w1).alloc (Nat.le_refl _) (.cells #[] 5)).grown hgr (by simp) (fun q hq => (Hown.out.lt q hq).1))); have U3 := Lib.hid (UN.out w3 g cap B3.out (hown'.lt g rfl).2 (SliceIn.of_own hown')); clear hown' hgr)
    | (go_at_call 23; (with_reducible refine U3.out.mono ?_); rintro e' w4 ⟨D, rfl, hg4, hb4⟩; have B4 := Lib.hid (below_step B3.out hb4); have G4 := Lib.hid hg4; have D4 := Lib.hid (GC.out _ _ hg4); have tokA : Hid True := Lib.hid trivial; clear hb4 hg4)
    | (have _t := tokA; refine wpList_store_row rfl 43 _ _ rfl w4.heap.size _ D zeroM rfl rfl (RowAt.new w4 43 _) (by rw [D4.out.1]; rfl) (GI.out _ D4.out) D4.out.2 ?_; intro w5 hro hoo
       have hb5 := hoo.below ((Below.refl w4.heap.size w4).alloc (Nat.le_refl _) _) (Nat.le_refl _)
       have B5 := Lib.hid (below_step B4.out hb5)
       have G5 := Lib.hid (GB.out _ _ _ G4.out hb5)
       have RX := Lib.hid hro
       clear hro hoo hb5 tokA _t G4)
    | (go_at_call 24; (with_reducible refine (RU.out w5 B5.out).mono ?_); rintro e' w6 ⟨C, rfl, hg6, hb6⟩; have B6 := Lib.hid (below_step B5.out hb6); have G6 := Lib.hid (GB.out _ _ _ G5.out hb6); have H6 := Lib.hid hg6; have C6 := Lib.hid (HC.out _ _ hg6); have RY := Lib.hid (RX.out.below hb6 RX.out.lt); have tokB : Hid True := Lib.hid trivial; clear hb6 hg6 G5 RX)
    | (have _t := tokB; refine wpList_store_row rfl 43 _ _ rfl w6.heap.size _ C zeroM rfl rfl (RowAt.new w6 43 _) (by rw [C6.out.1]; rfl) (GI.out _ C6.out) C6.out.2 ?_; intro w7 hro hoo
       have hb7 := hoo.below ((Below.refl w6.heap.size w6).alloc (Nat.le_refl _) _) (Nat.le_refl _)
       have B7 := Lib.hid (below_step B6.out hb7)
       have RZ := Lib.hid (RY.out.below hb7 RY.out.lt)
       have RC := Lib.hid hro
       have G7 := Lib.hid (GB.out _ _ _ G6.out hb7)
       have H7 := Lib.hid (HB.out _ _ _ H6.out hb7)
       clear hro hoo hb7 tokB _t G6 H6 RY)
    | (refine wpList_load_g (by first | exact wanted_un rfl | exact wanted_yes rfl rfl rfl rfl | exact (wanted_is rfl rfl rfl rfl).trans (by simp; omega)) 43 _ rfl w4.heap.size 0 rfl D _ (rangeOf RZ.out) Tryz.underlying43 rfl (GI.out _ D4.out) ?_)
    | (go_at_call 25; rw [show (.agg #[.string ⟨#[]⟩, .string ⟨#[]⟩, .int .i64 0, .string ⟨#[]⟩, .int .i64 0, .slice none 0 0, .slice none 0 0] : Value) = .agg zeroM.toArray from rfl]; (with_reducible refine (SM.out _ _ _ G7.out rfl).mono ?_); rintro e wp ⟨rfl, hb⟩; have B8 := Lib.hid (below_step B7.out hb); clear hb))
  go_ret
  exact ⟨ret_bool8 (by simp), B8.out⟩
set_option maxHeartbeats 32000000 in
theorem mp_3 (A : Option Addr) (n c : Nat) (L : List UInt8) (asks framed : Bool) (M : ByteArray) (tn : Int) (G H : List Value → World → Prop) (w : World) (hin : SliceIn w w.heap.size 1 A n c (bytesV L)) (h : n ≤ 9000) (hM : M.size ≤ 100)
    (AW : ∀ W, Below w.heap.size w W → Calls Tryz.prog 22 #[] W fun e w' => e = .returned (.bool true) ∧ Below W.heap.size W w')
    (UN : ∀ W g cap, Below w.heap.size w W → g < W.heap.size → SliceIn W W.heap.size 1 (some ⟨g, 0, none⟩) n cap (bytesV L) → Calls Tryz.prog 23 #[.slice (some ⟨g, 0, none⟩) n cap, .bool asks, .string M] W fun e w' => ∃ D, e = .returned (.tuple #[.agg D.toArray, .int .i64 tn, .int .i64 0]) ∧ G D w' ∧ Below W.heap.size W w')
    (RU : ∀ W, Below w.heap.size w W → Calls Tryz.prog 24 #[.slice A n c, .bool asks, .string M] W fun e w' => ∃ D, e = .returned (.tuple #[.agg D.toArray, .bool framed, .int .i64 tn, .bool true, .int .i64 0]) ∧ H D w' ∧ Below W.heap.size W w')
    (GB : ∀ D W W', G D W → Below W.heap.size W W' → G D W') (HB : ∀ D W W', H D W → Below W.heap.size W W' → H D W')
    (GC : ∀ D W, G D W → RightC D) (HC : ∀ D W, H D W → RightC D)
    (SM : ∀ W C D, G C W → H D W → Calls Tryz.prog 25 #[.agg C.toArray, .agg D.toArray] W fun e w' => e = .returned (.bool true) ∧ Below W.heap.size W w') :
    Calls Tryz.prog 5 #[.slice A n c, .bool asks, .string M] w fun e w' => e = .returned (.bool true) ∧ Below w.heap.size w w' := by
  have hI : (n : Int) ≤ 9000 := by omega
  have hJ : (M.size : Int) ≤ 100 := by omega
  have GI : Hid (∀ D : List Value, RightC D → (Tryz.prog.info? 43).map (·.size) = some D.length) := Lib.hid (fun D h => by rw [h.1]; kernel_rfl)
  have e1 : (tn == tn) = true := beq_self_eq_true _
  have Hin := Lib.hid hin
  replace AW := Lib.hid AW
  replace UN := Lib.hid UN
  replace RU := Lib.hid RU
  replace SM := Lib.hid SM
  replace GB := Lib.hid GB
  replace HB := Lib.hid HB
  replace GC := Lib.hid GC
  replace HC := Lib.hid HC
  have B0 := Lib.hid (Below.refl w.heap.size w)
  clear hin
  go_enter Tryz.func5, Tryz.ntmps5
  go_wp2_with (first
    | (go_at_call 22; (with_reducible refine (AW.out _ B0.out).mono ?_); rintro e w1 ⟨rfl, hb1⟩; have B1 := Lib.hid (below_step B0.out hb1); have Hown := Lib.hid (World.ownsRow_lit (base := w1.heap.size) (e := 5) (size := 1) w1 #[] 0 (Nat.le_refl _) (by simp [maxLen]) rfl); have Hin2 := Lib.hid (((Hin.out.below B1.out).more B1.out.size).alloc (Nat.le_refl _) (.cells #[] 5)); clear hb1)
    | (at_builtin; refine wpList_appN u8_ty rfl _ _ rfl w1.heap.size _ 0 [] rfl Hown.out (by intro h; cases h) w1.heap.size A n c (bytesV L) rfl Hin2.out (bytesV_one L) (by omega) (by simp only [maxLen]; omega) (by simp) ?_; intro g cap w3 hown' hgr; rw [Nat.zero_add, List.nil_append] at hown'; simp only [Nat.zero_add]; have B3 := Lib.hid (below_step B1.out (((Below.refl w1.heap.size w1).alloc (Nat.le_refl _) (.cells #[] 5)).grown hgr (by simp) (fun q hq => (Hown.out.lt q hq).1))); have U3 := Lib.hid (UN.out w3 g cap B3.out (hown'.lt g rfl).2 (SliceIn.of_own hown')); clear hown' hgr)
    | (go_at_call 23; (with_reducible refine U3.out.mono ?_); rintro e' w4 ⟨D, rfl, hg4, hb4⟩; have B4 := Lib.hid (below_step B3.out hb4); have G4 := Lib.hid hg4; have D4 := Lib.hid (GC.out _ _ hg4); have tokA : Hid True := Lib.hid trivial; clear hb4 hg4)
    | (have _t := tokA; refine wpList_store_row rfl 43 _ _ rfl w4.heap.size _ D zeroM rfl rfl (RowAt.new w4 43 _) (by rw [D4.out.1]; rfl) (GI.out _ D4.out) D4.out.2 ?_; intro w5 hro hoo
       have hb5 := hoo.below ((Below.refl w4.heap.size w4).alloc (Nat.le_refl _) _) (Nat.le_refl _)
       have B5 := Lib.hid (below_step B4.out hb5)
       have G5 := Lib.hid (GB.out _ _ _ G4.out hb5)
       have RX := Lib.hid hro
       clear hro hoo hb5 tokA _t G4)
    | (go_at_call 24; (with_reducible refine (RU.out w5 B5.out).mono ?_); rintro e' w6 ⟨C, rfl, hg6, hb6⟩; have B6 := Lib.hid (below_step B5.out hb6); have G6 := Lib.hid (GB.out _ _ _ G5.out hb6); have H6 := Lib.hid hg6; have C6 := Lib.hid (HC.out _ _ hg6); have RY := Lib.hid (RX.out.below hb6 RX.out.lt); have tokB : Hid True := Lib.hid trivial; clear hb6 hg6 G5 RX)
    | (have _t := tokB; refine wpList_store_row rfl 43 _ _ rfl w6.heap.size _ C zeroM rfl rfl (RowAt.new w6 43 _) (by rw [C6.out.1]; rfl) (GI.out _ C6.out) C6.out.2 ?_; intro w7 hro hoo
       have hb7 := hoo.below ((Below.refl w6.heap.size w6).alloc (Nat.le_refl _) _) (Nat.le_refl _)
       have B7 := Lib.hid (below_step B6.out hb7)
       have RZ := Lib.hid (RY.out.below hb7 RY.out.lt)
       have RC := Lib.hid hro
       have G7 := Lib.hid (GB.out _ _ _ G6.out hb7)
       have H7 := Lib.hid (HB.out _ _ _ H6.out hb7)
       clear hro hoo hb7 tokB _t G6 H6 RY)
    | (refine wpList_load_g (by first | exact wanted_un rfl | exact wanted_yes rfl rfl rfl rfl | exact (wanted_is rfl rfl rfl rfl).trans (by simp; omega)) 43 _ rfl w4.heap.size 0 rfl D _ (rangeOf RZ.out) Tryz.underlying43 rfl (GI.out _ D4.out) ?_)
    | (refine wpList_load_g (by first | exact wanted_un rfl | exact wanted_yes rfl rfl rfl rfl | exact (wanted_is rfl rfl rfl rfl).trans (by simp; omega)) 43 _ rfl w6.heap.size 0 rfl C _ (rangeOf RC.out) Tryz.underlying43 rfl (GI.out _ C6.out) ?_)
    | (go_at_call 25; (with_reducible refine (SM.out _ _ _ G7.out H7.out).mono ?_); rintro e wp ⟨rfl, hb⟩; have B8 := Lib.hid (below_step B7.out hb); clear hb))
  go_ret
  exact ⟨ret_bool8 (by simp), B8.out⟩
theorem mparses_walk (w : World) (hsh : w.ShapedOpen Tryz.prog) (A : Option Addr) (n c : Nat) (L : List UInt8) (hin : SliceIn w w.heap.size 1 A n c (bytesV L)) (asks : Bool) (M : ByteArray) (_ : M.size ≤ maxLen) :
    Calls Tryz.prog 5 #[.slice A n c, .bool asks, .string M] w fun e w' => e = .returned (.bool true) ∧ Below w.heap.size w w' := by
  by_cases h : 9000 < n ∨ 100 < M.size
  · exact mp_far A n c asks M w hsh h
  · have hn : n ≤ 9000 := by omega
    have hM : M.size ≤ 100 := by omega
    have AW : ∀ W, Below w.heap.size w W → Calls Tryz.prog 22 #[] W fun e w' => e = .returned (.bool true) ∧ Below W.heap.size W w' := fun W hW => awake08_any W (shaped_below hsh hW)
    have UN := fun (W : World) (g cap : Nat) (hW : Below w.heap.size w W) (hg : g < W.heap.size) (hs : SliceIn W W.heap.size 1 (some ⟨g, 0, none⟩) n cap (bytesV L)) => mparseT_any asks M g 0 n cap L W (shaped_below hsh hW) hg (by omega) hs (by omega)
    have RU := fun (W : World) (hW : Below w.heap.size w W) => rtold8_any asks M A n c L W ((hin.below hW).more hW.size) (by omega)
    have hfew := told_few asks M.data.toList L
    obtain ⟨T, hT⟩ : ∃ T, toldM asks M.data.toList L = T := ⟨_, rfl⟩
    rw [hT] at hfew
    simp only [hT] at UN RU
    have RU2 : ∀ W, Below w.heap.size w W → Calls Tryz.prog 24 #[.slice A n c, .bool asks, .string M] W fun e w' => ∃ D, e = .returned (.tuple #[.agg D.toArray, .bool T.framed, .int .i64 T.n, .bool T.over, .int .i64 T.e]) ∧ IsMsg T D w' ∧ Below W.heap.size W w' := fun W hW => (RU W hW).mono (fun e w' h => by
      obtain ⟨vF, vB, rfl, h1, h2, h3⟩ := h
      obtain ⟨A1, c1, rfl, s1⟩ := own_slice h1
      obtain ⟨A2, c2, rfl, s2⟩ := own_slice h2
      exact ⟨_, rfl, ⟨_, _, _, _, _, _, rfl, s1, s2⟩, h3⟩)
    by_cases he : T.e = 0
    · cases ho : T.over with
      | false =>
        refine mp_2 A n c L asks T.framed M T.n (fun D _ => D = zeroM) (IsMsg T) w hin hn hM AW ?_ ?_ (fun _ _ _ h _ => h) (isMsg_below T) (fun D W h => by rw [h]; exact msgC_right Sta.zero none none 0 0 0 0) (isMsg_right T) ?_
        · intro W g cap hW hg hs
          refine (UN W g cap hW hg hs).mono ?_
          rintro e w' ⟨h, hb⟩
          rcases h with ⟨h0, -⟩ | ⟨-, -, rfl⟩ | ⟨-, h0, -⟩
          · exact absurd he h0
          · exact ⟨zeroM, rfl, rfl, hb⟩
          · rw [ho] at h0; cases h0
        · intro W hW
          have h := RU2 W hW
          rw [he, ho] at h
          exact h
        · rintro W C D rfl rfl
          exact zero_same W
      | true =>
        refine mp_3 A n c L asks T.framed M T.n (IsMsg T) (IsMsg T) w hin hn hM AW ?_ ?_ (isMsg_below T) (isMsg_below T) (isMsg_right T) (isMsg_right T) (fun W C D h1 h2 => isMsg_same T hfew C D W h1 h2)
        · intro W g cap hW hg hs
          refine (UN W g cap hW hg hs).mono ?_
          rintro e w' ⟨h, hb⟩
          rcases h with ⟨h0, -⟩ | ⟨-, h0, -⟩ | ⟨-, -, A1, n1, c1, A2, n2, c2, rfl, h1, h2⟩
          · exact absurd he h0
          · rw [ho] at h0; cases h0
          · exact ⟨_, rfl, ⟨_, _, _, _, _, _, rfl, SliceIn.of_own h1, SliceIn.of_own h2⟩, hb⟩
        · intro W hW
          have h := RU2 W hW
          rw [he, ho] at h
          exact h
    · refine mp_1 A n c L asks T.framed T.over M T.e T.n (fun D _ => D = zeroM) (IsMsg T) w hin hn hM he AW ?_ RU2 (fun _ _ _ h _ => h) (isMsg_below T) (fun D W h => by rw [h]; exact msgC_right Sta.zero none none 0 0 0 0) (isMsg_right T) ?_
      · intro W g cap hW hg hs
        refine (UN W g cap hW hg hs).mono ?_
        rintro e w' ⟨h, hb⟩
        rcases h with ⟨-, rfl⟩ | ⟨h0, -⟩ | ⟨h0, -⟩
        · exact ⟨zeroM, rfl, rfl, hb⟩
        · exact absurd h0 he
        · exact absurd h0 he
      · rintro W C D rfl rfl
        exact zero_same W
end Go.Proofs.YtkodeeneljkgeaaGreatDoor
