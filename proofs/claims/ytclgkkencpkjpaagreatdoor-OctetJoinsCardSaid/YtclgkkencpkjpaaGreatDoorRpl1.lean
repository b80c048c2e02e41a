/- strings.NewReplacer's table of octets, for the two pairs that octet.Quote gives. Condition: as it states. -/
import Derived.Test.YtclgkkencpkjpaaGreatDoorOnc2
import Derived.Test.YtclgkkencpkjpaaGreatDoorKe
import Derived.Test.YtclgkkencpkjpaaGreatDoorKt
import Derived.Test.YtclgkkencpkjpaaGreatDoorFq
import Derived.Test.YtclgkkencpkjpaaGreatDoorFresh
import Derived.Lib.SliceRun
namespace Go.Proofs.YtclgkkencpkjpaaGreatDoor
open Go.RowKit IH
set_option maxRecDepth 100000
theorem row_pastU {w w' : World} {g base size n : Nat} {t e : TypeId} {cs xs : List Value} {v : Value} (h : RowAt w g t cs) (hg : w.grownBy w' v.ownBlock) (hown : w.ownsRow base e size v n xs) (hne : t ≠ e) : RowAt w' g t cs :=
  h.keep (hg.block g h.lt (fun he => ne_type hown h hne g he.symm rfl))
theorem row_ty_ne {w : World} {g : Nat} {t e : TypeId} {cs ds : List Value} (h : RowAt w g t cs) (h' : RowAt w g e ds) (hne : t ≠ e) : False := by
  obtain ⟨c1, a1, b1, q1, _⟩ := h
  obtain ⟨c2, a2, b2, q2, _⟩ := h'
  rw [q1] at q2
  simp only [Option.some.injEq, Obj.cells.injEq] at q2
  exact hne q2.2.1
theorem own_only_tyR {w W : World} {y base size n : Nat} {t e : TypeId} {cs xs : List Value} {v : Value} (h : w.ownsRow base e size v n xs) (ho : Only y w W) (hy : RowAt w y t cs) (hne : t ≠ e) : W.ownsRow base e size v n xs := by
  have hn := ne_type h hy hne
  refine ⟨h.1, ?_⟩
  rcases h.2 with h2 | ⟨g', cap, cur, hv, hg', hh, r⟩
  · exact .inl h2
  · exact .inr ⟨g', cap, cur, hv, hg', (ho.block g' (hn g' (by rw [hv]; rfl))).trans hh, r⟩
/-- The texts that are handed in: a quotation mark, and what stands for it; a backslash, and what stands for it. -/
def rplOld : List (List UInt8) := [[34], [92, 34], [92], [92, 92]]
def nilV : Value := .slice none 0 0
theorem zero252 : Tryz.zeroCells252 = Array.replicate 257 nilV := by kernel_rfl
theorem rep252 : (List.replicate 257 nilV).toArray = Tryz.zeroCells252 := by kernel_rfl
/-- A table's cells: which octets are replaced, by which slices; which texts these are. -/
def tblC (f : Nat → Value) (v : Value) : List Value := (List.range 256).map f ++ [v]
theorem tblC_len (f : Nat → Value) (v : Value) : (tblC f v).length = 257 := by simp [tblC]
theorem tblC_at (f : Nat → Value) (v : Value) (i : Nat) (h : i < 256) : (tblC f v)[i]? = some (f i) := by
  unfold tblC
  rw [List.getElem?_append_left (by simp; exact h)]
  simp [h]
theorem tblC_last (f : Nat → Value) (v : Value) : (tblC f v)[256]? = some v := by
  unfold tblC
  rw [List.getElem?_append_right (by simp)]
  simp
theorem tblC_set (f : Nat → Value) (v u : Value) (i : Nat) (h : i < 256) : (tblC f v).set i u = tblC (fun j => if j = i then u else f j) v := by
  apply List.ext_getElem?
  intro j
  rcases Nat.lt_trichotomy j 256 with hj | hj | hj
  · rw [tblC_at _ _ j hj, List.getElem?_set]
    split
    · rename_i e
      subst e
      rw [if_pos rfl, if_pos (by rw [tblC_len]; omega)]
    · rename_i e
      rw [tblC_at _ _ j hj, if_neg (fun h => e h.symm)]
  · subst hj
    rw [tblC_last, List.getElem?_set_ne (by omega), tblC_last]
  · rw [List.getElem?_eq_none (by rw [List.length_set, tblC_len]; omega), List.getElem?_eq_none (by rw [tblC_len]; omega)]
theorem tblC_setl (f : Nat → Value) (v u : Value) : (tblC f v).set 256 u = tblC f u := by
  unfold tblC
  rw [List.set_append_right _ _ (by simp)]
  simp
theorem tblC_zero (v : Value) : ((Array.replicate 257 nilV).setIfInBounds 256 v).toList = tblC (fun _ => nilV) v := by
  rw [Array.toList_setIfInBounds, Array.toList_replicate, ← tblC_setl (fun _ => nilV) nilV v]
  congr 1
theorem tblC_one (f : Nat → Value) (v : Value) (h : ∀ i, (f i).oneCell' = true) (hv : v.oneCell' = true) : ∀ u ∈ tblC f v, u.oneCell' = true := by
  intro u hu
  rcases List.mem_append.1 hu with h1 | h1
  · obtain ⟨i, _, rfl⟩ := List.mem_map.1 h1
    exact h i
  · rw [List.mem_singleton.1 h1]; exact hv
/-- The table of those two pairs, as it lies. -/
def Tbl (W : World) (h : Nat) : Prop := ∃ (f : Nat → Value) (v3 : Value), (∀ i, i ≠ 34 → i ≠ 92 → f i = nilV) ∧ RowAt W h 252 (tblC f v3) ∧
  (∃ g1 c1 Y1, f 34 = .slice (some ⟨g1, 0, none⟩) 2 c1 ∧ RowAt W g1 5 (bytesV [92, 34] ++ Y1)) ∧ (∃ g2 c2 Y2, f 92 = .slice (some ⟨g2, 0, none⟩) 2 c2 ∧ RowAt W g2 5 (bytesV [92, 92] ++ Y2)) ∧
  ∃ base, W.ownsRow base 9 1 v3 2 (strsV [[92], [34]])
set_option maxHeartbeats 16000000 in
theorem rbuild_any (g : Nat) (u v z r : Value) (b o c : Nat) (w : World) (hr : RowAt w g 187 [u, v, z, r, .slice (some ⟨b, o, none⟩) 4 c]) (hin : SliceIn w w.heap.size 1 (some ⟨b, o, none⟩) 4 c (strsV rplOld)) :
    Calls Tryz.prog 159 #[.pointer (some ⟨g, 0, none⟩)] w fun e w' => ∃ h, e = .returned (.iface 253 (.pointer (some ⟨h, 0, none⟩))) ∧ w.heap.size ≤ h ∧ Tbl w' h ∧ Below w.heap.size w w' := by
  have d4 := hr.cell (j := 4) rfl
  obtain ⟨b', o', hA, hb, hc⟩ := hin.2.2.2 (by decide)
  injection hA with hA
  injection hA with e1 e2
  subst e1 e2
  have s0 : w.cell? ⟨b, o, none⟩ = some (.string ⟨#[34]⟩) := hc 0 _ rfl
  have s1 : w.cell? ⟨b, o + 1, none⟩ = some (.string ⟨#[92, 34]⟩) := hc 1 _ rfl
  have s2 : w.cell? ⟨b, o + 2, none⟩ = some (.string ⟨#[92]⟩) := hc 2 _ rfl
  have s3 : w.cell? ⟨b, o + 3, none⟩ = some (.string ⟨#[92, 92]⟩) := hc 3 _ rfl
  have Hr := Lib.hid hr
  clear hin hc hr
  have heq : ∀ w : World, (binOp .eql 38 (.slice none 0 0) (.slice none 0 0)).run Tryz.prog w = .ok (.bool true) w := fun w => Lib.run_eql_slice_nil w 38 5 none 0 0 0 0 Tryz.underlying38
  go_enter Tryz.func159, Tryz.ntmps159
  go_wp2
  go_loopw [4, 5] (fun fv iv wr => w = wr ∧ ((fv = .bool true ∧ iv = .int .i64 0) ∨ (fv = .bool false ∧ iv = .int .i64 2) ∨ (fv = .bool false ∧ iv = .int .i64 4))) (fun _ iv _ => 4 - (intOf iv).toNat)
  case atStart => exact ⟨by first | rfl | trivial, .inl ⟨rfl, rfl⟩⟩
  case round =>
    obtain ⟨hwr, h⟩ := hrel
    subst hwr
    rcases h with ⟨rfl, rfl⟩ | ⟨rfl, rfl⟩ | ⟨rfl, rfl⟩
    · go_wp2
      go_roundw
      case rel => exact ⟨by first | rfl | trivial, .inr (.inl ⟨rfl, rfl⟩)⟩
      case measure => simp [intOf]
    · go_wp2
      go_roundw
      case rel => exact ⟨by first | rfl | trivial, .inr (.inr ⟨rfl, rfl⟩)⟩
      case measure => simp [intOf]
    · obtain ⟨i, hi, hz, hsz, hby⟩ := info_parts (str_ty).hi
      obtain ⟨w1, hmk, hown, hgr⟩ := run_make_own w w.heap.size 33 9 i _ 1 str_ty.ht hi hz hsz .i64 .i64 2 (by rw [hby]; decide) (by simp [maxLen]) (Nat.le_refl _)
      rw [show ((2 : Nat) : Int) = 2 from rfl] at hmk
      have B1 := Lib.hid ((Below.refl w.heap.size w).grown hgr (Nat.le_refl _) (fun q hq => by cases hq))
      have OW1 := Lib.hid hown
      clear hi hz hsz hby hown hgr
      have HMi : Hid ((Tryz.prog.info? 252).map (·.size) = some (tblC (fun _ => nilV) (.slice (some ⟨w.heap.size, 0, none⟩) 0 2)).length) := Lib.hid (by rw [tblC_len]; kernel_rfl)
      go_upto_region 27 with (refine wpList_store_row rfl 252 _ _ rfl w1.heap.size _ (tblC (fun _ => nilV) (.slice (some ⟨w.heap.size, 0, none⟩) 0 2)) (List.replicate 257 nilV) rfl (by rw [← tblC_zero, ← zero252]; rfl) (by have h := RowAt.new w1 252 (List.replicate 257 nilV); rw [rep252] at h; exact h) (by rw [tblC_len]; simp) HMi.out (tblC_one _ _ (fun _ => rfl) rfl) ?_; intro w2 hro hoo; have hb2 := hoo.below ((Below.refl w1.heap.size w1).alloc (Nat.le_refl _) _) (Nat.le_refl _); have B2 := Lib.hid (below_step B1.out hb2); have OW2 := Lib.hid (own_below OW1.out hb2); have R2 := Lib.hid hro; clear hro hoo hb2)
      obtain ⟨h, hh⟩ : ∃ h : Nat, w1.heap.size = h := ⟨_, rfl⟩
      rw [hh] at R2
      have hwh : Hid (w.heap.size ≤ h) := Lib.hid (by rw [← hh]; exact B1.out.size)
      rw [hh]
      clear hh hmk OW1 HMi
      -- round by round
      go_wp2_with fail
      go_loopw [12] (fun iv wr => ∃ (f : Nat → Value) (v3 : Value), (∀ i, i ≠ 34 → i ≠ 92 → f i = nilV) ∧ RowAt wr h 252 (tblC f v3) ∧ Below w.heap.size w wr ∧
        ((iv = .int .i64 2 ∧ f 34 = nilV ∧ f 92 = nilV ∧ wr.ownsRow w.heap.size 9 1 v3 0 (strsV [])) ∨
         (iv = .int .i64 0 ∧ f 34 = nilV ∧ (∃ g2 c2 Y2, f 92 = .slice (some ⟨g2, 0, none⟩) 2 c2 ∧ RowAt wr g2 5 (bytesV [92, 92] ++ Y2)) ∧ wr.ownsRow w.heap.size 9 1 v3 1 (strsV [[92]])) ∨
         (iv = .int .i64 (-2) ∧ (∃ g1 c1 Y1, f 34 = .slice (some ⟨g1, 0, none⟩) 2 c1 ∧ RowAt wr g1 5 (bytesV [92, 34] ++ Y1)) ∧ (∃ g2 c2 Y2, f 92 = .slice (some ⟨g2, 0, none⟩) 2 c2 ∧ RowAt wr g2 5 (bytesV [92, 92] ++ Y2)) ∧ wr.ownsRow w.heap.size 9 1 v3 2 (strsV [[92], [34]])))) (fun iv _ => (intOf iv + 2).toNat)
      case atStart => exact ⟨fun _ => nilV, _, fun _ _ _ => rfl, R2.out, B2.out, .inl ⟨rfl, rfl, rfl, OW2.out⟩⟩
      case round =>
        clear OW2 R2 B2
        obtain ⟨wq, hwq⟩ : ∃ x : World, x = wr := ⟨_, rfl⟩
        subst hwq
        obtain ⟨f, v3, hf, hrow, hbq, hcase⟩ := hrel
        rcases hcase with ⟨rfl, h34, h92, hown⟩ | ⟨rfl, h34, ⟨g2, c2, Y2, h92, hr2⟩, hown⟩ | ⟨rfl, ⟨g1, c1, Y1, h34, hr1⟩, ⟨g2, c2, Y2, h92, hr2⟩, hown⟩
        rotate_left
        rotate_left
        · have Rq := Lib.hid hrow
          have Bq := Lib.hid hbq
          have TB : Hid (Tbl wq h) := Lib.hid ⟨f, v3, hf, hrow, ⟨g1, c1, Y1, h34, hr1⟩, ⟨g2, c2, Y2, h92, hr2⟩, _, hown⟩
          clear hrow hbq hown hr1 hr2 h34 h92 hf
          go_wp2_with fail
          go_ret
          exact ⟨h, rfl, hwh.out, TB.out, Bq.out⟩
        · have y0 := (hbq.cell (p := ⟨b, o + 2, none⟩) hb).trans s2
          have y1 := (hbq.cell (p := ⟨b, o + 3, none⟩) hb).trans s3
          have t0 : wq.cell? ⟨h, 92, none⟩ = some (.slice none 0 0) := by have h1 := hrow.cell (tblC_at f v3 92 (by decide)); rw [h92] at h1; exact h1
          have t1 := hrow.cell (tblC_last _ _)
          have hix : (⟨#[92]⟩ : ByteArray)[0]'(by decide) = 92 := rfl
          have hiy : ((92 : UInt8).toNat : Int) = 92 := rfl
          have Rq := Lib.hid hrow
          have OWq := Lib.hid hown
          have Bq := Lib.hid hbq
          have hba := (Below.refl wq.heap.size wq).alloc (Nat.le_refl _) (.cells #[.int .u8 92] 5)
          have hra := RowAt.new wq 5 (bytesV [92])
          have hcs := run_string_of (P := Tryz.prog) (hra.slice (size := 1) (n := 1) (c := 1) rfl (Nat.le_refl _) (by simp [maxLen])) 38 9 5 Tryz.underlying38 Tryz.underlying5 Tryz.underlying9
          have hbb := hba.alloc (by simp) (.cells #[.string ⟨#[92]⟩] 9)
          have OW3 := Lib.hid (own_below OWq.out hbb)
          have B3 := Lib.hid (below_step Bq.out hbb)
          have R3 := Lib.hid (Rq.out.below hbb Rq.out.lt)
          have hrv := (RowAt.new (wq.alloc (.cells #[.int .u8 92] 5)) 9 [.string ⟨#[92]⟩]).slice (size := 1) (n := 1) (c := 1) rfl (Nat.le_refl _) (by simp [maxLen])
          rw [show (wq.alloc (.cells #[.int .u8 92] 5)).heap.size = wq.heap.size + 1 from by simp] at hrv
          have RV := Lib.hid hrv
          clear hrv
          have KB := Lib.hid hbb
          clear hrow hown hbq hba hra hbb
          change (convert 38 9 (.slice (some ⟨wq.heap.size, 0, none⟩) 1 1)).run Tryz.prog (wq.alloc (.cells #[.int .u8 92] 5)) = .ok (.string ⟨#[92]⟩) (wq.alloc (.cells #[.int .u8 92] 5)) at hcs
          go_upto_region 34 with (at_builtin; refine wpList_appS str_ty rfl _ _ rfl w.heap.size _ 0 _ rfl OW3.out _ _ 1 1 [.string ⟨#[92]⟩] rfl RV.out (one1 _ rfl) (by decide) (by simp [maxLen]) B3.out.size ?_; intro v4 w4 hown hgr; obtain ⟨A4, k4, rfl, -⟩ := own_slice hown; have R4 := Lib.hid (row_pastU R3.out hgr OW3.out (by decide)); have B4 := Lib.hid (B3.out.grown hgr B3.out.size (fun q hq => (OW3.out.lt q hq).1)); have KR := Lib.hid (fun (g' : Nat) (Y : List Value) (hY : RowAt wq g' 5 Y) => row_pastU (hY.below KB.out hY.lt) hgr OW3.out (by decide)); have OW4 := Lib.hid hown; have c4 := R4.out.cell (tblC_last _ _); have f4 := R4.out.frozen (j := 256) (by rw [tblC_len]; decide); clear hown hgr)
          obtain ⟨w5, hw5⟩ : ∃ W : World, w4.setCell ⟨h, 256, none⟩ (.slice A4 (0 + 1) k4) = W := ⟨_, rfl⟩
          have ho5 : Only h w4 w5 := by rw [← hw5]; exact Only.setCell h 256 w4 _
          have R5 : Hid (RowAt w5 h 252 (tblC f (.slice A4 (0 + 1) k4))) := Lib.hid (by rw [← hw5, ← tblC_setl f v3 (.slice A4 (0 + 1) k4)]; exact R4.out.set_ (by rw [tblC_len]; decide) _)
          have OW5 := Lib.hid (own_only_tyR OW4.out ho5 R4.out (by decide))
          have B5 : Hid (Below w.heap.size w w5) := Lib.hid (by rw [← hw5]; exact B4.out.setCell hwh.out _)
          have KR5 : Hid (∀ (g' : Nat) (Y : List Value), RowAt wq g' 5 Y → RowAt w5 g' 5 Y) := Lib.hid (fun g' Y hY => by
            have h1 := KR.out g' Y hY
            refine h1.keep (ho5.block g' ?_)
            intro e
            subst e
            exact row_ty_ne h1 R4.out (by decide))
          rw [hw5]
          clear hw5 ho5 c4 f4 R4 OW4 B4 KR
          go_upto_region 29 with (refine wpList_convF rfl 9 38 5 _ _ 2 rfl rfl Tryz.underlying9 Tryz.underlying38 Tryz.underlying5 (by rfl) ?_; intro w6 hr6 hb6; have R6 := Lib.hid hr6; have B6 := Lib.hid (below_step B5.out hb6); have RT := Lib.hid (R5.out.below hb6 R5.out.lt); have OW6 := Lib.hid (own_below OW5.out hb6); have KR6 := Lib.hid (fun (g' : Nat) (Y : List Value) (hY : RowAt wq g' 5 Y) => (KR5.out g' Y hY).below hb6 (KR5.out g' Y hY).lt); have t6 : w6.cell? ⟨h, 92, none⟩ = some (.slice none 0 0) := (by have h1 := RT.out.cell (tblC_at f _ 92 (by decide)); rw [h92] at h1; exact h1); have f6 := RT.out.frozen (j := 92) (by rw [tblC_len]; decide); clear hr6 hb6)
          obtain ⟨w7, hw7⟩ : ∃ W : World, w6.setCell ⟨h, 92, none⟩ (.slice (some ⟨w5.heap.size, 0, none⟩) 2 (grownCap w5 2 0 5)) = W := ⟨_, rfl⟩
          have ho7 : Only h w6 w7 := by rw [← hw7]; exact Only.setCell h 92 w6 _
          have R7 : Hid (RowAt w7 h 252 (tblC (fun j => if j = 92 then .slice (some ⟨w5.heap.size, 0, none⟩) 2 (grownCap w5 2 0 5) else f j) (.slice A4 (0 + 1) k4))) := Lib.hid (by rw [← hw7, ← tblC_set f _ _ 92 (by decide)]; exact RT.out.set_ (by rw [tblC_len]; decide) _)
          have OW7 := Lib.hid (own_only_tyR OW6.out ho7 RT.out (by decide))
          have B7 : Hid (Below w.heap.size w w7) := Lib.hid (by rw [← hw7]; exact B6.out.setCell hwh.out _)
          have RN : Hid (RowAt w7 w5.heap.size 5 (bytesV [92, 92] ++ List.replicate (grownCap w5 2 0 5 - 2) (.int .u8 0))) := Lib.hid (R6.out.keep (ho7.block _ (by have := R5.out.lt; omega)))
          have KR7 : Hid (∀ (g' : Nat) (Y : List Value), RowAt wq g' 5 Y → RowAt w7 g' 5 Y) := Lib.hid (fun g' Y hY => by
            have h1 := KR6.out g' Y hY
            refine h1.keep (ho7.block g' ?_)
            intro e
            subst e
            exact row_ty_ne h1 RT.out (by decide))
          rw [hw7]
          clear hw7 ho7 t6 f6 RT OW6 B6 KR6 R5 OW5 B5 KR5 R6
          go_wp2_with fail
          go_roundw
          case rel =>
            refine ⟨(fun j => if j = 92 then .slice (some ⟨w5.heap.size, 0, none⟩) 2 (grownCap w5 2 0 5) else f j), _, ?_, R7.out, B7.out, .inr (.inl ⟨rfl, (by show (if (34 : Nat) = 92 then _ else _) = _; rw [if_neg (by decide)]; exact h34), ⟨_, _, _, (by show (if (92 : Nat) = 92 then _ else _) = _; rw [if_pos rfl]), RN.out⟩, OW7.out⟩)⟩
            intro i h1 h2
            show (if i = 92 then _ else _) = _
            rw [if_neg (by omega)]
            exact hf i h1 h2
          case measure => simp [intOf]
        · have y0 := (hbq.cell (p := ⟨b, o, none⟩) hb).trans s0
          have y1 := (hbq.cell (p := ⟨b, o + 1, none⟩) hb).trans s1
          have t0 : wq.cell? ⟨h, 34, none⟩ = some (.slice none 0 0) := by have h1 := hrow.cell (tblC_at f v3 34 (by decide)); rw [h34] at h1; exact h1
          have t1 := hrow.cell (tblC_last _ _)
          have hix : (⟨#[34]⟩ : ByteArray)[0]'(by decide) = 34 := rfl
          have hiy : ((34 : UInt8).toNat : Int) = 34 := rfl
          have Rq := Lib.hid hrow
          have OWq := Lib.hid hown
          have Bq := Lib.hid hbq
          have hba := (Below.refl wq.heap.size wq).alloc (Nat.le_refl _) (.cells #[.int .u8 34] 5)
          have hra := RowAt.new wq 5 (bytesV [34])
          have hcs := run_string_of (P := Tryz.prog) (hra.slice (size := 1) (n := 1) (c := 1) rfl (Nat.le_refl _) (by simp [maxLen])) 38 9 5 Tryz.underlying38 Tryz.underlying5 Tryz.underlying9
          have hbb := hba.alloc (by simp) (.cells #[.string ⟨#[34]⟩] 9)
          have OW3 := Lib.hid (own_below OWq.out hbb)
          have B3 := Lib.hid (below_step Bq.out hbb)
          have R3 := Lib.hid (Rq.out.below hbb Rq.out.lt)
          have hrv := (RowAt.new (wq.alloc (.cells #[.int .u8 34] 5)) 9 [.string ⟨#[34]⟩]).slice (size := 1) (n := 1) (c := 1) rfl (Nat.le_refl _) (by simp [maxLen])
          rw [show (wq.alloc (.cells #[.int .u8 34] 5)).heap.size = wq.heap.size + 1 from by simp] at hrv
          have RV := Lib.hid hrv
          clear hrv
          have KB := Lib.hid hbb
          clear hrow hown hbq hba hra hbb
          change (convert 38 9 (.slice (some ⟨wq.heap.size, 0, none⟩) 1 1)).run Tryz.prog (wq.alloc (.cells #[.int .u8 34] 5)) = .ok (.string ⟨#[34]⟩) (wq.alloc (.cells #[.int .u8 34] 5)) at hcs
          go_upto_region 34 with (at_builtin; refine wpList_appS str_ty rfl _ _ rfl w.heap.size _ 1 _ rfl OW3.out _ _ 1 1 [.string ⟨#[34]⟩] rfl RV.out (one1 _ rfl) (by decide) (by simp [maxLen]) B3.out.size ?_; intro v4 w4 hown hgr; obtain ⟨A4, k4, rfl, -⟩ := own_slice hown; have R4 := Lib.hid (row_pastU R3.out hgr OW3.out (by decide)); have B4 := Lib.hid (B3.out.grown hgr B3.out.size (fun q hq => (OW3.out.lt q hq).1)); have KR := Lib.hid (fun (g' : Nat) (Y : List Value) (hY : RowAt wq g' 5 Y) => row_pastU (hY.below KB.out hY.lt) hgr OW3.out (by decide)); have OW4 := Lib.hid hown; have c4 := R4.out.cell (tblC_last _ _); have f4 := R4.out.frozen (j := 256) (by rw [tblC_len]; decide); clear hown hgr)
          obtain ⟨w5, hw5⟩ : ∃ W : World, w4.setCell ⟨h, 256, none⟩ (.slice A4 (1 + 1) k4) = W := ⟨_, rfl⟩
          have ho5 : Only h w4 w5 := by rw [← hw5]; exact Only.setCell h 256 w4 _
          have R5 : Hid (RowAt w5 h 252 (tblC f (.slice A4 (1 + 1) k4))) := Lib.hid (by rw [← hw5, ← tblC_setl f v3 (.slice A4 (1 + 1) k4)]; exact R4.out.set_ (by rw [tblC_len]; decide) _)
          have OW5 := Lib.hid (own_only_tyR OW4.out ho5 R4.out (by decide))
          have B5 : Hid (Below w.heap.size w w5) := Lib.hid (by rw [← hw5]; exact B4.out.setCell hwh.out _)
          have KR5 : Hid (∀ (g' : Nat) (Y : List Value), RowAt wq g' 5 Y → RowAt w5 g' 5 Y) := Lib.hid (fun g' Y hY => by
            have h1 := KR.out g' Y hY
            refine h1.keep (ho5.block g' ?_)
            intro e
            subst e
            exact row_ty_ne h1 R4.out (by decide))
          rw [hw5]
          clear hw5 ho5 c4 f4 R4 OW4 B4 KR
          go_upto_region 29 with (refine wpList_convF rfl 9 38 5 _ _ 2 rfl rfl Tryz.underlying9 Tryz.underlying38 Tryz.underlying5 (by rfl) ?_; intro w6 hr6 hb6; have R6 := Lib.hid hr6; have B6 := Lib.hid (below_step B5.out hb6); have RT := Lib.hid (R5.out.below hb6 R5.out.lt); have OW6 := Lib.hid (own_below OW5.out hb6); have KR6 := Lib.hid (fun (g' : Nat) (Y : List Value) (hY : RowAt wq g' 5 Y) => (KR5.out g' Y hY).below hb6 (KR5.out g' Y hY).lt); have t6 : w6.cell? ⟨h, 34, none⟩ = some (.slice none 0 0) := (by have h1 := RT.out.cell (tblC_at f _ 34 (by decide)); rw [h34] at h1; exact h1); have f6 := RT.out.frozen (j := 34) (by rw [tblC_len]; decide); clear hr6 hb6)
          obtain ⟨w7, hw7⟩ : ∃ W : World, w6.setCell ⟨h, 34, none⟩ (.slice (some ⟨w5.heap.size, 0, none⟩) 2 (grownCap w5 2 0 5)) = W := ⟨_, rfl⟩
          have ho7 : Only h w6 w7 := by rw [← hw7]; exact Only.setCell h 34 w6 _
          have R7 : Hid (RowAt w7 h 252 (tblC (fun j => if j = 34 then .slice (some ⟨w5.heap.size, 0, none⟩) 2 (grownCap w5 2 0 5) else f j) (.slice A4 (1 + 1) k4))) := Lib.hid (by rw [← hw7, ← tblC_set f _ _ 34 (by decide)]; exact RT.out.set_ (by rw [tblC_len]; decide) _)
          have OW7 := Lib.hid (own_only_tyR OW6.out ho7 RT.out (by decide))
          have B7 : Hid (Below w.heap.size w w7) := Lib.hid (by rw [← hw7]; exact B6.out.setCell hwh.out _)
          have RN : Hid (RowAt w7 w5.heap.size 5 (bytesV [92, 34] ++ List.replicate (grownCap w5 2 0 5 - 2) (.int .u8 0))) := Lib.hid (R6.out.keep (ho7.block _ (by have := R5.out.lt; omega)))
          have KR7 : Hid (∀ (g' : Nat) (Y : List Value), RowAt wq g' 5 Y → RowAt w7 g' 5 Y) := Lib.hid (fun g' Y hY => by
            have h1 := KR6.out g' Y hY
            refine h1.keep (ho7.block g' ?_)
            intro e
            subst e
            exact row_ty_ne h1 RT.out (by decide))
          rw [hw7]
          clear hw7 ho7 t6 f6 RT OW6 B6 KR6 R5 OW5 B5 KR5 R6
          go_wp2_with fail
          go_roundw
          case rel =>
            refine ⟨(fun j => if j = 34 then .slice (some ⟨w5.heap.size, 0, none⟩) 2 (grownCap w5 2 0 5) else f j), _, ?_, R7.out, B7.out, .inr (.inr ⟨rfl, ⟨_, _, _, (by show (if (34 : Nat) = 34 then _ else _) = _; rw [if_pos rfl]), RN.out⟩, ⟨g2, c2, Y2, (by show (if (92 : Nat) = 34 then _ else _) = _; rw [if_neg (by decide)]; exact h92), KR7.out _ _ hr2⟩, OW7.out⟩)⟩
            intro i h1 h2
            show (if i = 34 then _ else _) = _
            rw [if_neg (by omega)]
            exact hf i h1 h2
          case measure => simp [intOf]
end Go.Proofs.YtclgkkencpkjpaaGreatDoor
