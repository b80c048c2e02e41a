/- Cy: several texts, one behind the other. -/
import Derived.Test.YtniiadhhefgmcaaGreatDoorKt
import Derived.Test.YtniiadhhefgmcaaGreatDoorCk
import Derived.Test.YtniiadhhefgmcaaGreatDoorCz
import Derived.Test.YtniiadhhefgmcaaGreatDoorFq
/- Slices of slices of octets in memory: how they read. No condition but as each states. -/
namespace Go.Proofs.YtniiadhhefgmcaaGreatDoor
open Go.RowKit IH
set_option maxRecDepth 100000
/-- Each cell is a slice that reads as a piece. -/
def PiecesR (w : World) (B : Nat) (L : List (List UInt8)) (V : List Value) : Prop :=
  V.length = L.length ∧ ∀ (i : Nat) (l : List UInt8), L[i]? = some l → ∃ (A : Option Addr) (n c : Nat), V[i]? = some (Value.slice A n c) ∧ SliceIn w B 1 A n c (bytesV l)
section
variable {w w' : World} {B B' : Nat} {L : List (List UInt8)} {V : List Value}
theorem PiecesR.keep (h : PiecesR w B L V) (hk : ∀ p : Addr, p.block < B → w'.cell? p = w.cell? p) : PiecesR w' B L V :=
  ⟨h.1, fun i l hl => by obtain ⟨A, n, c, h1, h2⟩ := h.2 i l hl; exact ⟨A, n, c, h1, h2.keep hk⟩⟩
theorem PiecesR.below (h : PiecesR w B L V) (hb : Below B w w') : PiecesR w' B L V := h.keep fun _ hp => hb.cell hp
theorem PiecesR.more (h : PiecesR w B L V) (hB : B ≤ B') : PiecesR w B' L V :=
  ⟨h.1, fun i l hl => by obtain ⟨A, n, c, h1, h2⟩ := h.2 i l hl; exact ⟨A, n, c, h1, h2.more hB⟩⟩
end
theorem own_save {w w' : World} {base g : Nat} {e : TypeId} {size n : Nat} {v : Value} {xs : List Value} (h : w.ownsRow base e size v n xs) (hb : ∀ k, k < w.heap.size → k ≠ g → w'.heap[k]? = w.heap[k]?) (hg : g < base) : w'.ownsRow base e size v n xs := by
  refine ⟨h.1, ?_⟩
  rcases h.2 with h2 | ⟨g', cap, cur, hv, hg', hh, r⟩
  · exact .inl h2
  · exact .inr ⟨g', cap, cur, hv, hg', (hb g' (Array.getElem?_eq_some_iff.1 hh).1 (by omega)).trans hh, r⟩
theorem own_low {w : World} {base base' : Nat} {e : TypeId} {size n : Nat} {v : Value} {xs : List Value} (h : w.ownsRow base e size v n xs) (hb : base' ≤ base) : w.ownsRow base' e size v n xs := by
  refine ⟨h.1, ?_⟩
  rcases h.2 with h2 | ⟨g, cap, cur, hv, hg, hh, r⟩
  · exact .inl h2
  · exact .inr ⟨g, cap, cur, hv, by omega, hh, r⟩
theorem row_far {w w' : World} {g base size n : Nat} {t e : TypeId} {cs xs : List Value} {v : Value} (h : RowAt w g t cs) (hg : w.grownBy w' v.ownBlock) (hown : w.ownsRow base e size v n xs) (hlt : g < base) : RowAt w' g t cs :=
  h.keep (hg.block g h.lt (fun he => by have := (hown.lt g he.symm).1; omega))
end Go.Proofs.YtniiadhhefgmcaaGreatDoor

/- A decoder in memory; walks of layer 7: a new one, a size line taken. Conditions: texts within 10^9 octets; the decoder's numbers within bounds. -/
namespace Go.Proofs.YtniiadhhefgmcaaGreatDoor
open Go.RowKit IH
set_option maxRecDepth 100000
def decV (d : Dec) : List Value := [.int .i64 d.w, .int .i64 d.left, .int .i64 d.total, .int .i64 d.fields, .int .i64 d.fault]
theorem SliceIn.save {w w' : World} {B g b0 off size n c : Nat} {xs : List Value} (h : SliceIn w B size (some ⟨b0, off, none⟩) n c xs) (hs : Save B g w w') (hne : b0 ≠ g) : SliceIn w' B size (some ⟨b0, off, none⟩) n c xs :=
  ⟨h.1, h.2.1, h.2.2.1, fun hn => by
    obtain ⟨b, o, e, hb, hc⟩ := h.2.2.2 hn
    simp only [Option.some.injEq, Addr.mk.injEq, and_true] at e
    obtain ⟨rfl, rfl⟩ := e
    exact ⟨_, _, rfl, hb, fun j u hu => (World.cell?_of_block (hs.block _ hb hne)).trans (hc j u hu)⟩⟩
theorem Save.grown {B g : Nat} {a w w' : World} {row : Option Nat} (h : Save B g a w) (hg : w.grownBy w' row) (hB : B ≤ w.heap.size) (hr : ∀ k, row = some k → B ≤ k) : Save B g a w' :=
  h.trans ⟨hg.os, hg.tape, hg.output, hg.size, fun k hk _ => hg.block k (by omega) (fun e => by have := hr k e.symm; omega)⟩
theorem Save.refl (B g : Nat) (w : World) : Save B g w w := ⟨rfl, rfl, rfl, Nat.le_refl _, fun _ _ _ => rfl⟩
theorem cnew_any (w : World) :
    Calls Tryz.prog 78 #[] w fun e w' => e = .returned (.pointer (some ⟨w.heap.size, 0, none⟩)) ∧ RowAt w' w.heap.size 146 (decV Dec.new) ∧ Below w.heap.size w w' := by
  have h1 := RowAt.new w 146 (decV Dec.new)
  have h2 := below_al w (.cells (decV Dec.new).toArray 146)
  rw [show (decV Dec.new).toArray = #[.int .i64 0, .int .i64 0, .int .i64 0, .int .i64 0, .int .i64 0] from rfl] at h1 h2
  replace h1 := Lib.hid h1
  replace h2 := Lib.hid h2
  go_enter Tryz.func78, Tryz.ntmps78
  go_wp2
  go_ret
  exact ⟨rfl, h1.out, h2.out⟩
set_option maxHeartbeats 4000000 in
theorem cbegin_any (g : Nat) (d : Dec) (s : ByteArray) (w : World) (hr : RowAt w g 146 (decV d)) (hd : DecIn d) (hs : s.size ≤ 1000000000) :
    Calls Tryz.prog 172 #[.pointer (some ⟨g, 0, none⟩), .string s] w fun e w' => e = .returned (.int .i64 (beginC d s.data.toList).1) ∧ RowAt w' g 146 (decV (beginC d s.data.toList).2) ∧ Save w.heap.size g w w' := by
  have SZ := csize_any s hs w
  obtain ⟨z, hz⟩ : ∃ z, sizeC s.data.toList = z := ⟨_, rfl⟩
  unfold beginC
  rw [hz] at SZ ⊢
  obtain ⟨a1, a2, a3, a4, a5, a6, a7, a8⟩ := hd
  have hgl := hr.lt
  have Hr := Lib.hid hr
  clear hr hz hs
  have key : ∀ w2, Below w.heap.size w w2 → Hid (RowAt w2 g 146 (decV d)) ∧ Hid (Save w.heap.size g w w2) := fun w2 hb => ⟨Lib.hid (Hr.out.below hb hgl), Lib.hid (below_save hb)⟩
  by_cases h1 : z < 0
  · rw [if_pos h1] at SZ
    rw [if_pos h1]
    rw [show max 0 z = 0 by omega] at SZ
    replace SZ := Lib.hid SZ
    clear h1
    go_enter Tryz.func172, Tryz.ntmps172
    go_wp2_with (go_at_call 187; refine SZ.out.mono ?_; rintro e w2 ⟨rfl, hb2⟩; obtain ⟨R2, S2⟩ := key w2 hb2; clear hb2)
    go_ret
    exact ⟨rfl, R2.out, S2.out⟩
  · rw [if_neg h1] at SZ
    rw [if_neg h1]
    rw [show max 0 z = z by omega] at SZ
    replace SZ := Lib.hid SZ
    by_cases h2 : z = 0
    · subst h2
      rw [if_pos rfl]
      clear h1
      go_enter Tryz.func172, Tryz.ntmps172
      go_wp2_with (go_at_call 187; refine SZ.out.mono ?_; rintro e w2 ⟨rfl, hb2⟩; obtain ⟨R2, S2⟩ := key w2 hb2; have f0 := R2.out.frozen (j := 0) (show 0 < 5 by omega); have d0 := R2.out.cell (j := 0) rfl; clear hb2)
      go_ret
      exact ⟨rfl, R2.out.set_ (j := 0) (show 0 < 5 by omega) _, S2.out.setCell _ _⟩
    · rw [if_neg h2]
      have h2b : (z == 0) = false := by rw [beq_eq_false_iff_ne]; exact h2
      have hw1 : IntKind.i64.wrap (1048576 - d.total) = 1048576 - d.total := IntWalk.i64_in _ ⟨by omega, by omega⟩
      by_cases h3 : 1048576 - d.total < z
      · rw [if_pos h3]
        clear h1
        go_enter Tryz.func172, Tryz.ntmps172
        go_wp2_with (go_at_call 187; refine SZ.out.mono ?_; rintro e w2 ⟨rfl, hb2⟩; obtain ⟨R2, S2⟩ := key w2 hb2; have d2 := R2.out.cell (j := 2) rfl; clear hb2)
        go_ret
        exact ⟨rfl, R2.out, S2.out⟩
      · rw [if_neg h3]
        have hw2 : IntKind.i64.wrap (d.total + z) = d.total + z := IntWalk.i64_in _ ⟨by omega, by omega⟩
        go_enter Tryz.func172, Tryz.ntmps172
        go_wp2_with (go_at_call 187; refine SZ.out.mono ?_; rintro e w2 ⟨rfl, hb2⟩; obtain ⟨R2, S2⟩ := key w2 hb2; have f0 := R2.out.frozen (j := 0) (show 0 < 5 by omega); have f1 := R2.out.frozen (j := 1) (show 1 < 5 by omega); have f2 := R2.out.frozen (j := 2) (show 2 < 5 by omega); have d0 := R2.out.cell (j := 0) rfl; have d1 := R2.out.cell (j := 1) rfl; have d2 := R2.out.cell (j := 2) rfl; clear hb2)
        go_ret
        exact ⟨rfl, ((R2.out.set_ (j := 0) (show 0 < 5 by omega) _).set_ (j := 1) (show 1 < 5 by omega) _).set_ (j := 2) (show 2 < 5 by omega) _, ((S2.out.setCell _ _).setCell _ _).setCell _ _⟩
end Go.Proofs.YtniiadhhefgmcaaGreatDoor

/- Walks of layer 7: a trailer's line taken; what comes next, by the code. Conditions: texts within 10^8 octets; the decoder's numbers within bounds; the world's shape. -/
namespace Go.Proofs.YtniiadhhefgmcaaGreatDoor
open Go.RowKit IH
set_option maxRecDepth 100000
set_option maxHeartbeats 4000000 in
theorem ctail_any (g : Nat) (d : Dec) (s : ByteArray) (w : World) (hsh : w.ShapedOpen Tryz.prog) (hr : RowAt w g 146 (decV d)) (hd : DecIn d) (hs : s.size ≤ 100000000) :
    Calls Tryz.prog 173 #[.pointer (some ⟨g, 0, none⟩), .string s] w fun e w' => e = .returned (.int .i64 (tailC d s.data.toList).1) ∧ RowAt w' g 146 (decV (tailC d s.data.toList).2) ∧ Save w.heap.size g w w' := by
  obtain ⟨a1, a2, a3, a4, a5, a6, a7, a8⟩ := hd
  have hgl := hr.lt
  have Hr := Lib.hid hr
  unfold tailC
  by_cases h0 : s.data.toList = []
  · rw [if_pos h0]
    have e0 : (s.toList == []) = true := by rw [beq_iff_eq, ByteArray.toList_eq]; exact h0
    have e1 : s.toList = [] := by rw [ByteArray.toList_eq]; exact h0
    have f0 := Hr.out.frozen (j := 0) (show 0 < 5 by omega)
    have d0 := Hr.out.cell (j := 0) rfl
    clear h0 hr
    go_enter Tryz.func173, Tryz.ntmps173
    go_wp2
    go_ret
    exact ⟨rfl, Hr.out.set_ (j := 0) (show 0 < 5 by omega) _, (Save.refl _ _ _).setCell _ _⟩
  · rw [if_neg h0]
    have e0 : (s.toList == []) = false := by rw [beq_eq_false_iff_ne, ByteArray.toList_eq]; exact h0
    have hSz : (s ++ (⟨#[13, 10, 13, 10]⟩ : ByteArray)).size = s.size + 4 := by rw [← data_len, append_data, List.length_append, data_len]; rfl
    have hSd : (s ++ (⟨#[13, 10, 13, 10]⟩ : ByteArray)).data.toList = s.data.toList ++ [13, 10, 13, 10] := by rw [append_data]
    have hcv := Lib.run_convert_string_bytes (P := Tryz.prog) w 9 25 5 (s ++ (⟨#[13, 10, 13, 10]⟩ : ByteArray)) Tryz.underlying9 Tryz.underlying25 Tryz.underlying5
    have hrow := RowAt.bytes w 5 (s ++ (⟨#[13, 10, 13, 10]⟩ : ByteArray))
    have hbel := below_bytesWorld w 5 (s ++ (⟨#[13, 10, 13, 10]⟩ : ByteArray))
    have hcap := Nat.le_trans (Nat.le_refl _) (grownCap_le_maxLen w (s ++ (⟨#[13, 10, 13, 10]⟩ : ByteArray)).size 0 5 (by simp only [maxLen]; omega))
    have hcap2 := grownCap_ge w (s ++ (⟨#[13, 10, 13, 10]⟩ : ByteArray)).size 0 5
    generalize Lib.bytesWorld w 5 (s ++ (⟨#[13, 10, 13, 10]⟩ : ByteArray)) = W at *
    generalize grownCap w (s ++ (⟨#[13, 10, 13, 10]⟩ : ByteArray)).size 0 5 = C at *
    rw [hSd] at hrow
    have hsl := hrow.slice (size := 1) (n := (s ++ (⟨#[13, 10, 13, 10]⟩ : ByteArray)).size) (c := C) (by rw [bytesV_length, ← hSd, data_len, Nat.mul_one]) hcap2 hcap
    have PA := fparse_any w.heap.size 0 _ C _ W (shaped_below hsh hbel) hsl (by omega)
    obtain ⟨R, hR⟩ : ∃ R, parseFs (s.data.toList ++ [13, 10, 13, 10]) = R := ⟨_, rfl⟩
    rw [hR] at PA ⊢
    obtain ⟨r1, r2, r3⟩ := R
    simp only at PA ⊢
    have key : ∀ w2, Below W.heap.size W w2 → Hid (RowAt w2 g 146 (decV d)) ∧ Hid (Save w.heap.size g w w2) := fun w2 hb => ⟨Lib.hid (Hr.out.below (below_step hbel hb) hgl), Lib.hid (below_save (below_step hbel hb))⟩
    rw [hSz] at PA hcv
    replace PA := Lib.hid PA
    clear hsl hrow hR hr hSd hcap hcap2 hsh h0 hbel Hr
    by_cases h1 : r3 = 0
    · subst h1
      rw [if_neg (by simp)]
      by_cases h2 : 128 < d.fields + 1
      · rw [if_pos h2]
        go_enter Tryz.func173, Tryz.ntmps173
        go_wp2_with (go_at_call 138; (with_reducible refine PA.out.mono ?_); rintro e w2 ⟨v, rfl, _, hb2⟩; obtain ⟨R2, S2⟩ := key w2 hb2; have f3 := R2.out.frozen (j := 3) (show 3 < 5 by omega); have d3 := R2.out.cell (j := 3) rfl; clear hb2)
        go_ret
        exact ⟨rfl, R2.out.set_ (j := 3) (show 3 < 5 by omega) _, S2.out.setCell _ _⟩
      · rw [if_neg h2]
        go_enter Tryz.func173, Tryz.ntmps173
        go_wp2_with (go_at_call 138; (with_reducible refine PA.out.mono ?_); rintro e w2 ⟨v, rfl, _, hb2⟩; obtain ⟨R2, S2⟩ := key w2 hb2; have f3 := R2.out.frozen (j := 3) (show 3 < 5 by omega); have d3 := R2.out.cell (j := 3) rfl; clear hb2)
        go_ret
        exact ⟨rfl, R2.out.set_ (j := 3) (show 3 < 5 by omega) _, S2.out.setCell _ _⟩
    · rw [if_pos h1]
      have n1 : (r3 != 0) = true := by rw [bne_iff_ne]; exact h1
      go_enter Tryz.func173, Tryz.ntmps173
      go_wp2_with (go_at_call 138; (with_reducible refine PA.out.mono ?_); rintro e w2 ⟨v, rfl, _, hb2⟩; obtain ⟨R2, S2⟩ := key w2 hb2; clear hb2)
      go_ret
      exact ⟨rfl, R2.out, S2.out⟩
theorem slice_nil (w : World) (B : Nat) : SliceIn w B 1 none 0 0 (bytesV []) := SliceIn.none_ (Nat.zero_le _)
theorem lineC_size (l : List UInt8) : (lineC l).1.length ≤ l.length := by
  unfold lineC
  split
  · split <;> simp
  · split
    · simp
    · simp only [List.length_take]; omega
set_option maxHeartbeats 8000000 in
theorem cstep_any (g b0 off n c : Nat) (d : Dec) (l : List UInt8) (w : World) (hsh : w.ShapedOpen Tryz.prog) (hr : RowAt w g 146 (decV d)) (hd : DecIn d) (hin : SliceIn w w.heap.size 1 (some ⟨b0, off, none⟩) n c (bytesV l)) (hne : b0 ≠ g) (hn : n ≤ 100000000) :
    Calls Tryz.prog 153 #[.pointer (some ⟨g, 0, none⟩), .slice (some ⟨b0, off, none⟩) n c] w fun e w' => ∃ A k q, e = .returned (.tuple #[.slice A k q, .int .i64 (stepC d l).2.1, .int .i64 (stepC d l).2.2.1]) ∧ SliceIn w' w'.heap.size 1 A k q (bytesV (stepC d l).1) ∧ RowAt w' g 146 (decV (stepC d l).2.2.2) ∧ Save w.heap.size g w w' := by
  have hd0 := hd
  obtain ⟨a1, a2, a3, a4, a5, a6, a7, a8⟩ := hd
  have hll : l.length = n := by have := hin.1; rw [bytesV_length, Nat.mul_one] at this; exact this
  have hnc := hin.2.1
  have hgl := hr.lt
  have Hr := Lib.hid hr
  have Hin := Lib.hid hin
  have d0 := hr.cell (j := 0) rfl
  have d1 := hr.cell (j := 1) rfl
  have f0 := hr.frozen (j := 0) (show 0 < 5 by omega)
  have f1 := hr.frozen (j := 1) (show 1 < 5 by omega)
  obtain ⟨dw, dl, dt, df, de⟩ := d
  simp only at a1 a2 a3 a4 a5 a6 a7 a8
  clear hr hin
  unfold stepC
  simp only
  have hw : dw = 1 ∨ dw = 2 ∨ dw = 4 ∨ (dw = 0 ∨ dw = 3) := by omega
  rcases hw with rfl | rfl | rfl | hw
  · rw [if_pos rfl]
    simp only
    obtain ⟨m, hm⟩ : ∃ m, min dl.toNat l.length = m := ⟨_, rfl⟩
    rw [hm]
    rw [hll] at hm
    have hmI : min dl (n : Int) = (m : Int) := by omega
    have hw1 : IntKind.i64.wrap (dl - (m : Int)) = dl - (m : Int) := IntWalk.i64_in _ ⟨by omega, by omega⟩
    have j1 : m ≤ n := by omega
    have j2 : m ≤ c := by omega
    have hsub := Hin.out.sub (a := 0) (b := m) (by omega) j1 (some ⟨b0, off, none⟩) (fun _ => by simp [add_plain])
    simp only [Nat.sub_zero, Nat.mul_one, List.drop_zero] at hsub
    rw [show (bytesV l).take m = bytesV (l.take m) by simp [bytesV, List.map_take]] at hsub
    have hs3 : SliceIn w w.heap.size 1 (some ⟨b0, off, none⟩) m m (bytesV (l.take m)) := ⟨hsub.1, Nat.le_refl _, by have := hsub.2.2.1; have := hsub.2.1; omega, hsub.2.2.2⟩
    have Hs3 := Lib.hid hs3
    have jI : (m : Int) ≤ (c : Int) := by omega
    clear hsub hs3 hd0
    by_cases hz : dl - (m : Int) = 0
    · rw [if_pos hz, hz]
      have hzb : (dl - (m : Int) == 0) = true := by rw [beq_iff_eq]; exact hz
      go_enter Tryz.func153, Tryz.ntmps153
      go_wp2
      go_ret3
      have SV := ((Save.refl w.heap.size g w).setCell 1 (.int .i64 0)).setCell 0 (.int .i64 2)
      exact ⟨_, _, _, rfl, (Hs3.out.save SV hne).more SV.size, (Hr.out.set_ (j := 1) (show 1 < 5 by omega) _).set_ (j := 0) (show 0 < 5 by omega) _, SV⟩
    · rw [if_neg hz]
      have hzb : (dl - (m : Int) == 0) = false := by rw [beq_eq_false_iff_ne]; exact hz
      go_enter Tryz.func153, Tryz.ntmps153
      go_wp2
      go_ret3
      have SV := (Save.refl w.heap.size g w).setCell 1 (.int .i64 (dl - (m : Int)))
      exact ⟨_, _, _, rfl, (Hs3.out.save SV hne).more SV.size, Hr.out.set_ (j := 1) (show 1 < 5 by omega) _, SV⟩
  · rw [if_neg (by decide), if_pos rfl]
    by_cases h2 : l.length < 2
    · rw [if_pos h2]
      have h2I : (n : Int) < 2 := by omega
      clear h2
      go_enter Tryz.func153, Tryz.ntmps153
      go_wp2
      go_ret3
      exact ⟨_, _, _, rfl, slice_nil _ _, Hr.out, Save.refl _ _ _⟩
    · rw [if_neg h2]
      have h2I : ¬ (n : Int) < 2 := by omega
      have h2J : (1 : Int) < (n : Int) := by omega
      have h2K : (0 : Int) < (n : Int) := by omega
      obtain ⟨x0, hx0⟩ : ∃ x, l[0]? = some x := ⟨_, List.getElem?_eq_getElem (by omega)⟩
      obtain ⟨x1, hx1⟩ : ∃ x, l[1]? = some x := ⟨_, List.getElem?_eq_getElem (by omega)⟩
      have hcells : w.cell? ⟨b0, off, none⟩ = some (.int .u8 x0.toNat) ∧ w.cell? ⟨b0, off + 1, none⟩ = some (.int .u8 x1.toNat) := by
        obtain ⟨b', o', e, _, hc⟩ := Hin.out.2.2.2 (by omega)
        simp only [Option.some.injEq, Addr.mk.injEq, and_true] at e
        obtain ⟨rfl, rfl⟩ := e
        exact ⟨hc 0 (.int .u8 x0.toNat) (by rw [bytesV_get, hx0]; rfl), hc 1 (.int .u8 x1.toNat) (by rw [bytesV_get, hx1]; rfl)⟩
      obtain ⟨c0, c1⟩ := hcells
      rw [hx0, hx1]
      have n2 : 1 < n := by omega
      have n1 : 0 < n := by omega
      have c2 : 1 < c := by omega
      have e13 : ((x0.toNat : Int) == 13) = decide (x0 = 13) := by
        rw [Bool.eq_iff_iff, beq_iff_eq, decide_eq_true_eq]
        exact ⟨fun h => UInt8.toNat_inj.1 (by have : (13 : UInt8).toNat = 13 := rfl; omega), fun h => by subst h; rfl⟩
      have e10 : ((x1.toNat : Int) == 10) = decide (x1 = 10) := by
        rw [Bool.eq_iff_iff, beq_iff_eq, decide_eq_true_eq]
        exact ⟨fun h => UInt8.toNat_inj.1 (by have : (10 : UInt8).toNat = 10 := rfl; omega), fun h => by subst h; rfl⟩
      clear hx0 hx1 h2 hd0
      by_cases h13 : x0 = 13
      · by_cases h10 : x1 = 10
        · subst h13 h10
          rw [if_neg (by simp)]
          go_enter Tryz.func153, Tryz.ntmps153
          go_wp2
          go_ret3
          exact ⟨_, _, _, rfl, slice_nil _ _, Hr.out.set_ (j := 0) (show 0 < 5 by omega) _, (Save.refl _ _ _).setCell _ _⟩
        · rw [if_pos (.inr fun h => h10 (Option.some.inj h))]
          rw [decide_eq_false h10] at e10
          rw [decide_eq_true h13] at e13
          have n10 : ((x1.toNat : Int) != 10) = true := by rw [bne, e10]; rfl
          have n13 : ((x0.toNat : Int) != 13) = false := by rw [bne, e13]; rfl
          clear h13 h10
          go_enter Tryz.func153, Tryz.ntmps153
          go_wp2
          go_ret3
          exact ⟨_, _, _, rfl, slice_nil _ _, Hr.out, Save.refl _ _ _⟩
      · rw [if_pos (.inl fun h => h13 (Option.some.inj h))]
        rw [decide_eq_false h13] at e13
        have n13 : ((x0.toNat : Int) != 13) = true := by rw [bne, e13]; rfl
        clear h13 e10
        go_enter Tryz.func153, Tryz.ntmps153
        go_wp2
        go_ret3
        exact ⟨_, _, _, rfl, slice_nil _ _, Hr.out, Save.refl _ _ _⟩
  · rw [if_neg (by decide), if_neg (by decide), if_pos rfl]
    clear hd0
    go_enter Tryz.func153, Tryz.ntmps153
    go_wp2
    go_ret3
    exact ⟨_, _, _, rfl, slice_nil _ _, Hr.out, Save.refl _ _ _⟩
  · rw [if_neg (by omega), if_neg (by omega), if_neg (by omega)]
    have LN := cline_any b0 off n c w.heap.size l w Hin.out (by omega)
    have hls := lineC_size l
    obtain ⟨s, k, e, hL⟩ : ∃ s k e, lineC l = (s, k, e) := ⟨_, _, _, rfl⟩
    rw [hL] at LN hls ⊢
    simp only at LN hls ⊢
    have HL := Lib.hid hL
    clear hL
    by_cases he : e = 0
    · subst he
      by_cases hk : k = 0
      · subst hk
        rw [if_pos (.inr rfl)]
        replace LN := Lib.hid LN
        clear hd0
        rcases hw with rfl | rfl
        all_goals
          go_enter Tryz.func153, Tryz.ntmps153
          go_wp2_with (go_at_call 171; refine LN.out.mono ?_; rintro e w2 ⟨rfl, hb2⟩; have R2 := Lib.hid (Hr.out.below hb2 hgl); have S2 := Lib.hid (below_save (g := g) hb2); clear hb2)
          go_ret3
          exact ⟨_, _, _, rfl, slice_nil _ _, R2.out, S2.out⟩
      · rw [if_neg (by simp [hk])]
        have hkb : ((k : Int) == 0) = false := by rw [beq_eq_false_iff_ne]; omega
        obtain ⟨S, hS⟩ : ∃ S : ByteArray, (⟨s.toArray⟩ : ByteArray) = S := ⟨_, rfl⟩
        have hSl : S.data.toList = s := by rw [← hS]
        have hSz : S.size ≤ 100000000 := by rw [← data_len, hSl]; omega
        rw [hS] at LN
        replace LN := Lib.hid LN
        have BG := fun w2 (hb : Below w.heap.size w w2) => cbegin_any g _ S w2 (Hr.out.below hb hgl) hd0 (by omega)
        have TA := fun w2 (hb : Below w.heap.size w w2) => ctail_any g _ S w2 (shaped_below hsh hb) (Hr.out.below hb hgl) hd0 hSz
        rw [hSl] at BG TA
        replace BG := Lib.hid BG
        replace TA := Lib.hid TA
        clear hS hSl HL hls hd0
        have d0k : ∀ w2, Below w.heap.size w w2 → w2.cell? ⟨g, 0, none⟩ = some (.int .i64 dw) := fun w2 hb => (Hr.out.below hb hgl).cell (j := 0) rfl
        rcases hw with rfl | rfl
        · rw [if_pos rfl]
          go_enter Tryz.func153, Tryz.ntmps153
          go_wp2_with (first
            | (go_at_call 171; refine LN.out.mono ?_; rintro e w2 ⟨rfl, hb2⟩; have d2 := d0k w2 hb2; have B2 := Lib.hid hb2; clear hb2)
            | (go_at_call 172; refine (BG.out _ B2.out).mono ?_; rintro e w3 ⟨rfl, hr3, hs3⟩; have R3 := Lib.hid hr3; have S3 := Lib.hid ((below_save (g := g) B2.out).trans (hs3.mono B2.out.size)); clear hr3 hs3))
          go_ret3
          exact ⟨_, _, _, rfl, slice_nil _ _, R3.out, S3.out⟩
        · rw [if_neg (by decide)]
          go_enter Tryz.func153, Tryz.ntmps153
          go_wp2_with (first
            | (go_at_call 171; refine LN.out.mono ?_; rintro e w2 ⟨rfl, hb2⟩; have d2 := d0k w2 hb2; have B2 := Lib.hid hb2; clear hb2)
            | (go_at_call 173; refine (TA.out _ B2.out).mono ?_; rintro e w3 ⟨rfl, hr3, hs3⟩; have R3 := Lib.hid hr3; have S3 := Lib.hid ((below_save (g := g) B2.out).trans (hs3.mono B2.out.size)); clear hr3 hs3))
          go_ret3
          exact ⟨_, _, _, rfl, slice_nil _ _, R3.out, S3.out⟩
    · rw [if_pos (.inl he)]
      have neb : (e != 0) = true := by rw [bne_iff_ne]; exact he
      have neb2 : (e == 0) = false := by rw [beq_eq_false_iff_ne]; exact he
      replace LN := Lib.hid LN
      clear hd0
      rcases hw with rfl | rfl
      all_goals
        go_enter Tryz.func153, Tryz.ntmps153
        go_wp2_with (go_at_call 171; refine LN.out.mono ?_; rintro e w2 ⟨rfl, hb2⟩; have R2 := Lib.hid (Hr.out.below hb2 hgl); have S2 := Lib.hid (below_save (g := g) hb2); clear hb2)
        go_ret3
        exact ⟨_, _, _, rfl, slice_nil _ _, R2.out, S2.out⟩
end Go.Proofs.YtniiadhhefgmcaaGreatDoor

/- Walks of layer 7: octets fed to a decoder; a chunked body, decoded. Conditions: at most 10^8 octets; the decoder's numbers within bounds; the world's shape. -/
namespace Go.Proofs.YtniiadhhefgmcaaGreatDoor
open Go.RowKit IH
set_option maxRecDepth 100000
theorem results_tmp4 {fn : Func} {t u v x : Tmp} (h : fn.results = #[.tmp t, .tmp u, .tmp v, .tmp x]) (tmps : Array Value) (P : Program) (w : World) :
    (results fn tmps).run P w = .ok (.tuple #[tmps.getD t undef, tmps.getD u undef, tmps.getD v undef, tmps.getD x undef]) w := by
  simp [results, h]
theorem ahead_err (out : List UInt8) (a : Nat) (e : Int) (d : Dec) (he : e ≠ 0) : IH.ahead out a (([] : List UInt8), 0, e, d) = ([], 0, e, d) := by unfold IH.ahead; rw [if_pos he]
theorem ahead_ok (out x : List UInt8) (a k : Nat) (d : Dec) : IH.ahead out a (x, k, 0, d) = (out ++ x, a + k, 0, d) := by unfold IH.ahead; rw [if_neg (by simp)]
set_option maxHeartbeats 8000000 in
theorem cfeed_any (g b0 off n c B : Nat) (d : Dec) (l : List UInt8) (w : World) (hB : B ≤ w.heap.size) (hBg : B ≤ g) (hsh : ∀ W, Below B w W → W.ShapedOpen Tryz.prog) (hr : RowAt w g 146 (decV d)) (hd : DecIn d) (hf : d.fault = 0) (hin : SliceIn w w.heap.size 1 (some ⟨b0, off, none⟩) n c (bytesV l)) (hne : b0 ≠ g) (hn : n ≤ 100000000) :
    Calls Tryz.prog 139 #[.pointer (some ⟨g, 0, none⟩), .slice (some ⟨b0, off, none⟩) n c] w fun e w' => ∃ v, e = .returned (.tuple #[v, .int .i64 (run d l).2.1, .bool (decide ((run d l).2.2.1 = 0 ∧ (run d l).2.2.2.w = 4)), .int .i64 (run d l).2.2.1]) ∧ w'.ownsRow w.heap.size 5 1 v (run d l).1.length (bytesV (run d l).1) ∧ RowAt w' g 146 (decV (run d l).2.2.2) ∧ Save w.heap.size g w w' := by
  have hll : l.length = n := by have := hin.1; rw [bytesV_length, Nat.mul_one] at this; exact this
  have hnc := hin.2.1
  have hgl := hr.lt
  obtain ⟨R, hR⟩ : ∃ R, run d l = R := ⟨_, rfl⟩
  rw [hR]
  have HR0 : Hid (R = IH.ahead [] 0 (run d (l.drop 0))) := Lib.hid (by rw [← hR]; exact (ahead_nil _ fun h => ⟨(run_err d l h).1, (run_err d l h).2.1⟩).symm)
  have Hsh := Lib.hid hsh
  have Hin := Lib.hid hin
  have Hll := Lib.hid hll
  have Hr := Lib.hid hr
  have d4 := hr.cell (j := 4) rfl
  rw [hf] at d4
  clear hR hsh hin hll hr
  go_enter Tryz.func139, Tryz.ntmps139
  go_wp2
  clear d4
  go_loopw [8, 9] (fun v i wr => ∃ (a : Nat) (out : List UInt8) (dd : Dec), i = .int .i64 a ∧ a ≤ n ∧ out.length ≤ a ∧ DecIn dd ∧ dd.fault = 0 ∧ R = IH.ahead out a (run dd (l.drop a)) ∧ RowAt wr g 146 (decV dd) ∧ wr.ownsRow w.heap.size 5 1 v out.length (bytesV out) ∧ Save w.heap.size g w wr) (fun _ i _ => n - (intOf i).toNat)
  case atStart => exact ⟨0, [], d, rfl, by omega, by simp, hd, hf, HR0.out, Hr.out, World.ownsRow_nil _ _ _ _, Save.refl _ _ _⟩
  case round =>
    clear HR0 Hr hd hf d
    obtain ⟨a, out, dd, rfl, ha, hout, hdd, hdf, hRa, hrow, hown, hsv⟩ := hrel
    obtain ⟨o2, ho2⟩ : ∃ o2, (if c = a then (some ⟨b0, off, none⟩ : Option Addr) else some ⟨b0, off + a, none⟩) = some ⟨b0, o2, none⟩ := by
      by_cases h : c = a
      · exact ⟨off, by rw [if_pos h]⟩
      · exact ⟨off + a, by rw [if_neg h]⟩
    have hsub := (((Hin.out.save hsv hne).more hsv.size).sub ha (Nat.le_refl n) (some ⟨b0, o2, none⟩) (fun hlt => by rw [← ho2, if_neg (by omega)]; simp [add_plain]))
    simp only [Nat.mul_one] at hsub
    have hdr : (bytesV l).drop a = bytesV (l.drop a) := by simp [bytesV, List.map_drop]
    rw [hdr, List.take_of_length_le (by rw [bytesV_length, List.length_drop]; have := Hll.out; omega)] at hsub
    have ST := cstep_any g b0 o2 (n - a) (c - a) dd (l.drop a) wr (Hsh.out wr ((hsv.mono hB).below hBg)) hrow hdd hsub hne (by omega)
    have hso := step_out dd (l.drop a)
    have hsl := stepC_le (d := dd) (b := l.drop a)
    have hsf := step_fault dd (l.drop a)
    have hsi := step_in hdd (l.drop a)
    rw [run_step] at hRa
    obtain ⟨S, hS⟩ : ∃ S, stepC dd (l.drop a) = S := ⟨_, rfl⟩
    rw [hS] at hRa ST hso hsl hsf hsi
    obtain ⟨x, k, e, d2⟩ := S
    simp only at hRa ST hso hsl hsf hsi
    rw [List.length_drop, Hll.out] at hsl
    have i1 : (a : Int) ≤ (n : Int) := by omega
    have i2 : (0 : Int) ≤ (a : Int) := by omega
    have j1 : a ≤ c := by omega
    have Hsv := Lib.hid hsv
    have Hown := Lib.hid hown
    replace ST := Lib.hid ST
    have hwr : w.heap.size ≤ wr.heap.size := hsv.size
    have key : ∀ w2, Save wr.heap.size g wr w2 → Hid (w2.ownsRow w.heap.size 5 1 u8 out.length (bytesV out)) ∧ Hid (Save w.heap.size g w w2) := fun w2 h2 => ⟨Lib.hid (own_save Hown.out (fun i hi hn => h2.block i hi hn) hgl), Lib.hid (Hsv.out.trans (h2.mono hwr))⟩
    clear hsub hdr hS hsv hown hrow hdd
    by_cases he : e = 0
    · subst he
      rw [if_neg (by simp)] at hRa
      have hdf2 : d2.fault = 0 := by rw [hsf]; exact hdf
      by_cases hk : k = 0
      · subst hk
        rw [if_pos rfl, ahead_ok] at hRa
        obtain rfl : x = [] := List.eq_nil_of_length_eq_zero (by omega)
        rw [List.append_nil, Nat.add_zero] at hRa
        subst hRa
        clear hsf hsi hdf hsl hso
        go_wp2_with (first
          | (go_at_call 153; (with_reducible refine ST.out.mono ?_); rintro e w2 ⟨A, kk, q, rfl, hx2, hr2, hs2⟩; obtain rfl : 0 = kk := (by have := hx2.1; rw [bytesV_length, Nat.mul_one] at this; exact this); obtain ⟨O2, S2⟩ := key w2 hs2; have R2 := Lib.hid hr2; have X2 := Lib.hid hx2; have c0 := hr2.cell (j := 0) rfl; have hw2 := Nat.le_trans hwr hs2.size; clear hx2 hr2 hs2)
          | (at_builtin; refine wpList_appS u8_ty rfl _ _ rfl w.heap.size _ _ _ rfl O2.out w2.heap.size _ _ _ _ rfl X2.out (bytesV_one []) (by omega) (by simp only [maxLen]; omega) hw2 ?_; intro v3 w3 hown3 hgr3; have c3 := (row_far R2.out hgr3 O2.out hgl).cell (j := 0) rfl))
        go_region
        go_wp2
        (try simp only [Exit.inBlock, Exit.then]); refine bodyPost_ret (results_tmp4 rfl _ _ _) rfl ?_
        have hdc : (d2.w == 4) = decide (d2.w = 4) := by rw [Bool.eq_iff_iff]; simp
        refine ⟨v3, by simp only []; rw [← hdc]; rfl, ?_, ?_, ?_⟩
        · rw [show bytesV [] = [] from rfl, List.append_nil, Nat.add_zero] at hown3
          exact hown3
        · exact (row_far R2.out hgr3 O2.out hgl).drewN 1
        · exact (S2.out.grown hgr3 hw2 (fun k hk => (O2.out.lt k hk).1)).drewN 1
      · rw [if_neg hk, ahead_ahead, List.drop_drop] at hRa
        have hkb : ((k : Int) == 0) = false := by rw [beq_eq_false_iff_ne]; omega
        have hdd2 := Lib.hid (hsi rfl)
        have hko : x.length ≤ 100000000 := by omega
        obtain ⟨t, ht⟩ : ∃ t : Nat, a + k = t := ⟨_, rfl⟩
        have htI : (a : Int) + (k : Int) = (t : Int) := by omega
        have htn : t ≤ n := by omega
        have htk : a < t := by omega
        rw [ht] at hRa
        have hca : ¬ c = a := by omega
        rw [if_neg hca] at ho2
        obtain rfl : off + a = o2 := by simpa using ho2
        clear ho2
        have HSL := Lib.hid hsl
        have HSO := Lib.hid hso
        have HR := Lib.hid hRa
        clear hsf hsi hdf hRa hsl hso ht
        go_wp2_with (first
          | (go_at_call 153; (with_reducible refine ST.out.mono ?_); rintro e w2 ⟨A, kk, q, rfl, hx2, hr2, hs2⟩; obtain rfl : x.length = kk := (by have := hx2.1; rw [bytesV_length, Nat.mul_one] at this; exact this); obtain ⟨O2, S2⟩ := key w2 hs2; have R2 := Lib.hid hr2; have X2 := Lib.hid hx2; have c0 := hr2.cell (j := 0) rfl; have hw2 := Nat.le_trans hwr hs2.size; clear hx2 hr2 hs2)
          | (at_builtin; refine wpList_appS u8_ty rfl _ _ rfl w.heap.size _ _ _ rfl O2.out w2.heap.size _ _ _ _ rfl X2.out (bytesV_one _) (by omega) (by simp only [maxLen]; omega) hw2 ?_; intro v3 w3 hown3 hgr3))
        go_roundw
        case rel =>
          have hsl := HSL.out
          have hso := HSO.out
          refine ⟨t, out ++ x, d2, rfl, htn, by rw [List.length_append]; omega, hdd2.out, hdf2, HR.out, row_far R2.out hgr3 O2.out hgl, ?_, ?_⟩
          · rw [bytesV_append, List.length_append]; exact hown3
          · exact S2.out.grown hgr3 hw2 (fun k hk => (O2.out.lt k hk).1)
        case measure => simp [intOf]; omega
    · rw [if_pos he, ahead_err _ _ _ _ he] at hRa
      subst hRa
      have hneb : (e != 0) = true := by rw [bne_iff_ne]; exact he
      clear hsf hsi hdf hsl hso
      go_wp2_with (go_at_call 153; (with_reducible refine ST.out.mono ?_); rintro e w2 ⟨A, kk, q, rfl, hx2, hr2, hs2⟩; obtain ⟨O2, S2⟩ := key w2 hs2; have R2 := Lib.hid hr2; have c4 := hr2.cell (j := 4) rfl; have f4 := hr2.frozen (j := 4) (show 4 < 5 by omega); clear hx2 hr2 hs2)
      (try simp only [Exit.inBlock, Exit.then]); refine bodyPost_ret (results_tmp4 rfl _ _ _) rfl ?_
      refine ⟨_, by simp, World.ownsRow_nil _ _ _ _, R2.out.set_ (j := 4) (show 4 < 5 by omega) _, S2.out.setCell _ _⟩
end Go.Proofs.YtniiadhhefgmcaaGreatDoor

