/- Layer 19's laws: EntryUnpacks, walked. Condition: none. Printed by mklaw19u.py. -/
import Derived.Test.YtkodeeneljkgeaaDoorEn27
import Derived.Test.YtkodeeneljkgeaaDoorEc
import Derived.Test.YtkodeeneljkgeaaDoorKt
namespace Go.Proofs.YtkodeeneljkgeaaDoor
open Go.RowKit IH
set_option maxRecDepth 100000
theorem runp_any (A : Option Addr) (n c : Nat) (l : List UInt8) (w : World) (hin : SliceIn w w.heap.size 1 A n c (bytesV l)) :
    Calls Tryd.prog 8 #[.slice A n c] w fun x w' =>
      ((unpackE l = none ∧ x = .returned (.tuple #[.agg zeroE.toArray, .bool false])) ∨ (∃ e p, unpackE l = some e ∧ x = .returned (.tuple #[.agg (entC e p).toArray, .bool true]) ∧ EntIn w' w'.heap.size e p)) ∧ Below w.heap.size w w' := by
  have hll : l.length = n := by have := hin.1; rw [bytesV_length] at this; omega
  by_cases h36 : n < 36
  · refine (runp_bad1 A n c w h36).mono ?_
    rintro x w' ⟨rfl, hb⟩
    exact ⟨.inl ⟨unpack_none1 (.inl (by omega)), rfl⟩, hb⟩
  · by_cases h8 : 8000 < n
    · refine (runp_bad2 A n c w h8).mono ?_
      rintro x w' ⟨rfl, hb⟩
      exact ⟨.inl ⟨unpack_none2 (by omega), rfl⟩, hb⟩
    · obtain ⟨b0, off, rfl, hb0, hc⟩ := hin.2.2.2 (by omega)
      cases l with
      | nil => simp at hll; omega
      | cons y l =>
        by_cases h69 : y = 69
        · subst h69
          exact runp_good b0 off n c _ w hin (by omega) (by omega) rfl (fun e r h W p hp => read_ents h W _ p hp)
        · refine (runp_bad3 b0 off n c y w (by have := hc 0 (.int .u8 y.toNat) rfl; exact this) hb0 (by omega) (by omega) h69).mono ?_
          rintro x w' ⟨rfl, hb⟩
          exact ⟨.inl ⟨unpack_none1 (.inr (by simpa using h69)), rfl⟩, hb⟩
def ZE : Entry := ⟨[], [], [], [], [], 0, [], 0, [], 0, 0, 0, 0, 0, []⟩
def ZP : EntA := ⟨none, 0, 0, none, 0, 0, none, 0, 0⟩
theorem ze_in (w : World) : EntIn w w.heap.size ZE ZP := ⟨SliceIn.none_ (Nat.zero_le _), SliceIn.none_ (Nat.zero_le _), SliceIn.none_ (Nat.zero_le _)⟩
theorem ze_cells : entC ZE ZP = zeroE := rfl
set_option maxHeartbeats 8000000 in
theorem eu_1 (A : Option Addr) (n c : Nat) (w : World) (h : 9000 < n) :
    Calls Tryd.prog 3 #[.slice A n c] w fun e w' => e = .returned (.bool true) ∧ Below w.heap.size w w' := by
  have AW := Lib.hid awake19_any
  have hI : (9000 : Int) < (n : Int) := by omega
  go_enter Tryd.func3, Tryd.ntmps3
  go_wp2_with (go_at_call 6; (with_reducible refine (AW.out _).mono ?_); rintro e wz ⟨rfl, rfl⟩)
  go_ret
  exact ⟨rfl, Below.refl _ _⟩
set_option maxHeartbeats 32000000 in
theorem eu_2 (A : Option Addr) (n c : Nat) (L : List UInt8) (w : World) (hin : SliceIn w w.heap.size 1 A n c (bytesV L)) (h : n ≤ 9000)
    (UN : ∀ W g cap, Below w.heap.size w W → g < W.heap.size → SliceIn W W.heap.size 1 (some ⟨g, 0, none⟩) n cap (bytesV L) → Calls Tryd.prog 7 #[.slice (some ⟨g, 0, none⟩) n cap] W fun e w' => e = .returned (.tuple #[.agg zeroE.toArray, .int .i64 10]) ∧ Below W.heap.size W w')
    (RU : ∀ W, Below w.heap.size w W → Calls Tryd.prog 8 #[.slice A n c] W fun e w' => e = .returned (.tuple #[.agg zeroE.toArray, .bool false]) ∧ Below W.heap.size W w')
    (SM : ∀ W, Calls Tryd.prog 9 #[.agg zeroE.toArray, .agg zeroE.toArray] W fun e w' => e = .returned (.bool true) ∧ Below W.heap.size W w') :
    Calls Tryd.prog 3 #[.slice A n c] w fun e w' => e = .returned (.bool true) ∧ Below w.heap.size w w' := by
  have AW := Lib.hid awake19_any
  have hI : (n : Int) ≤ 9000 := by omega
  have HZi : Hid ((Tryd.prog.info? 33).map (·.size) = some zeroE.length) := Lib.hid (by kernel_rfl)
  have HZ1 : Hid (∀ v ∈ zeroE, v.oneCell' = true) := Lib.hid (by simp [zeroE, Value.oneCell'])
  have Hown := Lib.hid (World.ownsRow_lit (base := w.heap.size) (e := 5) (size := 1) w #[] 0 (Nat.le_refl _) (by simp [maxLen]) rfl)
  have Hin2 := Lib.hid (hin.alloc (Nat.le_refl _) (.cells #[] 5))
  obtain ⟨D, hD⟩ : ∃ D, zeroE = D := ⟨_, rfl⟩
  have HDz : Hid (D = zeroE) := Lib.hid hD.symm
  rw [hD] at UN RU SM HZi HZ1
  have HDl : Hid (D.length = 15) := Lib.hid (by rw [← hD]; rfl)
  replace UN := Lib.hid UN
  replace RU := Lib.hid RU
  replace SM := Lib.hid SM
  clear hin hD
  go_enter Tryd.func3, Tryd.ntmps3
  go_wp2_with (first
    | (go_at_call 6; (with_reducible refine (AW.out _).mono ?_); rintro e wz ⟨rfl, rfl⟩)
    | (at_builtin; refine wpList_appN u8_ty rfl _ _ rfl w.heap.size _ 0 [] rfl Hown.out (by intro h; cases h) w.heap.size A n c (bytesV L) rfl Hin2.out (bytesV_one L) (by omega) (by simp only [maxLen]; omega) (by simp) ?_; intro g cap w3 hown' hgr; rw [Nat.zero_add, List.nil_append] at hown'; simp only [Nat.zero_add]; have B3 := Lib.hid (((Below.refl w.heap.size w).alloc (Nat.le_refl _) (.cells #[] 5)).grown hgr (by simp) (fun q hq => (Hown.out.lt q hq).1)); have U3 := Lib.hid (UN.out w3 g cap B3.out (hown'.lt g rfl).2 (SliceIn.of_own hown')); clear hown' hgr)
    | (go_at_call 7; (with_reducible refine U3.out.mono ?_); rintro e' w4 ⟨rfl, hb4⟩; have B4 := Lib.hid (below_step B3.out hb4); have tokA : True := trivial; clear hb4)
    | (have _t := tokA; refine wpList_store_row rfl 33 _ _ rfl w4.heap.size _ D [.string ⟨#[]⟩, .slice none 0 0, .string ⟨#[]⟩, .string ⟨#[]⟩, .string ⟨#[]⟩, .int .i64 0, .string ⟨#[]⟩, .int .i64 0, .slice none 0 0, .int .i64 0, .int .i64 0, .int .i64 0, .int .i64 0, .int .u32 0, .slice none 0 0] rfl rfl (RowAt.new w4 33 _) (by rw [HDl.out]; rfl) HZi.out HZ1.out ?_; intro w5 hro hoo
       have B5 := Lib.hid (below_step B4.out (hoo.below ((Below.refl w4.heap.size w4).alloc (Nat.le_refl _) _) (Nat.le_refl _)))
       have RX := Lib.hid hro
       clear hro hoo tokA _t)
    | (go_at_call 8; (with_reducible refine (RU.out w5 B5.out).mono ?_); rintro e' w6 ⟨rfl, hb6⟩; have B6 := Lib.hid (below_step B5.out hb6); have RY := Lib.hid (RX.out.below hb6 RX.out.lt); have tokB : True := trivial; clear hb6)
    | (have _t := tokB; refine wpList_store_row rfl 33 _ _ rfl w6.heap.size _ D [.string ⟨#[]⟩, .slice none 0 0, .string ⟨#[]⟩, .string ⟨#[]⟩, .string ⟨#[]⟩, .int .i64 0, .string ⟨#[]⟩, .int .i64 0, .slice none 0 0, .int .i64 0, .int .i64 0, .int .i64 0, .int .i64 0, .int .u32 0, .slice none 0 0] rfl rfl (RowAt.new w6 33 _) (by rw [HDl.out]; rfl) HZi.out HZ1.out ?_; intro w7 hro hoo
       have hb7 := hoo.below ((Below.refl w6.heap.size w6).alloc (Nat.le_refl _) _) (Nat.le_refl _)
       have B7 := Lib.hid (below_step B6.out hb7)
       have RZ := Lib.hid (RY.out.below hb7 RY.out.lt)
       clear hro hoo hb7 tokB _t)
    | (refine wpList_load_g (by first | exact wanted_un rfl | exact wanted_yes rfl rfl rfl rfl | exact (wanted_is rfl rfl rfl rfl).trans (by simp; omega)) 33 _ rfl w4.heap.size 0 rfl D _ (rangeOf RZ.out) Tryd.underlying33 rfl HZi.out ?_)
    | (go_at_call 9; rw [show (.agg #[.string ⟨#[]⟩, .slice none 0 0, .string ⟨#[]⟩, .string ⟨#[]⟩, .string ⟨#[]⟩, .int .i64 0, .string ⟨#[]⟩, .int .i64 0, .slice none 0 0, .int .i64 0, .int .i64 0, .int .i64 0, .int .i64 0, .int .u32 0, .slice none 0 0] : Value) = .agg D.toArray by rw [HDz.out]; rfl]; (with_reducible refine (SM.out _).mono ?_); rintro e wp ⟨rfl, hb⟩; have B8 := Lib.hid (below_step B7.out hb); clear hb))
  go_ret
  exact ⟨ret_bool (by simp), B8.out⟩
set_option maxHeartbeats 32000000 in
theorem eu_3 (A : Option Addr) (n c : Nat) (L : List UInt8) (G : List Value → World → Prop) (w : World) (hin : SliceIn w w.heap.size 1 A n c (bytesV L)) (h : n ≤ 9000)
    (UN : ∀ W g cap, Below w.heap.size w W → g < W.heap.size → SliceIn W W.heap.size 1 (some ⟨g, 0, none⟩) n cap (bytesV L) → Calls Tryd.prog 7 #[.slice (some ⟨g, 0, none⟩) n cap] W fun e w' => ∃ D, e = .returned (.tuple #[.agg D.toArray, .int .i64 0]) ∧ G D w' ∧ Below W.heap.size W w')
    (RU : ∀ W, Below w.heap.size w W → Calls Tryd.prog 8 #[.slice A n c] W fun e w' => ∃ D, e = .returned (.tuple #[.agg D.toArray, .bool true]) ∧ G D w' ∧ Below W.heap.size W w')
    (GB : ∀ D W W', G D W → Below W.heap.size W W' → G D W')
    (GC : ∀ D W, G D W → D.length = 15 ∧ ∀ v ∈ D, v.oneCell' = true)
    (SM : ∀ W C D, G C W → G D W → Calls Tryd.prog 9 #[.agg C.toArray, .agg D.toArray] W fun e w' => e = .returned (.bool true) ∧ Below W.heap.size W w') :
    Calls Tryd.prog 3 #[.slice A n c] w fun e w' => e = .returned (.bool true) ∧ Below w.heap.size w w' := by
  have AW := Lib.hid awake19_any
  have hI : (n : Int) ≤ 9000 := by omega
  have Hown := Lib.hid (World.ownsRow_lit (base := w.heap.size) (e := 5) (size := 1) w #[] 0 (Nat.le_refl _) (by simp [maxLen]) rfl)
  have Hin2 := Lib.hid (hin.alloc (Nat.le_refl _) (.cells #[] 5))
  have GI : Hid (∀ D W, G D W → (Tryd.prog.info? 33).map (·.size) = some D.length) := Lib.hid (fun D W h => by rw [(GC D W h).1]; kernel_rfl)
  replace UN := Lib.hid UN
  replace RU := Lib.hid RU
  replace SM := Lib.hid SM
  replace GB := Lib.hid GB
  replace GC := Lib.hid GC
  clear hin
  go_enter Tryd.func3, Tryd.ntmps3
  go_wp2_with (first
    | (go_at_call 6; (with_reducible refine (AW.out _).mono ?_); rintro e wz ⟨rfl, rfl⟩)
    | (at_builtin; refine wpList_appN u8_ty rfl _ _ rfl w.heap.size _ 0 [] rfl Hown.out (by intro h; cases h) w.heap.size A n c (bytesV L) rfl Hin2.out (bytesV_one L) (by omega) (by simp only [maxLen]; omega) (by simp) ?_; intro g cap w3 hown' hgr; rw [Nat.zero_add, List.nil_append] at hown'; simp only [Nat.zero_add]; have B3 := Lib.hid (((Below.refl w.heap.size w).alloc (Nat.le_refl _) (.cells #[] 5)).grown hgr (by simp) (fun q hq => (Hown.out.lt q hq).1)); have U3 := Lib.hid (UN.out w3 g cap B3.out (hown'.lt g rfl).2 (SliceIn.of_own hown')); clear hown' hgr)
    | (go_at_call 7; (with_reducible refine U3.out.mono ?_); rintro e' w4 ⟨D, rfl, hg4, hb4⟩; have B4 := Lib.hid (below_step B3.out hb4); have G4 := Lib.hid hg4; have tokA : True := trivial; clear hb4 hg4)
    | (have _t := tokA; refine wpList_store_row rfl 33 _ _ rfl w4.heap.size _ D [.string ⟨#[]⟩, .slice none 0 0, .string ⟨#[]⟩, .string ⟨#[]⟩, .string ⟨#[]⟩, .int .i64 0, .string ⟨#[]⟩, .int .i64 0, .slice none 0 0, .int .i64 0, .int .i64 0, .int .i64 0, .int .i64 0, .int .u32 0, .slice none 0 0] rfl rfl (RowAt.new w4 33 _) (by rw [(GC.out _ _ G4.out).1]; rfl) (GI.out _ _ G4.out) (GC.out _ _ G4.out).2 ?_; intro w5 hro hoo
       have hb5 := hoo.below ((Below.refl w4.heap.size w4).alloc (Nat.le_refl _) _) (Nat.le_refl _)
       have B5 := Lib.hid (below_step B4.out hb5)
       have G5 := Lib.hid (GB.out _ _ _ G4.out hb5)
       have RX := Lib.hid hro
       clear hro hoo hb5 tokA _t G4)
    | (go_at_call 8; (with_reducible refine (RU.out w5 B5.out).mono ?_); rintro e' w6 ⟨C, rfl, hg6, hb6⟩; have B6 := Lib.hid (below_step B5.out hb6); have G6 := Lib.hid (GB.out _ _ _ G5.out hb6); have H6 := Lib.hid hg6; have RY := Lib.hid (RX.out.below hb6 RX.out.lt); have tokB : True := trivial; clear hb6 hg6 G5)
    | (have _t := tokB; refine wpList_store_row rfl 33 _ _ rfl w6.heap.size _ C [.string ⟨#[]⟩, .slice none 0 0, .string ⟨#[]⟩, .string ⟨#[]⟩, .string ⟨#[]⟩, .int .i64 0, .string ⟨#[]⟩, .int .i64 0, .slice none 0 0, .int .i64 0, .int .i64 0, .int .i64 0, .int .i64 0, .int .u32 0, .slice none 0 0] rfl rfl (RowAt.new w6 33 _) (by rw [(GC.out _ _ H6.out).1]; rfl) (GI.out _ _ H6.out) (GC.out _ _ H6.out).2 ?_; intro w7 hro hoo
       have hb7 := hoo.below ((Below.refl w6.heap.size w6).alloc (Nat.le_refl _) _) (Nat.le_refl _)
       have B7 := Lib.hid (below_step B6.out hb7)
       have RZ := Lib.hid (RY.out.below hb7 RY.out.lt)
       have RC := Lib.hid hro
       have G7 := Lib.hid (GB.out _ _ _ G6.out hb7)
       have H7 := Lib.hid (GB.out _ _ _ H6.out hb7)
       clear hro hoo hb7 tokB _t G6 H6)
    | (refine wpList_load_g (by first | exact wanted_un rfl | exact wanted_yes rfl rfl rfl rfl | exact (wanted_is rfl rfl rfl rfl).trans (by simp; omega)) 33 _ rfl w4.heap.size 0 rfl D _ (rangeOf RZ.out) Tryd.underlying33 rfl (GI.out _ _ G7.out) ?_)
    | (refine wpList_load_g (by first | exact wanted_un rfl | exact wanted_yes rfl rfl rfl rfl | exact (wanted_is rfl rfl rfl rfl).trans (by simp; omega)) 33 _ rfl w6.heap.size 0 rfl C _ (rangeOf RC.out) Tryd.underlying33 rfl (GI.out _ _ H7.out) ?_)
    | (go_at_call 9; (with_reducible refine (SM.out _ _ _ G7.out H7.out).mono ?_); rintro e wp ⟨rfl, hb⟩; have B8 := Lib.hid (below_step B7.out hb); clear hb))
  go_ret
  exact ⟨ret_bool (by simp), B8.out⟩
theorem entc_one' (e : Entry) (p : EntA) : ∀ v ∈ entC e p, v.oneCell' = true := by
  intro v hv
  simp only [entC, List.mem_cons, List.not_mem_nil, or_false] at hv
  rcases hv with rfl | rfl | rfl | rfl | rfl | rfl | rfl | rfl | rfl | rfl | rfl | rfl | rfl | rfl | rfl <;> rfl
theorem eunpacks_walk (w : World) (A : Option Addr) (n c : Nat) (L : List UInt8) (hin : SliceIn w w.heap.size 1 A n c (bytesV L)) :
    Calls Tryd.prog 3 #[.slice A n c] w fun e w' => e = .returned (.bool true) ∧ Below w.heap.size w w' := by
  have hll : L.length = n := by have := hin.1; rw [bytesV_length] at this; omega
  by_cases h9 : 9000 < n
  · exact eu_1 A n c w h9
  · have UA := fun (W : World) (g cap : Nat) (hg : g < W.heap.size) (hs : SliceIn W W.heap.size 1 (some ⟨g, 0, none⟩) n cap (bytesV L)) => unpack_any g 0 n cap L W hs hg (by omega) (fun e r h W p hp => read_ents h W _ p hp)
    have RA := fun (W : World) (hW : Below w.heap.size w W) => runp_any A n c L W ((hin.below hW).more hW.size)
    cases hu : unpackE L with
    | none =>
      refine eu_2 A n c L w hin (by omega) (fun W g cap hW hg hs => (UA W g cap hg hs).mono ?_) (fun W hW => (RA W hW).mono ?_) (fun W => ?_)
      · rintro x w' ⟨⟨_, rfl⟩ | ⟨e, p, h, _⟩, hb⟩
        · exact ⟨rfl, hb⟩
        · rw [hu] at h; cases h
      · rintro x w' ⟨⟨_, rfl⟩ | ⟨e, p, h, _⟩, hb⟩
        · exact ⟨rfl, hb⟩
        · rw [hu] at h; cases h
      · have r := rsame19_any ZE ZE ZP ZP W (ze_in W) (ze_in W) ⟨by decide, by decide, by decide⟩
        rw [sameE_refl, ze_cells] at r
        exact r
    | some e =>
      have hsz : ∃ r, readE L = some (e, r) := by
        unfold unpackE at hu
        cases hr : readE L with
        | none => rw [hr] at hu; cases hu
        | some y =>
          obtain ⟨e', r⟩ := y
          rw [hr] at hu
          simp only at hu
          split at hu
          · simp only [Option.some.injEq] at hu; exact ⟨r, by rw [hu]⟩
          · cases hu
      obtain ⟨r, hr⟩ := hsz
      refine eu_3 A n c L (fun D W => ∃ q, D = entC e q ∧ EntIn W W.heap.size e q) w hin (by omega) (fun W g cap hW hg hs => (UA W g cap hg hs).mono ?_) (fun W hW => (RA W hW).mono ?_) (fun D W W' hG hb => ?_) (fun D W hG => ?_) (fun W C D hC hD => ?_)
      · rintro x w' ⟨⟨h, _⟩ | ⟨e', p, h, rfl, hi⟩, hb⟩
        · rw [hu] at h; cases h
        · rw [hu] at h; simp only [Option.some.injEq] at h; subst h
          exact ⟨_, rfl, ⟨p, rfl, hi⟩, hb⟩
      · rintro x w' ⟨⟨h, _⟩ | ⟨e', p, h, rfl, hi⟩, hb⟩
        · rw [hu] at h; cases h
        · rw [hu] at h; simp only [Option.some.injEq] at h; subst h
          exact ⟨_, rfl, ⟨p, rfl, hi⟩, hb⟩
      · obtain ⟨q, rfl, h⟩ := hG
        exact ⟨q, rfl, h.at_ hb⟩
      · obtain ⟨q, rfl, _⟩ := hG
        exact ⟨rfl, entc_one' e q⟩
      · obtain ⟨p, rfl, hp⟩ := hC
        obtain ⟨q, rfl, hq⟩ := hD
        have sp := read_ents hr W _ p hp
        have k := rsame19_any e e p q W hp hq ⟨by have := sp.n1; omega, by have := sp.n2; omega, by have := sp.n3; omega⟩
        rw [sameE_refl] at k
        exact k
end Go.Proofs.YtkodeeneljkgeaaDoor
