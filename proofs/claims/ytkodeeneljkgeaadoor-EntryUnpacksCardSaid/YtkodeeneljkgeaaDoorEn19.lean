/- Walks of layer 19: octets unpacked as an entry, by the code. Condition: at most 8000 octets. -/
import Derived.Test.YtkodeeneljkgeaaDoorEd
import Derived.Recover
import Derived.Defers
namespace Go.Proofs.YtkodeeneljkgeaaDoor
open Go.RowKit IH
set_option maxRecDepth 100000
theorem readE_first {l : List UInt8} {x : Entry × List UInt8} (h : readE l = some x) : ∃ l1, getN 1 l = some (69, l1) := by
  unfold readE readHead at h
  cases h1 : getN 1 l with
  | none => rw [h1] at h; cases h
  | some y =>
    obtain ⟨m, s⟩ := y
    rw [h1] at h
    simp only at h
    by_cases hm : m = 69
    · subst hm; exact ⟨s, rfl⟩
    · rw [if_pos hm] at h
      cases h
theorem catch_idle19 (p q : Addr) (w : World) :
    CallsD Tryd.prog 18 #[.pointer (some p), .pointer (some q)] .returning w fun e u' w' => e = .returned (.tuple #[]) ∧ u' = .returning ∧ w' = w := by
  refine callsD_of_wpS Tryd.func18 rfl fun c₀ cs hu => ?_
  apply wpS_seq
  apply wpS_region
  simp [wpOpsS, go_sem, recoverD, hu, Tryd.ntmps18, Exit.thenS]
  apply wpS_seq
  apply wpS_region
  simp [wpOpsS, go_sem, Exit.thenS]
  refine wpS_cond (t := false) (by simp [Act.eval, Array.replicate]) ?_
  simp only [Bool.false_eq_true, if_false]
  refine wpS_of_wp (wp_skip ?_)
  cases c₀
  simp_all [bodyPostS, results, Tryd.results18]
set_option maxHeartbeats 8000000 in
theorem unpack_ok (b0 off n c : Nat) (l : List UInt8) (e : Entry) (w : World) (hin : SliceIn w w.heap.size 1 (some ⟨b0, off, none⟩) n c (bytesV l)) (_ : b0 < w.heap.size) (hl : l.length ≤ 8000) (hr : readE l = some (e, [])) (hright : rightE e = true)
    (hes : ∀ W p, EntIn W W.heap.size e p → EntS e p) :
    Calls Tryd.prog 7 #[.slice (some ⟨b0, off, none⟩) n c] w fun x w' => ∃ p, x = .returned (.tuple #[.agg (entC e p).toArray, .int .i64 0]) ∧ EntO w.heap.size w' e p ∧ Below w.heap.size w w' := by
  have hln : l.length = n := by have := hin.1; rw [bytesV_length] at this; omega
  subst hln
  have hmf : ∀ (fn : Fn) (first cap : Array Value) (w : World), (Instr.makeFunc fn first cap).run Tryd.prog w = .ok (.func fn first cap) w := fun _ _ _ _ => rfl
  obtain ⟨l1, hg⟩ := readE_first hr
  obtain ⟨w1, hw1⟩ : ∃ W, ((w.alloc (.cells #[.string ⟨#[]⟩, .slice none 0 0, .string ⟨#[]⟩, .string ⟨#[]⟩, .string ⟨#[]⟩, .int .i64 0, .string ⟨#[]⟩, .int .i64 0, .slice none 0 0, .int .i64 0, .int .i64 0, .int .i64 0, .int .i64 0, .int .u32 0, .slice none 0 0] 33)).alloc (.cells #[.int .i64 0] 34)).alloc (.cells #[.slice (some ⟨b0, off, none⟩) l.length c] 51) = W := ⟨_, rfl⟩
  have B1 : Hid (Below w.heap.size w w1) := Lib.hid (by rw [← hw1]; exact (((Below.refl _ _).alloc (Nat.le_refl _) _).alloc (by simp) _).alloc (by simp; omega) _)
  have hz1 : w1.heap.size = w.heap.size + 3 := by rw [← hw1]; simp
  have HZ1 := Lib.hid hz1
  have RG : Hid (RowAt w1 (w.heap.size + 1 + 1) 51 [.slice (some ⟨b0, off, none⟩) l.length c]) := Lib.hid (by
    rw [← hw1]
    have h := RowAt.new ((w.alloc (.cells #[.string ⟨#[]⟩, .slice none 0 0, .string ⟨#[]⟩, .string ⟨#[]⟩, .string ⟨#[]⟩, .int .i64 0, .string ⟨#[]⟩, .int .i64 0, .slice none 0 0, .int .i64 0, .int .i64 0, .int .i64 0, .int .i64 0, .int .u32 0, .slice none 0 0] 33)).alloc (.cells #[.int .i64 0] 34)) 51 [.slice (some ⟨b0, off, none⟩) l.length c]
    rw [World.size_alloc, World.size_alloc] at h
    exact h)
  have R0 : Hid (RowAt w1 w.heap.size 33 [.string ⟨#[]⟩, .slice none 0 0, .string ⟨#[]⟩, .string ⟨#[]⟩, .string ⟨#[]⟩, .int .i64 0, .string ⟨#[]⟩, .int .i64 0, .slice none 0 0, .int .i64 0, .int .i64 0, .int .i64 0, .int .i64 0, .int .u32 0, .slice none 0 0]) := Lib.hid (by rw [← hw1]; exact ((RowAt.new w 33 [.string ⟨#[]⟩, .slice none 0 0, .string ⟨#[]⟩, .string ⟨#[]⟩, .string ⟨#[]⟩, .int .i64 0, .string ⟨#[]⟩, .int .i64 0, .slice none 0 0, .int .i64 0, .int .i64 0, .int .i64 0, .int .i64 0, .int .u32 0, .slice none 0 0]).alloc _).alloc _)
  have R1 : Hid (RowAt w1 (w.heap.size + 1) 34 [.int .i64 0]) := Lib.hid (by
    rw [← hw1]
    have h := RowAt.new (w.alloc (.cells #[.string ⟨#[]⟩, .slice none 0 0, .string ⟨#[]⟩, .string ⟨#[]⟩, .string ⟨#[]⟩, .int .i64 0, .string ⟨#[]⟩, .int .i64 0, .slice none 0 0, .int .i64 0, .int .i64 0, .int .i64 0, .int .i64 0, .int .u32 0, .slice none 0 0] 33)) 34 [.int .i64 0]
    rw [World.size_alloc] at h
    exact h.alloc _)
  have RD : Rd w.heap.size b0 (w.heap.size + 1 + 1) w1 l := ⟨off, c, RG.out, hin.below B1.out⟩
  have RE : Hid (Calls Tryd.prog 19 #[.pointer (some ⟨w.heap.size + 1 + 1, 0, none⟩)] w1 fun x w' => ∃ p, x = .returned (.agg (entC e p).toArray) ∧ EntO (w1.heap.size + 2) w' e p ∧ Rd w.heap.size b0 (w.heap.size + 1 + 1) w' [] ∧ Save w1.heap.size (w.heap.size + 1 + 1) w1 w') := Lib.hid (by
    refine (rentry_c w.heap.size b0 (w.heap.size + 1 + 1) l l1 w1 RD (by omega) (by omega) (by omega) hg).mono ?_
    rintro x w2 ⟨⟨hx, _⟩ | ⟨x, r, p, hx, rfl, ho, hrd⟩, hs⟩
    · rw [hr] at hx; cases hx
    · rw [hr] at hx
      injection hx with hx
      injection hx with hx1 hx2
      subst hx1 hx2
      exact ⟨p, rfl, ho, hrd, hs⟩)
  have HRT := Lib.hid hright
  have HES := Lib.hid hes
  have h8 : ¬ (8000 : Int) < (l.length : Int) := by omega
  have HSI : Hid ((Tryd.prog.info? 33).map (·.size) = some 15) := Lib.hid (by kernel_rfl)
  clear hin RD hg hr hright hes hz1 RG
  go_enter_defers Tryd.func7, Tryd.ntmps7
  go_wp2_with (first
    | (go_at_call 19; (with_reducible refine RE.out.mono ?_); rintro x w2 ⟨p, rfl, ho, hrd, hs⟩
       obtain ⟨C, hC⟩ : ∃ C, entC e p = C := ⟨_, rfl⟩
       rw [hC]
       have HC := Lib.hid hC
       have HCl : Hid (C.length = 15) := Lib.hid (by rw [← hC]; rfl)
       have HC1 : Hid (∀ v ∈ C, v.oneCell' = true) := Lib.hid (by rw [← hC]; simp [entC, Value.oneCell'])
       have hz := HZ1.out
       have Z2 := Lib.hid (R0.out.save hs (by omega) (by omega))
       have E2 := Lib.hid (R1.out.save hs (by omega) (by omega))
       have O2 := Lib.hid ho
       have S2 := Lib.hid hs
       obtain ⟨o2, k2, hg2, _⟩ := hrd
       have G2 := Lib.hid hg2
       have tok2 : True := trivial
       clear hC hz ho hs hg2 RE)
    | (have _t := tok2; refine wpList_store_row rfl 33 _ _ rfl w.heap.size _ C [.string ⟨#[]⟩, .slice none 0 0, .string ⟨#[]⟩, .string ⟨#[]⟩, .string ⟨#[]⟩, .int .i64 0, .string ⟨#[]⟩, .int .i64 0, .slice none 0 0, .int .i64 0, .int .i64 0, .int .i64 0, .int .i64 0, .int .u32 0, .slice none 0 0] rfl rfl Z2.out (by rw [HCl.out]; rfl) (by rw [HCl.out]; exact HSI.out) HC1.out ?_; intro w3 hr3 ho3
       have hz := HZ1.out
       have R3 := Lib.hid hr3
       have E3 := Lib.hid (E2.out.only ho3 (by omega))
       have O3 := Lib.hid (O2.out.only ho3 (by omega))
       have g3 := (G2.out.only ho3 (by omega)).cell (j := 0) rfl
       have S3 := Lib.hid (show Save w.heap.size (w.heap.size + 1 + 1) w1 w3 from (S2.out.mono (by omega)).trans (below_save (ho3.below (Below.refl w.heap.size w2) (Nat.le_refl _))))
       simp only [List.length_nil] at g3
       have tok3 : True := trivial
       clear hr3 ho3 hz tok2 _t)
    | (have _t := tok3; go_at_call 14; have RT := eright_any e p w3 O3.out.ent (HES.out w3 p O3.out.ent); rw [HRT.out, HC.out] at RT; (with_reducible refine RT.mono ?_); rintro x w4 ⟨rfl, hb4⟩; clear RT
       have R4 := Lib.hid (R3.out.below hb4 R3.out.lt)
       have E4 := Lib.hid (E3.out.below hb4 E3.out.lt)
       have O4 := Lib.hid (O3.out.below hb4)
       have S4 := Lib.hid (S3.out.trans (below_save (hb4.mono (by have := R3.out.lt; omega))))
       have tok4 : True := trivial
       clear hb4 tok3 _t)
    | (have _t := tok4; refine wpList_store_row rfl 33 _ _ rfl w.heap.size _ C C rfl rfl R4.out rfl (by rw [HCl.out]; exact HSI.out) HC1.out ?_; intro w5 hr5 ho5
       have hz := HZ1.out
       have R5 := Lib.hid hr5
       have E5 := Lib.hid (E4.out.only ho5 (by omega))
       have O5 := Lib.hid (O4.out.only ho5 (by omega))
       have e5 := E5.out.cell (j := 0) rfl
       have q5 := E5.out.frozen (j := 0) (by simp)
       have S5 := Lib.hid (S4.out.trans (below_save (ho5.below (Below.refl w.heap.size w4) (Nat.le_refl _))))
       clear hr5 ho5 hz tok4 _t)
    | (refine wpList_load_g (by first | exact wanted_un rfl | exact wanted_yes rfl rfl rfl rfl | exact (wanted_is rfl rfl rfl rfl).trans (by simp; omega)) 33 _ rfl w.heap.size 0 rfl C _ (by first | exact rangeOf R4.out | exact rangeOf R3.out) Tryd.underlying33 rfl (by rw [HCl.out]; exact HSI.out) ?_))
  refine leaves_cons (f := 18) (args := #[.pointer (some ⟨w.heap.size, 0, none⟩), .pointer (some ⟨w.heap.size + 1, 0, none⟩)]) (by simp) (by simp [go_sem]) ?_
  refine (catch_idle19 _ _ _).mono ?_
  rintro e u' w'' ⟨rfl, rfl, rfl⟩
  have hz := HZ1.out
  have OF : Only (w.heap.size + 1) w5 (w5.setCell ⟨w.heap.size + 1, 0, none⟩ (.int .i64 0)) := Only.setCell _ 0 w5 _
  have R6 := R5.out.only OF (by omega)
  have E6 : RowAt (w5.setCell ⟨w.heap.size + 1, 0, none⟩ (.int .i64 0)) (w.heap.size + 1) 34 [.int .i64 0] := E5.out.set_ (j := 0) (by simp) _
  have O6 := O5.out.only OF (by omega)
  have S6 := (B1.out.trans (S5.out.below (by omega))).trans (OF.below (Below.refl w.heap.size w5) (by omega))
  have C6 : World.cell? (w5.setCell ⟨w.heap.size + 1, 0, none⟩ (.int .i64 0)) ⟨w.heap.size + 1, 0, none⟩ = some (.int .i64 0) := E6.cell (j := 0) rfl
  simp only [settle, Leaves]
  refine ⟨_, results_cell2 Tryd.results7 _ _ ⟨w.heap.size, 0, none⟩ ⟨w.heap.size + 1, 0, none⟩ rfl rfl (.agg C.toArray) (.int .i64 0) (run_loadVar_mid _ w.heap.size 0 33 C _ (rangeOf R6) Tryd.underlying33 rfl (by rw [HCl.out]; exact HSI.out)) (by simp [go_sem, C6]), p, by rw [HC.out], ?_, S6⟩
  exact ⟨own_mono O6.names (by omega), own_mono O6.fields (by omega), own_mono O6.body (by omega)⟩
end Go.Proofs.YtkodeeneljkgeaaDoor
