/- Walk of layer 3: a header, read. Condition: at most 10^9 octets; the world's shape. -/
import Derived.Test.YtefoaldpllnijaaDoorFie10
import Derived.Test.YtefoaldpllnijaaDoorFie3
namespace Go.Proofs.YtefoaldpllnijaaDoor
open Go.RowKit IH
set_option maxRecDepth 100000
theorem lineRes_none {N a : Nat} {l : List UInt8} {e : Int} (h : lineF N a l = (none, e)) : lineRes N a l = ([], 0, e) := by unfold lineRes; rw [h]
theorem lineRes_some {N a : Nat} {l s : List UInt8} {e : Int} (h : lineF N a l = (some s, e)) : lineRes N a l = (s, (a : Int) + s.length + 2, 0) := by unfold lineRes; rw [h]
theorem lineF_err {N a : Nat} {l : List UInt8} {e : Int} (h : lineF N a l = (none, e)) : e = 11 ∨ e = 12 := by
  unfold lineF at h
  split at h
  · simp only [Prod.mk.injEq, true_and] at h
    split at h
    · exact .inr h.symm
    · exact .inl h.symm
  · split at h
    · simp only [Prod.mk.injEq, true_and] at h
      exact .inr h.symm
    · cases h
/-- One step of the reading. -/
theorem parseF_step {N a : Nat} {l s : List UInt8} {out : List Fld} (h : lineF N a l = (some s, 0)) (hs : s ≠ []) :
    parseF (l.length + 1) N a l out = match headF s with
      | none => ([], 0, 10)
      | some f => if out.length = 128 then ([], 0, 13) else parseF ((l.drop (s.length + 2)).length + 1) N (a + s.length + 2) (l.drop (s.length + 2)) (out ++ [f]) := by
  have hle := lineF_le h
  conv => lhs; unfold parseF
  rw [h]
  simp only
  rw [if_neg hs]
  cases headF s with
  | none => rfl
  | some f =>
    simp only
    split
    · rfl
    · exact parseF_more _ _ _ _ _ _ (by rw [List.length_drop]; omega) (Nat.lt_succ_self _)
theorem headF_none_of {s : List UInt8} (h : 58 ∉ s) : headF s = none := by unfold headF; rw [if_neg h]
theorem headF_of {s : List UInt8} (h : 58 ∈ s) : headF s = if fit (s.takeWhile (· != 58), trim ((s.dropWhile (· != 58)).drop 1)) = true then some (s.takeWhile (· != 58), trim ((s.dropWhile (· != 58)).drop 1)) else none := by unfold headF; rw [if_pos h]
theorem trim_le (l : List UInt8) : (trim l).length ≤ l.length := by
  have h1 : ∀ l : List UInt8, (trimL l).length ≤ l.length := fun l => (List.dropWhile_suffix _).length_le
  unfold trim trimR
  have h2 := h1 (trimL l.reverse).reverse
  have h3 := h1 l.reverse
  rw [List.length_reverse] at h2 h3
  omega
theorem lineF_ok {N a : Nat} {l s : List UInt8} {e : Int} (h : lineF N a l = (some s, e)) : e = 0 := by
  unfold lineF at h
  split at h
  · cases h
  · split at h
    · cases h
    · simp only [Prod.mk.injEq] at h
      exact h.2.symm
/-- What is cut at the colon: ahead, behind; is there one? -/
def cut58 (s : List UInt8) : List UInt8 × List UInt8 × Bool := if 58 ∈ s then (s.takeWhile (· != 58), (s.dropWhile (· != 58)).drop 1, true) else (s, [], false)
theorem headF_cut (s : List UInt8) : headF s = if (cut58 s).2.2 = true ∧ fit ((cut58 s).1, trim (cut58 s).2.1) = true then some ((cut58 s).1, trim (cut58 s).2.1) else none := by
  unfold cut58
  by_cases h : 58 ∈ s
  · rw [if_pos h, headF_of h]
    simp
  · rw [if_neg h, headF_none_of h]
    simp
theorem cut_len (s : List UInt8) : (cut58 s).1.length ≤ s.length ∧ (cut58 s).2.1.length ≤ s.length := by
  unfold cut58
  split
  · have h1 := (List.takeWhile_prefix (l := s) (· != (58 : UInt8))).length_le
    have h2 := (List.dropWhile_suffix (l := s) (· != (58 : UInt8))).length_le
    simp only [List.length_drop]
    omega
  · simp
theorem cut_val {W : World} {B g n C : Nat} {s : List UInt8} (h : SliceIn W B 1 (some ⟨g, 0, none⟩) n C (bytesV s)) :
    ∃ A4 n4 C4 A5 n5 C5, Lib.cutV (some ⟨g, 0, none⟩) n C 1 (Lib.index s [58]) = .tuple #[.slice A4 n4 C4, .slice A5 n5 C5, .bool (cut58 s).2.2] ∧ SliceIn W B 1 A4 n4 C4 (bytesV (cut58 s).1) ∧ SliceIn W B 1 A5 n5 C5 (bytesV (cut58 s).2.1) := by
  have hl : s.length = n := by have := h.1; rw [bytesV_length, Nat.mul_one] at this; exact this
  unfold cut58
  by_cases hm : 58 ∈ s
  · rw [if_pos hm, (index_one s 58).2 hm]
    have hj : (s.takeWhile (· != 58)).length + 1 ≤ s.length := by
      obtain ⟨a, b, rfl, ha⟩ := List.eq_append_cons_of_mem hm
      have ha' : ∀ x ∈ a, x ≠ 58 := fun x hx e => ha (e ▸ hx)
      rw [(takeWhile_to ha').1]
      simp
    have hsp : s.takeWhile (· != 58) ++ s.dropWhile (· != 58) = s := List.takeWhile_append_dropWhile
    obtain ⟨x, hx⟩ : ∃ x, s.takeWhile (· != 58) = x := ⟨_, rfl⟩
    obtain ⟨y, hy⟩ : ∃ y, s.dropWhile (· != 58) = y := ⟨_, rfl⟩
    rw [hx] at hj hsp ⊢
    rw [hy] at hsp ⊢
    have e1 : s.take x.length = x := by rw [← hsp, List.take_left']; rfl
    have e2 : s.drop (x.length + 1) = y.drop 1 := by rw [← hsp, ← List.drop_drop, List.drop_left']; rfl
    have hc := h.2.1
    have h1 := h.sub (a := 0) (b := x.length) (Nat.zero_le _) (by omega) (some ⟨g, 0, none⟩) (fun _ => by simp [add_plain])
    have h2 := h.sub (a := x.length + 1) (b := n) (by omega) (Nat.le_refl _) (if C = x.length + 1 then some ⟨g, 0, none⟩ else some ⟨g, x.length + 1, none⟩) (fun hlt => by rw [if_neg (by omega)]; simp [add_plain])
    simp only [Nat.mul_one, Nat.sub_zero, List.drop_zero] at h1 h2
    rw [show (bytesV s).take x.length = bytesV x by unfold bytesV; rw [← List.map_take, e1]] at h1
    rw [show ((bytesV s).drop (x.length + 1)).take (n - (x.length + 1)) = bytesV (y.drop 1) by
      unfold bytesV
      rw [← List.map_drop, ← List.map_take, e2, List.take_of_length_le]
      have := congrArg List.length e2
      rw [List.length_drop, hl] at this
      omega] at h2
    refine ⟨some ⟨g, 0, none⟩, x.length, C, _, _, _, ?_, h1, h2⟩
    unfold Lib.cutV Lib.fromV
    rw [if_pos (by omega), Int.toNat_natCast]
    simp only [Option.map_some, add_plain, Nat.zero_add]
  · rw [if_neg hm, (index_one s 58).1 hm]
    exact ⟨_, _, _, none, 0, 0, rfl, h, SliceIn.none_ (Nat.zero_le _)⟩
theorem emp_list {s : ByteArray} {l : List UInt8} (h : s.data.toList = l) (hl : l ≠ []) : s.toList.isEmpty = false := by
  rw [ByteArray.toList_eq, h, List.isEmpty_eq_false_iff]; exact hl
set_option maxHeartbeats 4000000 in
theorem fparse_any (b0 off n c : Nat) (l : List UInt8) (w : World) (hsh : w.ShapedOpen Tryd.prog) (hin : SliceIn w w.heap.size 1 (some ⟨b0, off, none⟩) n c (bytesV l)) (hn : n ≤ 1000000000) :
    Calls Tryd.prog 95 #[.slice (some ⟨b0, off, none⟩) n c] w fun e w' => ∃ v, e = .returned (.tuple #[v, .int .i64 (parseFs l).2.1, .int .i64 (parseFs l).2.2]) ∧ w'.ownsRow w.heap.size 72 2 v (parseFs l).1.length (fldsV (parseFs l).1) ∧ Below w.heap.size w w' := by
  have hll : l.length = n := by have := hin.1; rw [bytesV_length, Nat.mul_one] at this; exact this
  obtain ⟨U, hU⟩ : ∃ U, parseFs l = U := ⟨_, rfl⟩
  rw [hU]
  have HU0 : Hid (U = parseF ((l.drop 0).length + 1) n 0 (l.drop 0) []) := Lib.hid (by rw [← hU, ← hll]; rfl)
  have Hsh := Lib.hid hsh
  have Hin := Lib.hid hin
  have Hll := Lib.hid hll
  clear hU hsh hin hll
  go_enter Tryd.func95, Tryd.ntmps95
  go_wp2
  go_loopw [5, 6] (fun v i wr => ∃ (a : Nat) (out : List Fld), i = .int .i64 a ∧ a ≤ n ∧ out.length ≤ 128 ∧ U = parseF ((l.drop a).length + 1) n a (l.drop a) out ∧ wr.ownsRow w.heap.size 72 2 v out.length (fldsV out) ∧ Below w.heap.size w wr) (fun _ i _ => n - (intOf i).toNat)
  case atStart => exact ⟨0, [], rfl, by omega, by simp, HU0.out, World.ownsRow_nil _ _ _ _, Below.refl _ _⟩
  case round =>
    clear HU0
    obtain ⟨a, out, rfl, ha, hout, hat, hrow, hbel⟩ := hrel
    have Hrow := Lib.hid hrow
    have Hbel := Lib.hid hbel
    have LN := line_any b0 off n c l a wr (shaped_below Hsh.out hbel) ((Hin.out.below hbel).more hbel.size) ha hn
    clear hrow hbel
    have hdl : (l.drop a).length = n - a := by rw [List.length_drop, Hll.out]
    cases hlf : lineF n a (l.drop a) with
    | mk so e0 =>
      cases so with
      | none =>
        rw [lineRes_none hlf] at LN
        have hu : U = ([], 0, e0) := by rw [hat]; unfold parseF; rw [hlf]
        have HU := Lib.hid hu
        replace LN := Lib.hid LN
        have he := lineF_err hlf
        clear hu hat hlf hdl
        rcases he with rfl | rfl
        all_goals
          go_wp2_with (go_at_call 107; refine LN.out.mono ?_; rintro e w2 ⟨rfl, hb2⟩)
          go_ret3
          exact ⟨_, by rw [HU.out]; rfl, by rw [HU.out]; exact World.ownsRow_nil _ _ _ _, below_step Hbel.out hb2⟩
      | some s =>
        obtain rfl := lineF_ok hlf
        rw [lineRes_some hlf] at LN
        have hle := lineF_le hlf
        rw [hdl] at hle
        obtain ⟨S, hS⟩ : ∃ S : ByteArray, (⟨s.toArray⟩ : ByteArray) = S := ⟨_, rfl⟩
        have hSd : S.data.toList = s := by rw [← hS]
        have hSs : S.size = s.length := by rw [← hS, size_mk]
        rw [hS] at LN
        simp only at LN
        by_cases hs : s = []
        · subst hs
          have hE : S.toList = [] := by rw [ByteArray.toList_eq, hSd]
          have hu : U = (out, (a : Int) + 2, 0) := by rw [hat]; unfold parseF; rw [hlf]; simp
          have HU := Lib.hid hu
          have hz : (a : Int) + (([] : List UInt8).length : Int) + 2 = (a : Int) + 2 := by simp
          rw [hz] at LN
          replace LN := Lib.hid LN
          clear hu hat hlf hdl hS hSd hSs hle hz
          go_wp2_with (go_at_call 107; refine LN.out.mono ?_; rintro e w2 ⟨rfl, hb2⟩)
          go_ret3
          exact ⟨_, by rw [HU.out]; rfl, by rw [HU.out]; exact own_below Hrow.out hb2, below_step Hbel.out hb2⟩
        · have hE := emp_list hSd hs
          rw [parseF_step hlf hs, headF_cut, List.drop_drop, ← Nat.add_assoc] at hat
          have hcl := cut_len s
          obtain ⟨t, ht⟩ : ∃ t : Int, (a : Int) + (s.length : Int) = t := ⟨_, rfl⟩
          obtain ⟨next, hnx⟩ : ∃ next : Nat, a + s.length + 2 = next := ⟨_, rfl⟩
          rw [hnx] at hat
          have hnI : t + 2 = (next : Int) := by omega
          have hnb : next ≤ n := by omega
          have hna : a < next := by omega
          rw [ht, hnI] at LN
          have hSb : S.size ≤ 1000000000 := by omega
          obtain ⟨x, hx⟩ : ∃ x, (cut58 s).1 = x := ⟨_, rfl⟩
          obtain ⟨v, hv⟩ : ∃ v, (cut58 s).2.1 = v := ⟨_, rfl⟩
          obtain ⟨ok, hok⟩ : ∃ ok, (cut58 s).2.2 = ok := ⟨_, rfl⟩
          rw [hx, hv] at hcl
          rw [hx, hv, hok] at hat
          have hxl : x.length ≤ 1000000000 := by omega
          have hvl : v.length ≤ 1000000000 := by omega
          have hzl : (trim v).length ≤ 1000000000 := by have := trim_le v; omega
          have HU := Lib.hid hat
          have HX := Lib.hid hx
          have HV := Lib.hid hv
          have HK := Lib.hid hok
          have HSd := Lib.hid hSd
          replace LN := Lib.hid LN
          have kc : ∀ w : World, (convert 22 22 (.slice (some ⟨w.heap.size, 0, none⟩) 1 1)).run Tryd.prog (w.alloc (.cells #[.int .u8 58] 5)) = .ok (.slice (some ⟨w.heap.size, 0, none⟩) 1 1) (w.alloc (.cells #[.int .u8 58] 5 (1, 2))) := fun w => Lib.run_convert_bytes_const (P := Tryd.prog) w 22 5 #[.int .u8 58] 1 1 Tryd.underlying22 Tryd.underlying5
          have TR : ∀ w, Calls Tryd.prog 102 #[.string ⟨v.toArray⟩] w fun e w' => e = .returned (.string ⟨(trim v).toArray⟩) ∧ Below w.heap.size w w' := fun w => Trim_any ⟨v.toArray⟩ (by rw [size_mk]; exact hvl) w
          have FR := fright_any (x, trim v) hxl hzl
          clear hat hlf hdl hS hSs hcl ht hnI hnx hs hSd hx hv hok
          obtain ⟨X, hX⟩ : ∃ X : ByteArray, (⟨x.toArray⟩ : ByteArray) = X := ⟨_, rfl⟩
          obtain ⟨V, hV⟩ : ∃ V : ByteArray, (⟨v.toArray⟩ : ByteArray) = V := ⟨_, rfl⟩
          obtain ⟨Z, hZ⟩ : ∃ Z : ByteArray, (⟨(trim v).toArray⟩ : ByteArray) = Z := ⟨_, rfl⟩
          rw [hV, hZ] at TR
          simp only [hX, hZ] at FR
          have HF : Hid (fldsV [(x, trim v)] = [.string X, .string Z]) := Lib.hid (by rw [← hX, ← hZ]; rfl)
          have HsX := Lib.hid hX
          have HsV := Lib.hid hV
          replace TR := Lib.hid TR
          replace FR := Lib.hid FR
          clear hX hV hZ
          go_upto_region 10 with (first
            | (go_at_call 107; refine LN.out.mono ?_; rintro e w2 ⟨rfl, hb2⟩; have B2 := Lib.hid (below_step Hbel.out hb2); have R2 := Lib.hid (own_below Hrow.out hb2); have hcv := Lib.run_convert_string_bytes (P := Tryd.prog) w2 9 22 5 S Tryd.underlying9 Tryd.underlying22 Tryd.underlying5; have hrw := RowAt.bytes w2 5 S; have hbb := below_bytesWorld w2 5 S; have hcap := Nat.le_trans (Nat.le_refl _) (grownCap_le_maxLen w2 S.size 0 5 (by simp only [maxLen]; omega)); have hcap2 := grownCap_ge w2 S.size 0 5; have Hrw := Lib.hid hrw; have Hbb := Lib.hid hbb; clear hb2 hrw hbb; generalize Lib.bytesWorld w2 5 S = W1 at *; generalize grownCap w2 S.size 0 5 = C1 at *)
            | (go_at_call 108; have hs1 := (Hrw.out.slice (size := 1) (n := S.size) (c := C1) (by rw [bytesV_length, data_len, Nat.mul_one]) hcap2 hcap).alloc (Nat.le_refl _) (.cells #[.int .u8 58] 5 (1, 2)); rw [HSd.out] at hs1; have hs2 := (RowAt.lit W1 5 [.int .u8 58]).slice (size := 1) (n := 1) (c := 1) rfl (Nat.le_refl _) (by simp [maxLen]); obtain ⟨A4, n4, C4, A5, n5, C5, hcut, h4, h5⟩ := cut_val hs1; have B3 := Lib.hid ((below_step B2.out Hbb.out).alloc (below_step B2.out Hbb.out).size (.cells #[.int .u8 58] 5 (1, 2))); have R3 := Lib.hid ((own_below R2.out Hbb.out).alloc (.cells #[.int .u8 58] 5 (1, 2))); have CU := bCut_at w2.heap.size 0 S.size C1 W1.heap.size 0 1 1 s [58] (W1.alloc (.cells #[.int .u8 58] 5 (1, 2))) (shaped_below Hsh.out B3.out) hs1 hs2 hSb (by omega); rw [hcut, HK.out] at CU; rw [HX.out] at h4; rw [HV.out] at h5; refine CU.mono ?_; rintro e w4 ⟨rfl, q, hw4⟩; have B4 : Hid (Below w.heap.size w w4) := Lib.hid (by rw [hw4]; exact below_drewN B3.out q); have R4 : Hid (w4.ownsRow w.heap.size 72 2 u5 out.length (fldsV out)) := Lib.hid (by rw [hw4]; exact R3.out); have H4 : Hid (SliceIn w4 w4.heap.size 1 A4 n4 C4 (bytesV x)) := Lib.hid (by rw [hw4]; exact (h4.drewN q).more (by simp)); have H5 : Hid (SliceIn w4 w4.heap.size 1 A5 n5 C5 (bytesV v)) := Lib.hid (by rw [hw4]; exact (h5.drewN q).more (by simp)); clear hw4 h4 h5 hcut hs1 hs2 CU))
          go_cut [13] from 14 to 59 (fun s13 wx => ∃ gB, s13 = .pointer (some ⟨gB, 0, none⟩) ∧ RowAt wx gB 72 [.string X, .string Z] ∧ Below w4.heap.size w4 wx)
          case first =>
            refine wp_region_tree (fun W => Below w4.heap.size w4 W) (.take 0 (.take 1 (.take 2 (.take 3 (.node (.fork 4 (.take 5 (.node (.fork 6 (.node (.fork 7 (.done) (.stop))) (.stop)))) (.fork 6 (.node (.fork 4 (.take 5 (.node (.fork 7 (.done) (.stop)))) (.stop))) (.stop)))))))) (by kernel_rfl) (by kernel_rfl) (of_decide_eq_true (by kernel_rfl)) rfl (by kernel_rfl) (below_drewN (Below.refl _ _) 1) ?_
            intro w1 hH
            iterate 4
              refine tree_take (v := ?_) rfl (by rfl) ?_ ?_
              rotate_left
              · intro w2 hSw
                have q1 := run_string_of (P := Tryd.prog) (H4.out.below hSw) 22 9 5 Tryd.underlying22 Tryd.underlying5 Tryd.underlying9
                have q2 := run_string_of (P := Tryd.prog) (H5.out.below hSw) 22 9 5 Tryd.underlying22 Tryd.underlying5 Tryd.underlying9
                rw [HsX.out] at q1
                rw [HsV.out] at q2
                clear hSw
                go_simp
                try with_reducible rfl
              try simp only [Act.put, List.setIfInBounds_toArray, List.set_cons_zero, List.set_cons_succ]
            refine tree_node ?_
            refine tree_move rfl (by rfl) (fun K hK => ?_) ?_
            · go_simp
              (with_reducible refine (TR.out _).mono ?_)
              rintro e w5 ⟨rfl, hb2⟩
              refine hK.out _ _ (below_step hH.out hb2) ?_
              try (replace FB := Lib.hid (FB.out.below hb2 FB.out.lt))
              clear hH hK hb2 K
              intro hH
              try simp only [Act.put, List.setIfInBounds_toArray, List.set_cons_zero, List.set_cons_succ]
              iterate 1
                refine tree_take (v := ?_) rfl (by rfl) ?_ ?_
                rotate_left
                · intro w2 hSw
                  have q1 := run_string_of (P := Tryd.prog) (H4.out.below hSw) 22 9 5 Tryd.underlying22 Tryd.underlying5 Tryd.underlying9
                  have q2 := run_string_of (P := Tryd.prog) (H5.out.below hSw) 22 9 5 Tryd.underlying22 Tryd.underlying5 Tryd.underlying9
                  rw [HsX.out] at q1
                  rw [HsV.out] at q2
                  clear hSw
                  go_simp
                  try with_reducible rfl
                try simp only [Act.put, List.setIfInBounds_toArray, List.set_cons_zero, List.set_cons_succ]
              refine tree_node ?_
              refine tree_move rfl (by rfl) (fun K hK => ?_) ?_
              · go_simp
                refine hK.out _ _ (hH.out.alloc hH.out.size _) ?_
                have FB := Lib.hid (row_at hH 72 [.string ⟨#[]⟩, .string ⟨#[]⟩])
                have HG := Lib.hid hH.out.size
                clear hH hK K
                intro hH
                try simp only [Act.put, List.setIfInBounds_toArray, List.set_cons_zero, List.set_cons_succ]
                refine tree_node ?_
                refine tree_move rfl (by rfl) (fun K hK => ?_) ?_
                · refine wp_store_row 72 _ _ rfl _ _ [.string X, .string Z] [.string ⟨#[]⟩, .string ⟨#[]⟩] rfl rfl (row_size FB.out (by simp)) rfl (by kernel_rfl) (by rw [← HF.out]; exact fldsV_one _) ?_
                  intro w7 hr7 ho7
                  refine hK.out _ _ (ho7.below hH.out (by have := HG.out; first | exact this | (simp at this; omega))) ?_
                  have FR7 := Lib.hid hr7
                  clear hK K hr7 ho7 FB HG
                  intro hH
                  try simp only [Act.put]
                  refine tree_done ?_
                  go_wp2_with fail
                  go_meet
                  exact ⟨_, rfl, FR7.out, hH.out⟩
                exact tree_stop
              exact tree_stop
            refine tree_move rfl (by rfl) (fun K hK => ?_) ?_
            · go_simp
              refine hK.out _ _ (hH.out.alloc hH.out.size _) ?_
              have FB := Lib.hid (row_at hH 72 [.string ⟨#[]⟩, .string ⟨#[]⟩])
              have HG := Lib.hid hH.out.size
              clear hH hK K
              intro hH
              try simp only [Act.put, List.setIfInBounds_toArray, List.set_cons_zero, List.set_cons_succ]
              refine tree_node ?_
              refine tree_move rfl (by rfl) (fun K hK => ?_) ?_
              · go_simp
                (with_reducible refine (TR.out _).mono ?_)
                rintro e w5 ⟨rfl, hb2⟩
                refine hK.out _ _ (below_step hH.out hb2) ?_
                try (replace FB := Lib.hid (FB.out.below hb2 FB.out.lt))
                clear hH hK hb2 K
                intro hH
                try simp only [Act.put, List.setIfInBounds_toArray, List.set_cons_zero, List.set_cons_succ]
                iterate 1
                  refine tree_take (v := ?_) rfl (by rfl) ?_ ?_
                  rotate_left
                  · intro w2 hSw
                    have q1 := run_string_of (P := Tryd.prog) (H4.out.below hSw) 22 9 5 Tryd.underlying22 Tryd.underlying5 Tryd.underlying9
                    have q2 := run_string_of (P := Tryd.prog) (H5.out.below hSw) 22 9 5 Tryd.underlying22 Tryd.underlying5 Tryd.underlying9
                    rw [HsX.out] at q1
                    rw [HsV.out] at q2
                    clear hSw
                    go_simp
                    try with_reducible rfl
                  try simp only [Act.put, List.setIfInBounds_toArray, List.set_cons_zero, List.set_cons_succ]
                refine tree_node ?_
                refine tree_move rfl (by rfl) (fun K hK => ?_) ?_
                · refine wp_store_row 72 _ _ rfl _ _ [.string X, .string Z] [.string ⟨#[]⟩, .string ⟨#[]⟩] rfl rfl (row_size FB.out (by simp)) rfl (by kernel_rfl) (by rw [← HF.out]; exact fldsV_one _) ?_
                  intro w7 hr7 ho7
                  refine hK.out _ _ (ho7.below hH.out (by have := HG.out; first | exact this | (simp at this; omega))) ?_
                  have FR7 := Lib.hid hr7
                  clear hK K hr7 ho7 FB HG
                  intro hH
                  try simp only [Act.put]
                  refine tree_done ?_
                  go_wp2_with fail
                  go_meet
                  exact ⟨_, rfl, FR7.out, hH.out⟩
                exact tree_stop
              exact tree_stop
            exact tree_stop
          case rest =>
            obtain ⟨gB, rfl, hrB, hb5⟩ := hcut
            have c0 := hrB.cell (j := 0) rfl
            have c1 := hrB.cell (j := 1) rfl
            have B5 := Lib.hid (below_step B4.out hb5)
            have R5 := Lib.hid (own_below R4.out hb5)
            have HrB := Lib.hid hrB
            clear hrB hb5 TR kc hcap hcap2
            cases ok
            · have hu := HU.out
              rw [if_neg (fun h => by cases h.1)] at hu
              simp only at hu
              have Hu := Lib.hid hu
              clear hu
              go_wp2_with fail
              go_ret3
              exact ⟨_, by rw [Hu.out]; rfl, by rw [Hu.out]; exact World.ownsRow_nil _ _ _ _, B5.out⟩
            · cases hfit : fit (x, trim v)
              · have hu := HU.out
                rw [if_neg (fun h => by rw [hfit] at h; cases h.2)] at hu
                simp only at hu
                have Hu := Lib.hid hu
                rw [hfit] at FR
                clear hu hfit
                go_wp2_with (go_at_call 87; refine (FR.out _).mono ?_; rintro e w6 ⟨rfl, hb6⟩)
                go_ret3
                exact ⟨_, by rw [Hu.out]; rfl, by rw [Hu.out]; exact World.ownsRow_nil _ _ _ _, below_step B5.out hb6⟩
              · have hu := HU.out
                rw [if_pos ⟨rfl, hfit⟩] at hu
                simp only at hu
                rw [hfit] at FR
                by_cases h128 : out.length = 128
                · rw [if_pos h128] at hu
                  have Hu := Lib.hid hu
                  have h128b : ((out.length : Int) == 128) = true := by rw [beq_iff_eq]; omega
                  obtain ⟨AO, CO, rfl, hslO⟩ := own_slice R5.out
                  clear hu hfit h128 hslO
                  go_wp2_with (go_at_call 87; refine (FR.out _).mono ?_; rintro e w6 ⟨rfl, hb6⟩)
                  go_ret3
                  exact ⟨_, by rw [Hu.out]; rfl, by rw [Hu.out]; exact World.ownsRow_nil _ _ _ _, below_step B5.out hb6⟩
                · rw [if_neg h128] at hu
                  have Hu := Lib.hid hu
                  have h128b : ((out.length : Int) == 128) = false := by rw [beq_eq_false_iff_ne]; omega
                  have Hlt : Hid (out.length < 128) := Lib.hid (by omega)
                  obtain ⟨AO, CO, rfl, hslO⟩ := own_slice R5.out
                  clear hu hfit hslO h128
                  go_wp2_with (first
                    | (go_at_call 87; refine (FR.out _).mono ?_; rintro e w6 ⟨rfl, hb6⟩; have d0 := (HrB.out.below hb6 HrB.out.lt).cell (j := 0) rfl; have d1 := (HrB.out.below hb6 HrB.out.lt).cell (j := 1) rfl; have R6 := Lib.hid (own_below R5.out hb6); have B6 := Lib.hid (below_step B5.out hb6); have hB6 := B6.out.size; clear hb6)
                    | (at_builtin; refine wpList_app fld_ty rfl _ _ rfl w.heap.size _ _ _ rfl R6.out 1 1 [.string X, .string Z] rfl (by rfl) (by rw [← HF.out]; exact fldsV_one _) (by omega) (by simp only [maxLen]; omega) hB6 ?_; intro v' w7 hown' hgr))
                  go_roundw
                  case rel =>
                    refine ⟨next, out ++ [(x, trim v)], rfl, hnb, by have := Hlt.out; simp; omega, Hu.out, ?_, B6.out.grown hgr hB6 (fun g hg => (R6.out.lt g hg).1)⟩
                    rw [fldsV_append, List.length_append, HF.out]
                    exact hown'
                  case measure => simp [intOf]; omega
end Go.Proofs.YtefoaldpllnijaaDoor
