/- slices.Grow of nothing, and slices.Concat, at octets. Conditions: at most 10^6 pieces, of at most 10^7 octets together. -/
import Derived.Test.YteocdpkenlkmbaaGreatDoorCh
namespace Go.Proofs.YteocdpkenlkmbaaGreatDoor
open Go.RowKit IH
set_option maxRecDepth 100000
theorem wpList_append_zeros {P : Program} {w : World} {ops : Array Oper} {rest : List Oper} {o : Oper} {a : Act} {Q : Exit → Act → World → Prop} {t u e : TypeId} (hgd : o.guard = none) (s x : Operand) (ho : o.op = .call { callee := .builtin .append, args := #[s, x], argTypes := #[t, u] })
    (ht : P.underlying t = some (.slice e)) (hu : P.underlying u = some (.int .i64)) (hie : (P.info? e).map (fun i => (i.zero, i.size, i.bytes)) = some (some (.int .u8 0), 1, 1)) (n : Nat) (h0 : 0 < n) (hn : n ≤ 100000000) (hs : a.eval s = .slice none 0 0) (hx : a.eval x = .int .i64 n)
    (h : ∀ g cap w', w'.ownsRow w.heap.size e 1 (.slice (some ⟨g, 0, none⟩) 0 cap) 0 [] → n ≤ cap → cap ≤ maxLen → Below w.heap.size w w' → wpList P ops Q rest (a.put o.dst (.slice (some ⟨g, 0, none⟩) n cap)) w') : wpList P ops Q (o :: rest) a w := by
  obtain ⟨i, hi, hz, hsz, hby⟩ := info_parts hie
  have hge := grownCap_ge w n 0 e
  have hcm : grownCap w n 0 e ≤ maxLen := grownCap_le_maxLen w n 0 e (by simp only [maxLen]; omega)
  have hw : IntKind.i64.wrap (n : Int) = (n : Int) := IntWalk.i64_in _ ⟨by omega, by omega⟩
  have h1 : ¬ ((n : Int) < 0) := by omega
  have h2 : ¬ (281474976710656 < (n : Int)) := by omega
  have h4 : ¬ (9223372036854775807 < (n : Int)) := by omega
  have h5 : ¬ (281474976710656 < Builtin.nextslicecap n 0) := by rw [nextslicecap_zero h0]; omega
  have h6 : n ≠ 0 := by omega
  have hrun : ∃ cur : Array Value, cur.size = grownCap w n 0 e ∧ (Builtin.append_ #[t, u] o.type #[.slice none 0 0, .int .i64 n]).run P w = .ok (.slice (some ⟨w.heap.size, 0, none⟩) n (grownCap w n 0 e)) (w.drew.alloc (.cells cur e)) := by
    refine ⟨Builtin.zeroCells (Value.int IntKind.u8 0).cells n ++ Builtin.zeroCells (Value.int IntKind.u8 0).cells (grownCap w n 0 e - n), ?_, ?_⟩
    · have hz1 : (Value.int IntKind.u8 0).cells.size = 1 := rfl
      simp only [Array.size_append, size_zeroCells, hz1]
      omega
    · simp [Builtin.append_, run_underlying ht, run_underlying hu, sizeOf, typeInfo, zeroValue, hi, hz, hsz, hby, hw, h1, h2, h4, h5, h6, asInt, asIntOf, Question.forced, run_firstCells_none, newRow, grownCap]
  obtain ⟨cur, hcur, hrun⟩ := hrun
  refine wpList_plain hgd fun K hK => ?_
  unfold Oper.wp execOp
  simp only [ho, resolve, invoke, builtin, Sem.run_bind, Sem.run_pure, Result.andThen_ok, List.map_toArray, List.map_cons, List.map_nil, hs, hx, hrun]
  exact hK _ _ (h _ _ _ (World.ownsRow_made (base := w.heap.size) w.drew cur _ (Nat.le_refl _) hcm (by rw [hcur, Nat.mul_one])) hge hcm ((below_drewN (Below.refl _ _) 1).alloc (Nat.le_refl _) _))
theorem total_snoc {L : List (List UInt8)} {k : Nat} {p : List UInt8} (h : L[k]? = some p) : IH.total (L.take (k + 1)) = IH.total (L.take k) + p.length := by
  rw [List.take_add_one, h]
  simp [IH.total]
theorem flat_snoc {L : List (List UInt8)} {k : Nat} {p : List UInt8} (h : L[k]? = some p) : (L.take (k + 1)).flatten = (L.take k).flatten ++ p := by
  rw [List.take_add_one, h]; simp
theorem flat_len (L : List (List UInt8)) : L.flatten.length = IH.total L := by simp [IH.total, List.length_flatten]
set_option maxHeartbeats 4000000 in
theorem grow_any (n : Nat) (hn : n ≤ 100000000) (w : World) :
    Calls Tryz.prog 124 #[.slice none 0 0, .int .i64 n] w fun e w' => ∃ v, e = .returned v ∧ w'.ownsRow w.heap.size 5 1 v 0 [] ∧ Below w.heap.size w w' := by
  have h1 : ¬ ((n : Int) < 0) := by omega
  have hw : IntKind.i64.wrap (n : Int) = (n : Int) := IntWalk.i64_in _ ⟨by omega, by omega⟩
  by_cases h0 : n = 0
  · subst h0
    go_enter Tryz.func124, Tryz.ntmps124
    go_wp2
    go_ret
    exact ⟨_, rfl, World.ownsRow_nil _ _ _ _, Below.refl _ _⟩
  · have h0' : 0 < n := by omega
    have h0I : (0 : Int) < (n : Int) := by omega
    have H0 := Lib.hid h0'
    clear h0 h0'
    go_enter Tryz.func124, Tryz.ntmps124
    go_wp2_with (at_builtin; refine wpList_append_zeros rfl _ _ rfl Tryz.underlying38 Tryz.underlying3 (by kernel_rfl) n H0.out hn rfl rfl ?_; intro g cap w2 hown hnc hcm hb2; have O2 := Lib.hid hown; have B2 := Lib.hid hb2; have z1 : (0 : Int) ≤ (cap : Int) := (by omega); clear hown hb2)
    go_ret
    exact ⟨_, rfl, O2.out, B2.out⟩
set_option maxHeartbeats 8000000 in
theorem concat_any (A : Option Addr) (n c : Nat) (L : List (List UInt8)) (V : List Value) (w : World) (hin : SliceIn w w.heap.size 1 A n c V) (hR : PiecesR w w.heap.size L V) (hn : n ≤ 1000000) (ht : IH.total L ≤ 10000000) :
    Calls Tryz.prog 90 #[.slice A n c] w fun e w' => ∃ v, e = .returned v ∧ w'.ownsRow w.heap.size 5 1 v L.flatten.length (bytesV L.flatten) ∧ Below w.heap.size w w' := by
  have hL : L.length = n := by have h1 := hin.1; have h2 := hR.1; omega
  have hnc := hin.2.1
  have GR := Lib.hid (grow_any (IH.total L) (by omega) w)
  have Hin := Lib.hid hin
  have HR := Lib.hid hR
  have HL := Lib.hid hL
  have HT := Lib.hid ht
  clear hin hR hL ht
  go_enter Tryz.func90, Tryz.ntmps90
  go_wp2
  go_loopw [3, 11] (fun sz i wr => ∃ k : Nat, i = .int .i64 k ∧ k ≤ n ∧ sz = .int .i64 (IH.total (L.take k)) ∧ w = wr) (fun _ i _ => n - (intOf i).toNat)
  case atStart => exact ⟨0, rfl, by omega, by simp [IH.total], by first | rfl | trivial⟩
  case round =>
    obtain ⟨k, rfl, hk, rfl, hwr⟩ := hrel
    subst hwr
    have htk := total_take L k
    by_cases hlt : k < n
    · obtain ⟨p, hp⟩ : ∃ p, L[k]? = some p := ⟨_, List.getElem?_eq_getElem (by rw [HL.out]; exact hlt)⟩
      obtain ⟨b, off, A', c', rfl, hb, hcell, hs⟩ := piece_at Hin.out HR.out hp
      have hsn := total_snoc hp
      have htk2 := total_take L (k + 1)
      have HN := Lib.hid hsn
      obtain ⟨tk, htkE⟩ : ∃ x, IH.total (L.take k) = x := ⟨_, rfl⟩
      obtain ⟨pl, hpl⟩ : ∃ x, p.length = x := ⟨_, rfl⟩
      have hsm : tk + pl ≤ 10000000 := by have := HT.out; omega
      rw [htkE, hpl] at HN
      rw [hpl] at hcell
      rw [htkE]
      have hadd : IntKind.i64.wrap ((tk : Int) + (pl : Int)) = (tk : Int) + (pl : Int) := IntWalk.i64_in _ ⟨by omega, by omega⟩
      have hneg : ¬ ((tk : Int) + (pl : Int) < 0) := by omega
      clear hsn hp hs hb htk htk2 htkE hpl
      go_wp2
      go_roundw
      case rel => exact ⟨k + 1, by go_num, by omega, by rw [HN.out]; go_num, by first | rfl | trivial⟩
      case measure => simp [intOf]; omega
    · obtain rfl : k = n := by omega
      rw [List.take_of_length_le (by rw [HL.out]; exact Nat.le_refl _)]
      clear hlt htk
      go_wp2_with (go_at_call 124; (with_reducible refine GR.out.mono ?_); rintro e w2 ⟨v2, rfl, ho2, hb2⟩; have O2 := Lib.hid ho2; have B2 := Lib.hid hb2; clear ho2 hb2)
      go_loopw [6, 27] (fun v i wr => ∃ k' : Nat, i = .int .i64 k' ∧ k' ≤ k ∧ wr.ownsRow w.heap.size 5 1 v (L.take k').flatten.length (bytesV (L.take k').flatten) ∧ Below w.heap.size w wr) (fun _ i _ => k - (intOf i).toNat)
      case atStart => exact ⟨0, rfl, by omega, by simpa [bytesV] using O2.out, B2.out⟩
      case round =>
        obtain ⟨j, rfl, hj, hown, hbel⟩ := hrel
        have Hown := Lib.hid hown
        have Hbel := Lib.hid hbel
        have hlen : (L.take j).flatten.length ≤ 10000000 := by rw [flat_len]; have := total_take L j; have := HT.out; omega
        have hB0 := Hbel.out.size
        clear hown hbel
        by_cases hlt : j < k
        · obtain ⟨p, hp⟩ : ∃ p, L[j]? = some p := ⟨_, List.getElem?_eq_getElem (by rw [HL.out]; exact hlt)⟩
          obtain ⟨b, off, A', c', rfl, hb, hcell, hs⟩ := piece_at (Hin.out.below Hbel.out) (HR.out.below Hbel.out) hp
          have hsn := flat_snoc hp
          have hpl := total_get hp
          have hpb : p.length ≤ 10000000 := by have := HT.out; omega
          have HS := Lib.hid hs
          have HN := Lib.hid hsn
          obtain ⟨O, hO⟩ : ∃ O, (L.take j).flatten = O := ⟨_, rfl⟩
          rw [hO] at Hown hlen HN
          clear hsn hpl hs hb hO
          obtain ⟨pn, hpn⟩ : ∃ pn, p.length = pn := ⟨_, rfl⟩
          rw [hpn] at HS hcell hpb
          have HE := Lib.hid (show O.length + pn = (O ++ p).length by rw [← hpn]; exact List.length_append.symm)
          clear hpn
          go_wp2_with (at_builtin; refine wpList_appS u8_ty rfl _ _ rfl w.heap.size _ _ _ rfl Hown.out w.heap.size _ _ _ _ rfl HS.out (bytesV_one _) (by omega) (by simp only [maxLen]; omega) hB0 ?_; intro v4 w4 hown4 hgr4; rw [← bytesV_append] at hown4; have O4 := Lib.hid (own_count hown4 HE.out); have B4 := Lib.hid (Hbel.out.grown hgr4 hB0 (fun g hg => (Hown.out.lt g hg).1)); clear hown4 hgr4)
          go_roundw
          case rel =>
            refine ⟨j + 1, by go_num, by omega, ?_, B4.out⟩
            rw [HN.out]
            exact O4.out
          case measure => simp [intOf]; omega
        · obtain rfl : j = k := by omega
          rw [List.take_of_length_le (by rw [HL.out]; exact Nat.le_refl _)] at Hown
          clear hlt
          go_wp2
          go_ret
          exact ⟨_, rfl, Hown.out, Hbel.out⟩
end Go.Proofs.YteocdpkenlkmbaaGreatDoor
