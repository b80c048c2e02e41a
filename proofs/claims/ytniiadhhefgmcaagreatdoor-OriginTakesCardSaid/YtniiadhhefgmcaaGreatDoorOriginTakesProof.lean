/- The law OriginTakes returns true for every input, and its arguments read as before: the statement. No condition beyond the statement's own. -/
import Derived.Test.YtniiadhhefgmcaaGreatDoorLb
import Derived.Test.YtniiadhhefgmcaaGreatDoorOp
import Derived.Test.YtniiadhhefgmcaaGreatDoorJoin
import Derived.Test.YtniiadhhefgmcaaGreatDoorFrame
import Derived.Test.YtniiadhhefgmcaaGreatDoorOpen
namespace Go.Proofs.YtniiadhhefgmcaaGreatDoor.originTakes
open Go.ChangeShapes Go.WideShapes Go.ChangeAt Go.RowKit Go.WideMaps Go.WideElems
open Go.ChangeMaps (open_string shut_string)
set_option linter.unusedVariables false
set_option maxRecDepth 100000

theorem contract (H : Type) (enc : TypeId × Value → H) (W : World) (base : Nat) (args : Array Value) (ds gs : List (DataW H)) (before : List MemPlace)
    (hval : ∀ (j : Nat) t v, Tryz.f4.params[j]? = some t → args[j]? = some v → Value.okWide Tryz.prog W .any base t v)
    (hW : DataW.Whole enc Tryz.prog Tryz.f4.params.toList Rows.originTakesSpec.vars false W args.toList ds gs before) (hsh : W.ShapedOpen Tryz.prog) :
    Calls Tryz.prog 4 args W fun e W' => ∃ v, e = .returned v ∧ Rows.originTakesSpec.post enc Tryz.prog Tryz.f4 false true false false W args v W' := by
  have hW' := hW
  obtain ⟨p, q, hA0, hV, rfl, hfz, hnd⟩ := hW
  have hA : DataW.TrodAll enc Tryz.prog W 0 (fun _ => true) true Tryz.f4.params.toList args.toList ds p := hA0
  rw [Tryz.params4] at hA hval
  obtain ⟨v0, vs0, d0, ds0, p0, q0, hargs, rfl, rfl, h0, r0⟩ := trodAll_cons hA
  obtain ⟨v1, vs1, d1, ds1, p1, q1, rfl, rfl, rfl, h1, r1⟩ := trodAll_cons r0
  obtain ⟨rfl, rfl, rfl⟩ := trodAll_nil r1
  obtain rfl : args = #[v0, v1] := by cases args; simp_all
  obtain ⟨rfl, rfl⟩ := trodVars_none hV
  have k0 := h0
  have lt0 : ∀ x ∈ p0, x.block < W.heap.size := by obtain ⟨m, hm⟩ := k0; exact DataW.trod_lt m _ _ _ hm
  obtain ⟨a0, len0, cap0, L0, rfl, w0⟩ := open_bytes_in (hval 0 25 v0 rfl rfl) h0
  have k1 := h1
  have lt1 : ∀ x ∈ p1, x.block < W.heap.size := by obtain ⟨m, hm⟩ := k1; exact DataW.trod_lt m _ _ _ hm
  obtain ⟨M1, A1, n1, c1, K1, D1, m1, e1, T1, b1, rfl, f1, u1, z1⟩ := open_how23 (hval 1 40 v1 rfl rfl) h1
  clear hA0 hval
  refine (otakes_walk W hsh a0 len0 cap0 L0 w0 M1 A1 n1 c1 K1 D1 m1 e1 T1 b1 f1 u1 z1).mono fun e W' ⟨he, bel⟩ => ?_
  subst he
  exact ⟨_, rfl, _, _, _, [], _, [], hW', trodAll_mk1 (shut_bool Tryz.underlying4 _), (trodAll_cons_mk (Below.trod laidOut (by kernel_rfl) (of_decide_eq_true (by kernel_rfl)) k0 bel lt0) (trodAll_cons_mk (Below.trod laidOut (by kernel_rfl) (of_decide_eq_true (by kernel_rfl)) k1 bel lt1) trodAll_mk0)), rfl, bel.frame _, fun h => by cases h⟩

theorem laid_met (os : Os) : laidMet Tryz.prog Rows.originTakesRow.laid ((laidWorld os).forCall (fun _ _ => 0) ⟨#[], #[.slice none 0 0, .agg #[.string ByteArray.empty, .slice none 0 0, .slice none 0 0, .bool false]], []⟩).memory :=
  laidMet_of_run' 8 (by kernel_rfl) (by kernel_rfl)
theorem reads (os : Os) {H : Type} (enc : TypeId × Value → H) : ∃ places, DataW.whole enc Tryz.prog ((laidWorld os).forCall (fun _ _ => 0) ⟨#[], #[.slice none 0 0, .agg #[.string ByteArray.empty, .slice none 0 0, .slice none 0 0, .bool false]], []⟩).memory Tryz.f4.params.toList Rows.originTakesSpec.vars false (#[.slice none 0 0, .agg #[.string ByteArray.empty, .slice none 0 0, .slice none 0 0, .bool false]] : Array Value).toList 8 = some ([.nil, .agg [.lit (.string []), .nil, .nil, .lit (.bool false)]], [], places) :=
  ⟨[], by kernel_rfl⟩
theorem lifted (os : Os) (started : os.Started) (H : Type) (enc : TypeId × Value → H) (F : Stop.Interp) :
    ReturnsInHanded {} Tryz.checked os 4 .any ((OpenSpec.ofChange Rows.originTakesSpec).preRow enc Tryz.prog Tryz.f4 Rows.originTakesRow.domain false Rows.originTakesRow.laid) (((OpenSpec.ofChange Rows.originTakesSpec).at F).post enc Tryz.prog Tryz.f4 false true false false) := by
  obtain ⟨places, hx⟩ := reads os enc
  refine returnsInHanded_of_row (C := Tryz.checked) (s := OpenSpec.ofChange Rows.originTakesSpec) own started (by kernel_rfl) Tryz.func4
    (witness_row_at (enc := enc) (C := Tryz.checked) false (laidWorld os) #[.slice none 0 0, .agg #[.string ByteArray.empty, .slice none 0 0, .slice none 0 0, .bool false]] rfl (by kernel_rfl) (by kernel_rfl) (by kernel_rfl)
      (OpenSpec.preRow_of_cond 8 hx (by kernel_rfl) (fun k hk => by cases hk) (by kernel_rfl) (laid_met os))) ?_
  intro W base args ds gs before hval hW _ _ _ hL hsh _
  exact contract H enc W base args ds gs before hval hW hsh
theorem j0 : (Rows.originTakesRow.wf (OpenSpec.ofChange (OpenSpec.ofChange Rows.originTakesSpec).bare)) = true := by kernel_rfl
theorem j3 : (Tryz.f4.params.all (jP.readableRec ·)) = true := by kernel_rfl
theorem j4 : (namedTie jP Rows.originTakesRow.named (OpenSpec.ofChange Rows.originTakesSpec).bare.vars) = true := by kernel_rfl
theorem j5 : ((Rows.originTakesRow.stops == [])) = true := by kernel_rfl
theorem j7 : ((Rows.originTakesRow.knobs == [])) = true := by kernel_rfl
theorem j9 : ((Rows.originTakesRow.inPlace == jP.inPlace 4)) = true := by kernel_rfl
theorem j10 : ((Rows.originTakesRow.unfollowed == jP.unfollowed 4)) = true := by kernel_rfl
theorem j11 : ((Rows.originTakesRow.recurses == jP.recurses 4)) = true := by kernel_rfl
theorem j12 : ((Rows.originTakesRow.named == jP.varsNamed 4)) = true := by kernel_rfl
theorem j13 : ((Rows.originTakesRow.maps == (Tryz.f4.params.toList ++ (OpenSpec.ofChange Rows.originTakesSpec).bare.plain.varTypes jP).any (jP.mapsRec ·))) = true := by kernel_rfl
theorem j14 : ((Rows.originTakesRow.ifaces == (Tryz.f4.params.toList ++ (OpenSpec.ofChange Rows.originTakesSpec).bare.plain.varTypes jP).any (jP.ifacesRec ·))) = true := by kernel_rfl
theorem j15 : ((Rows.originTakesRow.mapsOut == jP.mapsAmong Tryz.f4.resultTypes.toList)) = true := by kernel_rfl
theorem j16 : ((Rows.originTakesRow.loops == (Tryz.f4.params.toList ++ (OpenSpec.ofChange Rows.originTakesSpec).bare.plain.varTypes jP).any (jP.loopsFrom ·))) = true := by kernel_rfl
theorem j17 : ((Rows.originTakesRow.wideKeys == (Tryz.f4.params.toList ++ (OpenSpec.ofChange Rows.originTakesSpec).bare.plain.varTypes jP ++ Tryz.f4.resultTypes.toList).any (jP.wideKeysFrom ·))) = true := by kernel_rfl
theorem j18 : ((OpenSpec.ofChange Rows.originTakesSpec).bare.vars.all (jP.varReadable ·)) = true := by kernel_rfl
theorem j19 : (Tryz.f4.resultTypes.all (fun t => jP.readableRec t && decide (t < jP.types.size))) = true := by kernel_rfl
theorem j20 : ((Rows.originTakesRow.ifacesOut == Tryz.f4.resultTypes.toList.any (jP.ifacesRec ·))) = true := by kernel_rfl
theorem j21 : ((Rows.originTakesRow.loopsOut == Tryz.f4.resultTypes.toList.any (jP.loopsFrom ·))) = true := by kernel_rfl
theorem j23 : (Rows.originTakesRow.shortTexts.isNone) = true := by kernel_rfl
theorem j28 : ((Rows.originTakesRow.kinds == (if Rows.originTakesRow.domain.isEmpty then [] else Tryz.f4.params.toList.map fun t => match jP.underlying t with | some (.int k) => some k | _ => none))) = true := by kernel_rfl
theorem j29 : ((Rows.originTakesRow.pinned == Rows.originTakesRow.pinnedBy)) = true := by kernel_rfl
theorem j30 : ((Rows.originTakesRow.veiled == (Tryz.f4.params.toList ++ (OpenSpec.ofChange Rows.originTakesSpec).bare.plain.varTypes jP ++ Tryz.f4.resultTypes.toList).any (jP.veiledRec ·))) = true := by kernel_rfl
theorem j31 : (Rows.originTakesRow.veiledFits jP Tryz.f4.params.toList (Tryz.f4.params.toList ++ (OpenSpec.ofChange Rows.originTakesSpec).bare.plain.varTypes jP ++ Tryz.f4.resultTypes.toList)) = true := by kernel_rfl
theorem closed : joinedFacts jP 4 Tryz.f4 (OpenSpec.ofChange Rows.originTakesSpec).bare Rows.originTakesRow = true := (jand (jand (jand (jand (jand (jand (jand (jand (jand (jand (jand (jand (jand (jand (jand (jand (jand (jand (jand (jand (jand (jand (jand (jand (jand (jand (jand (jand (jand (jand (jand j0 jsh1) jsh2) j3) j4) j5) jsh6) j7) jsh8) j9) j10) j11) j12) j13) j14) j15) j16) j17) j18) j19) j20) j21) jsh22) j23) jsh24) jsh25) jsh26) jsh27) j28) j29) j30) j31)
theorem named : jP.funcNamed Rows.originTakesRow.func = some 4 := by kernel_rfl
theorem instd : Tryz.f4.isInstance jP Rows.originTakesRow.origin Rows.originTakesRow.targs := of_decide_eq_true (by kernel_rfl)
theorem wrapd : Tryz.f4.isWrapper jP Rows.originTakesRow.wrapper Rows.originTakesRow.mainSum := by unfold Func.isWrapper; first | (rw [if_pos (by decide +kernel)]; kernel_rfl) | (rw [if_neg (by decide +kernel)]; exact ⟨rfl, rfl⟩)
theorem said : Rows.OriginTakesSaid :=
  OpenClaim.holds_of_cond 4 Tryz.f4 rfl rfl rfl rfl rfl rfl rfl ⟨rfl, rfl, rfl, rfl, rfl⟩ rfl rfl rfl rfl rfl named Tryz.func4 closed
    instd wrapd
    (fun os started H enc _ F => by rw [OpenClaim.pre_eq_preRow]; exact lifted os started H enc F)
theorem plain (f : FuncId) (fn : Func) (hf : Tryz.pinned.checked.prog.funcNamed "icehouse/icehouselaw23.OriginTakes" = some f) (hfn : Tryz.pinned.checked.prog.funcs[f]? = some fn) :
    false = Tryz.pinned.checked.prog.looks [] ∧ ∀ (j : Nat) t, fn.params[j]? = some t → Tryz.pinned.checked.prog.wantsStandIn t = false := by
  obtain rfl : f = 4 := Option.some.inj ((show Tryz.prog.funcNamed "icehouse/icehouselaw23.OriginTakes" = some 4 by kernel_rfl).symm.trans hf) |>.symm
  obtain rfl : fn = Tryz.f4 := (Option.some.inj (Tryz.func4.symm.trans hfn)).symm
  refine ⟨by kernel_rfl, fun j t ht => ?_⟩
  rw [Tryz.params4] at ht
  rcases j with _ | _ | j
  · obtain rfl : 25 = t := by simpa using ht
    exact (show Tryz.prog.wantsStandIn 25 = false by kernel_rfl)
  · obtain rfl : 40 = t := by simpa using ht
    exact (show Tryz.prog.wantsStandIn 40 = false by kernel_rfl)
  · simp at ht
theorem card : Rows.OriginTakesCardSaid :=
  Claim7.holds_tied_plain_at .later [] _ _ _ _ said (fun _ h => by cases h) (by kernel_rfl) (fun _ h => by cases h) originTakes_row_tie rfl ⟨rfl, rfl⟩ (by kernel_rfl) rfl plain (by kernel_rfl)
#print axioms card
end Go.Proofs.YtniiadhhefgmcaaGreatDoor.originTakes
