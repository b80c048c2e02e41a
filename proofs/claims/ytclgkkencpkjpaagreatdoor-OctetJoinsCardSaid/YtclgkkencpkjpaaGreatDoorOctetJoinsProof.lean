/- The law OctetJoins returns true for every input, and its arguments read as before: the statement. No condition beyond the statement's own. -/
import Derived.Test.YtclgkkencpkjpaaGreatDoorLaw01e
import Derived.Test.YtclgkkencpkjpaaGreatDoorJoin
import Derived.Test.YtclgkkencpkjpaaGreatDoorFrame
import Derived.Test.YtclgkkencpkjpaaGreatDoorOpen
namespace Go.Proofs.YtclgkkencpkjpaaGreatDoor.octetJoins
open Go.ChangeShapes Go.WideShapes Go.ChangeAt Go.RowKit Go.WideMaps Go.WideElems
open Go.ChangeMaps (open_string shut_string)
set_option linter.unusedVariables false
set_option maxRecDepth 100000

theorem contract (H : Type) (enc : TypeId × Value → H) (W : World) (base : Nat) (args : Array Value) (ds gs : List (DataW H)) (before : List MemPlace)
    (hval : ∀ (j : Nat) t v, Tryz.f4.params[j]? = some t → args[j]? = some v → Value.okWide Tryz.prog W .any base t v)
    (hW : DataW.Whole enc Tryz.prog Tryz.f4.params.toList Rows.octetJoinsSpec.vars false W args.toList ds gs before) :
    Calls Tryz.prog 4 args W fun e W' => ∃ v, e = .returned v ∧ Rows.octetJoinsSpec.post enc Tryz.prog Tryz.f4 false true false false W args v W' := by
  have hW' := hW
  obtain ⟨p, q, hA0, hV, rfl, hfz, hnd⟩ := hW
  have hA : DataW.TrodAll enc Tryz.prog W 0 (fun _ => true) true Tryz.f4.params.toList args.toList ds p := hA0
  rw [Tryz.params4] at hA hval
  obtain ⟨v0, vs0, d0, ds0, p0, q0, hargs, rfl, rfl, h0, r0⟩ := trodAll_cons hA
  obtain ⟨v1, vs1, d1, ds1, p1, q1, rfl, rfl, rfl, h1, r1⟩ := trodAll_cons r0
  obtain ⟨rfl, rfl, rfl⟩ := trodAll_nil r1
  obtain rfl : args = #[v0, v1] := by cases args; simp_all
  obtain ⟨rfl, rfl⟩ := trodVars_none hV
  have k0 := h0
  have lt0 : ∀ x ∈ p0, x.block < W.heap.size := by obtain ⟨m, hm⟩ := k0; exact DataW.trod_lt m _ _ _ hm
  obtain ⟨a0, len0, cap0, L0, rfl, w0⟩ := open_strs_in (hval 0 33 v0 rfl rfl) h0
  obtain ⟨a1, rfl, rfl, rfl, w1⟩ := open_int Tryz.underlying3 (hval 1 3 v1 rfl rfl) h1
  clear hA0 hval
  refine (joins_walk W a0 len0 cap0 L0 w0 a1 w1).mono fun e W' ⟨he, bel⟩ => ?_
  subst he
  exact ⟨_, rfl, _, _, _, [], _, [], hW', trodAll_mk1 (shut_bool Tryz.underlying4 _), (trodAll_cons_mk (Below.trod laidOut (by kernel_rfl) (of_decide_eq_true (by kernel_rfl)) k0 bel lt0) (trodAll_cons_mk (shut_int Tryz.underlying3 w1) trodAll_mk0)), rfl, bel.frame _, fun h => by cases h⟩

theorem laid_met (os : Os) : laidMet Tryz.prog Rows.octetJoinsRow.laid ((laidWorld os).forCall (fun _ _ => 0) ⟨#[], #[.slice none 0 0, .int .i64 0], []⟩).memory :=
  laidMet_of_run' 8 (by kernel_rfl) (by kernel_rfl)
theorem reads (os : Os) {H : Type} (enc : TypeId × Value → H) : ∃ places, DataW.whole enc Tryz.prog ((laidWorld os).forCall (fun _ _ => 0) ⟨#[], #[.slice none 0 0, .int .i64 0], []⟩).memory Tryz.f4.params.toList Rows.octetJoinsSpec.vars false (#[.slice none 0 0, .int .i64 0] : Array Value).toList 8 = some ([.nil, .lit (.int .i64 0)], [], places) :=
  ⟨[], by kernel_rfl⟩
theorem lifted (os : Os) (started : os.Started) (H : Type) (enc : TypeId × Value → H) (F : Stop.Interp) :
    ReturnsInHanded {} Tryz.checked os 4 .any ((OpenSpec.ofChange Rows.octetJoinsSpec).preRow enc Tryz.prog Tryz.f4 Rows.octetJoinsRow.domain false Rows.octetJoinsRow.laid) (((OpenSpec.ofChange Rows.octetJoinsSpec).at F).post enc Tryz.prog Tryz.f4 false true false false) := by
  obtain ⟨places, hx⟩ := reads os enc
  refine returnsInHanded_of_row (C := Tryz.checked) (s := OpenSpec.ofChange Rows.octetJoinsSpec) own started (by kernel_rfl) Tryz.func4
    (witness_row_at (enc := enc) (C := Tryz.checked) false (laidWorld os) #[.slice none 0 0, .int .i64 0] rfl (by kernel_rfl) (by kernel_rfl) (by kernel_rfl)
      (OpenSpec.preRow_of_cond 8 hx (by kernel_rfl) (fun k hk => by cases hk) (by kernel_rfl) (laid_met os))) ?_
  intro W base args ds gs before hval hW _ _ _ hL _ _
  exact contract H enc W base args ds gs before hval hW
theorem j0 : (Rows.octetJoinsRow.wf (OpenSpec.ofChange (OpenSpec.ofChange Rows.octetJoinsSpec).bare)) = true := by kernel_rfl
theorem j3 : (Tryz.f4.params.all (jP.readableRec ·)) = true := by kernel_rfl
theorem j4 : (namedTie jP Rows.octetJoinsRow.named (OpenSpec.ofChange Rows.octetJoinsSpec).bare.vars) = true := by kernel_rfl
theorem j5 : ((Rows.octetJoinsRow.stops == [])) = true := by kernel_rfl
theorem j7 : ((Rows.octetJoinsRow.knobs == [])) = true := by kernel_rfl
theorem j9 : ((Rows.octetJoinsRow.inPlace == jP.inPlace 4)) = true := by kernel_rfl
theorem j10 : ((Rows.octetJoinsRow.unfollowed == jP.unfollowed 4)) = true := by kernel_rfl
theorem j11 : ((Rows.octetJoinsRow.recurses == jP.recurses 4)) = true := by kernel_rfl
theorem j12 : ((Rows.octetJoinsRow.named == jP.varsNamed 4)) = true := by kernel_rfl
theorem j13 : ((Rows.octetJoinsRow.maps == (Tryz.f4.params.toList ++ (OpenSpec.ofChange Rows.octetJoinsSpec).bare.plain.varTypes jP).any (jP.mapsRec ·))) = true := by kernel_rfl
theorem j14 : ((Rows.octetJoinsRow.ifaces == (Tryz.f4.params.toList ++ (OpenSpec.ofChange Rows.octetJoinsSpec).bare.plain.varTypes jP).any (jP.ifacesRec ·))) = true := by kernel_rfl
theorem j15 : ((Rows.octetJoinsRow.mapsOut == jP.mapsAmong Tryz.f4.resultTypes.toList)) = true := by kernel_rfl
theorem j16 : ((Rows.octetJoinsRow.loops == (Tryz.f4.params.toList ++ (OpenSpec.ofChange Rows.octetJoinsSpec).bare.plain.varTypes jP).any (jP.loopsFrom ·))) = true := by kernel_rfl
theorem j17 : ((Rows.octetJoinsRow.wideKeys == (Tryz.f4.params.toList ++ (OpenSpec.ofChange Rows.octetJoinsSpec).bare.plain.varTypes jP ++ Tryz.f4.resultTypes.toList).any (jP.wideKeysFrom ·))) = true := by kernel_rfl
theorem j18 : ((OpenSpec.ofChange Rows.octetJoinsSpec).bare.vars.all (jP.varReadable ·)) = true := by kernel_rfl
theorem j19 : (Tryz.f4.resultTypes.all (fun t => jP.readableRec t && decide (t < jP.types.size))) = true := by kernel_rfl
theorem j20 : ((Rows.octetJoinsRow.ifacesOut == Tryz.f4.resultTypes.toList.any (jP.ifacesRec ·))) = true := by kernel_rfl
theorem j21 : ((Rows.octetJoinsRow.loopsOut == Tryz.f4.resultTypes.toList.any (jP.loopsFrom ·))) = true := by kernel_rfl
theorem j23 : (Rows.octetJoinsRow.shortTexts.isNone) = true := by kernel_rfl
theorem j28 : ((Rows.octetJoinsRow.kinds == (if Rows.octetJoinsRow.domain.isEmpty then [] else Tryz.f4.params.toList.map fun t => match jP.underlying t with | some (.int k) => some k | _ => none))) = true := by kernel_rfl
theorem j29 : ((Rows.octetJoinsRow.pinned == Rows.octetJoinsRow.pinnedBy)) = true := by kernel_rfl
theorem j30 : ((Rows.octetJoinsRow.veiled == (Tryz.f4.params.toList ++ (OpenSpec.ofChange Rows.octetJoinsSpec).bare.plain.varTypes jP ++ Tryz.f4.resultTypes.toList).any (jP.veiledRec ·))) = true := by kernel_rfl
theorem j31 : (Rows.octetJoinsRow.veiledFits jP Tryz.f4.params.toList (Tryz.f4.params.toList ++ (OpenSpec.ofChange Rows.octetJoinsSpec).bare.plain.varTypes jP ++ Tryz.f4.resultTypes.toList)) = true := by kernel_rfl
theorem closed : joinedFacts jP 4 Tryz.f4 (OpenSpec.ofChange Rows.octetJoinsSpec).bare Rows.octetJoinsRow = true := (jand (jand (jand (jand (jand (jand (jand (jand (jand (jand (jand (jand (jand (jand (jand (jand (jand (jand (jand (jand (jand (jand (jand (jand (jand (jand (jand (jand (jand (jand (jand j0 jsh1) jsh2) j3) j4) j5) jsh6) j7) jsh8) j9) j10) j11) j12) j13) j14) j15) j16) j17) j18) j19) j20) j21) jsh22) j23) jsh24) jsh25) jsh26) jsh27) j28) j29) j30) j31)
theorem named : jP.funcNamed Rows.octetJoinsRow.func = some 4 := by kernel_rfl
theorem instd : Tryz.f4.isInstance jP Rows.octetJoinsRow.origin Rows.octetJoinsRow.targs := of_decide_eq_true (by kernel_rfl)
theorem wrapd : Tryz.f4.isWrapper jP Rows.octetJoinsRow.wrapper Rows.octetJoinsRow.mainSum := by unfold Func.isWrapper; first | (rw [if_pos (by decide +kernel)]; kernel_rfl) | (rw [if_neg (by decide +kernel)]; exact ⟨rfl, rfl⟩)
theorem said : Rows.OctetJoinsSaid :=
  OpenClaim.holds_of_cond 4 Tryz.f4 rfl rfl rfl rfl rfl rfl rfl ⟨rfl, rfl, rfl, rfl, rfl⟩ rfl rfl rfl rfl rfl named Tryz.func4 closed
    instd wrapd
    (fun os started H enc _ F => by rw [OpenClaim.pre_eq_preRow]; exact lifted os started H enc F)
theorem plain (f : FuncId) (fn : Func) (hf : Tryz.pinned.checked.prog.funcNamed "icehouse/icehouselaw01.OctetJoins" = some f) (hfn : Tryz.pinned.checked.prog.funcs[f]? = some fn) :
    true = Tryz.pinned.checked.prog.looks [] ∧ ∀ (j : Nat) t, fn.params[j]? = some t → Tryz.pinned.checked.prog.wantsStandIn t = false := by
  obtain rfl : f = 4 := Option.some.inj ((show Tryz.prog.funcNamed "icehouse/icehouselaw01.OctetJoins" = some 4 by kernel_rfl).symm.trans hf) |>.symm
  obtain rfl : fn = Tryz.f4 := (Option.some.inj (Tryz.func4.symm.trans hfn)).symm
  refine ⟨by kernel_rfl, fun j t ht => ?_⟩
  rw [Tryz.params4] at ht
  rcases j with _ | _ | j
  · obtain rfl : 33 = t := by simpa using ht
    exact (show Tryz.prog.wantsStandIn 33 = false by kernel_rfl)
  · obtain rfl : 3 = t := by simpa using ht
    exact (show Tryz.prog.wantsStandIn 3 = false by kernel_rfl)
  · simp at ht
theorem card : Rows.OctetJoinsCardSaid :=
  Claim7.holds_tied_plain_at .later [] _ _ _ _ said (fun _ h => by cases h) (by kernel_rfl) (fun _ h => by cases h) octetJoins_row_tie rfl ⟨rfl, rfl⟩ (by kernel_rfl) rfl plain (by kernel_rfl)
#print axioms card
end Go.Proofs.YtclgkkencpkjpaaGreatDoor.octetJoins
