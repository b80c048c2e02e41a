/- The law OriginAsks returns true for every input, and its arguments read as before: the statement. No condition beyond the statement's own. -/
import Derived.Test.YtniiadhhefgmcaaGreatDoorLaw23d
import Derived.Test.YtniiadhhefgmcaaGreatDoorOp
import Derived.Test.YtniiadhhefgmcaaGreatDoorOpenU
import Derived.Test.YtniiadhhefgmcaaGreatDoorJoin
import Derived.Test.YtniiadhhefgmcaaGreatDoorFrame
import Derived.Test.YtniiadhhefgmcaaGreatDoorOpen
namespace Go.Proofs.YtniiadhhefgmcaaGreatDoor.originAsks
open Go.ChangeShapes Go.WideShapes Go.ChangeAt Go.RowKit Go.WideMaps Go.WideElems
open Go.ChangeMaps (open_string shut_string)
set_option linter.unusedVariables false
set_option maxRecDepth 100000

theorem contract (H : Type) (enc : TypeId × Value → H) (W : World) (base : Nat) (args : Array Value) (ds gs : List (DataW H)) (before : List MemPlace)
    (hval : ∀ (j : Nat) t v, Tryz.f5.params[j]? = some t → args[j]? = some v → Value.okWide Tryz.prog W .any base t v)
    (hW : DataW.Whole enc Tryz.prog Tryz.f5.params.toList Rows.originAsksSpec.vars false W args.toList ds gs before) (hsh : W.ShapedOpen Tryz.prog) :
    Calls Tryz.prog 5 args W fun e W' => ∃ v, e = .returned v ∧ Rows.originAsksSpec.post enc Tryz.prog Tryz.f5 false true false false W args v W' := by
  have hW' := hW
  obtain ⟨p, q, hA0, hV, rfl, hfz, hnd⟩ := hW
  have hA : DataW.TrodAll enc Tryz.prog W 0 (fun _ => true) true Tryz.f5.params.toList args.toList ds p := hA0
  rw [Tryz.params5] at hA hval
  obtain ⟨v0, vs0, d0, ds0, p0, q0, hargs, rfl, rfl, h0, r0⟩ := trodAll_cons hA
  obtain ⟨v1, vs1, d1, ds1, p1, q1, rfl, rfl, rfl, h1, r1⟩ := trodAll_cons r0
  obtain ⟨v2, vs2, d2, ds2, p2, q2, rfl, rfl, rfl, h2, r2⟩ := trodAll_cons r1
  obtain ⟨rfl, rfl, rfl⟩ := trodAll_nil r2
  obtain rfl : args = #[v0, v1, v2] := by cases args; simp_all
  obtain ⟨rfl, rfl⟩ := trodVars_none hV
  have k0 := h0
  have lt0 : ∀ x ∈ p0, x.block < W.heap.size := by obtain ⟨m, hm⟩ := k0; exact DataW.trod_lt m _ _ _ hm
  obtain ⟨s0, A0, n0, c0, L0, B0, m0, e0, X0, rfl, f0, u0, W0⟩ := open_message (hval 0 27 v0 rfl rfl) h0
  have k1 := h1
  have lt1 : ∀ x ∈ p1, x.block < W.heap.size := by obtain ⟨m, hm⟩ := k1; exact DataW.trod_lt m _ _ _ hm
  obtain ⟨H1, j1, Q1, rfl, x1, y1, z1⟩ := open_uri (hval 1 53 v1 rfl rfl) h1
  have k2 := h2
  have lt2 : ∀ x ∈ p2, x.block < W.heap.size := by obtain ⟨m, hm⟩ := k2; exact DataW.trod_lt m _ _ _ hm
  obtain ⟨A2, l2, c2, L2, rfl, f2⟩ := open_flds_in (hval 2 24 v2 rfl rfl) h2
  clear hA0 hval
  refine (oasks_walk W hsh s0 A0 n0 c0 L0 B0 m0 e0 X0 f0 u0 W0 H1 j1 Q1 x1 y1 z1 A2 l2 c2 L2 f2).mono fun e W' ⟨he, bel⟩ => ?_
  subst he
  exact ⟨_, rfl, _, _, _, [], _, [], hW', trodAll_mk1 (shut_bool Tryz.underlying4 _), (trodAll_cons_mk (Below.trod laidOut (by kernel_rfl) (of_decide_eq_true (by kernel_rfl)) k0 bel lt0) (trodAll_cons_mk (Below.trod laidOut (by kernel_rfl) (of_decide_eq_true (by kernel_rfl)) k1 bel lt1) (trodAll_cons_mk (Below.trod laidOut (by kernel_rfl) (of_decide_eq_true (by kernel_rfl)) k2 bel lt2) trodAll_mk0))), rfl, bel.frame _, fun h => by cases h⟩

theorem laid_met (os : Os) : laidMet Tryz.prog Rows.originAsksRow.laid ((laidWorld os).forCall (fun _ _ => 0) ⟨#[], #[.agg #[.string ByteArray.empty, .string ByteArray.empty, .int .i64 0, .string ByteArray.empty, .int .i64 0, .slice none 0 0, .slice none 0 0], .agg #[.string ByteArray.empty, .int .i64 0, .string ByteArray.empty], .slice none 0 0], []⟩).memory :=
  laidMet_of_run' 8 (by kernel_rfl) (by kernel_rfl)
theorem reads (os : Os) {H : Type} (enc : TypeId × Value → H) : ∃ places, DataW.whole enc Tryz.prog ((laidWorld os).forCall (fun _ _ => 0) ⟨#[], #[.agg #[.string ByteArray.empty, .string ByteArray.empty, .int .i64 0, .string ByteArray.empty, .int .i64 0, .slice none 0 0, .slice none 0 0], .agg #[.string ByteArray.empty, .int .i64 0, .string ByteArray.empty], .slice none 0 0], []⟩).memory Tryz.f5.params.toList Rows.originAsksSpec.vars false (#[.agg #[.string ByteArray.empty, .string ByteArray.empty, .int .i64 0, .string ByteArray.empty, .int .i64 0, .slice none 0 0, .slice none 0 0], .agg #[.string ByteArray.empty, .int .i64 0, .string ByteArray.empty], .slice none 0 0] : Array Value).toList 8 = some ([.agg [.agg [.lit (.string []), .lit (.string []), .lit (.int .i64 0), .lit (.string []), .lit (.int .i64 0)], .nil, .nil], .agg [.lit (.string []), .lit (.int .i64 0), .lit (.string [])], .nil], [], places) :=
  ⟨[], by kernel_rfl⟩
theorem lifted (os : Os) (started : os.Started) (H : Type) (enc : TypeId × Value → H) (F : Stop.Interp) :
    ReturnsInHanded {} Tryz.checked os 5 .any ((OpenSpec.ofChange Rows.originAsksSpec).preRow enc Tryz.prog Tryz.f5 Rows.originAsksRow.domain false Rows.originAsksRow.laid) (((OpenSpec.ofChange Rows.originAsksSpec).at F).post enc Tryz.prog Tryz.f5 false true false false) := by
  obtain ⟨places, hx⟩ := reads os enc
  refine returnsInHanded_of_row (C := Tryz.checked) (s := OpenSpec.ofChange Rows.originAsksSpec) own started (by kernel_rfl) Tryz.func5
    (witness_row_at (enc := enc) (C := Tryz.checked) false (laidWorld os) #[.agg #[.string ByteArray.empty, .string ByteArray.empty, .int .i64 0, .string ByteArray.empty, .int .i64 0, .slice none 0 0, .slice none 0 0], .agg #[.string ByteArray.empty, .int .i64 0, .string ByteArray.empty], .slice none 0 0] rfl (by kernel_rfl) (by kernel_rfl) (by kernel_rfl)
      (OpenSpec.preRow_of_cond 8 hx (by kernel_rfl) (fun k hk => by cases hk) (by kernel_rfl) (laid_met os))) ?_
  intro W base args ds gs before hval hW _ _ _ hL hsh _
  exact contract H enc W base args ds gs before hval hW hsh
theorem j0 : (Rows.originAsksRow.wf (OpenSpec.ofChange (OpenSpec.ofChange Rows.originAsksSpec).bare)) = true := by kernel_rfl
theorem j3 : (Tryz.f5.params.all (jP.readableRec ·)) = true := by kernel_rfl
theorem j4 : (namedTie jP Rows.originAsksRow.named (OpenSpec.ofChange Rows.originAsksSpec).bare.vars) = true := by kernel_rfl
theorem j5 : ((Rows.originAsksRow.stops == [])) = true := by kernel_rfl
theorem j7 : ((Rows.originAsksRow.knobs == [])) = true := by kernel_rfl
theorem j9 : ((Rows.originAsksRow.inPlace == jP.inPlace 5)) = true := by kernel_rfl
theorem j10 : ((Rows.originAsksRow.unfollowed == jP.unfollowed 5)) = true := by kernel_rfl
theorem j11 : ((Rows.originAsksRow.recurses == jP.recurses 5)) = true := by kernel_rfl
theorem j12 : ((Rows.originAsksRow.named == jP.varsNamed 5)) = true := by kernel_rfl
theorem j13 : ((Rows.originAsksRow.maps == (Tryz.f5.params.toList ++ (OpenSpec.ofChange Rows.originAsksSpec).bare.plain.varTypes jP).any (jP.mapsRec ·))) = true := by kernel_rfl
theorem j14 : ((Rows.originAsksRow.ifaces == (Tryz.f5.params.toList ++ (OpenSpec.ofChange Rows.originAsksSpec).bare.plain.varTypes jP).any (jP.ifacesRec ·))) = true := by kernel_rfl
theorem j15 : ((Rows.originAsksRow.mapsOut == jP.mapsAmong Tryz.f5.resultTypes.toList)) = true := by kernel_rfl
theorem j16 : ((Rows.originAsksRow.loops == (Tryz.f5.params.toList ++ (OpenSpec.ofChange Rows.originAsksSpec).bare.plain.varTypes jP).any (jP.loopsFrom ·))) = true := by kernel_rfl
theorem j17 : ((Rows.originAsksRow.wideKeys == (Tryz.f5.params.toList ++ (OpenSpec.ofChange Rows.originAsksSpec).bare.plain.varTypes jP ++ Tryz.f5.resultTypes.toList).any (jP.wideKeysFrom ·))) = true := by kernel_rfl
theorem j18 : ((OpenSpec.ofChange Rows.originAsksSpec).bare.vars.all (jP.varReadable ·)) = true := by kernel_rfl
theorem j19 : (Tryz.f5.resultTypes.all (fun t => jP.readableRec t && decide (t < jP.types.size))) = true := by kernel_rfl
theorem j20 : ((Rows.originAsksRow.ifacesOut == Tryz.f5.resultTypes.toList.any (jP.ifacesRec ·))) = true := by kernel_rfl
theorem j21 : ((Rows.originAsksRow.loopsOut == Tryz.f5.resultTypes.toList.any (jP.loopsFrom ·))) = true := by kernel_rfl
theorem j23 : (Rows.originAsksRow.shortTexts.isNone) = true := by kernel_rfl
theorem j28 : ((Rows.originAsksRow.kinds == (if Rows.originAsksRow.domain.isEmpty then [] else Tryz.f5.params.toList.map fun t => match jP.underlying t with | some (.int k) => some k | _ => none))) = true := by kernel_rfl
theorem j29 : ((Rows.originAsksRow.pinned == Rows.originAsksRow.pinnedBy)) = true := by kernel_rfl
theorem j30 : ((Rows.originAsksRow.veiled == (Tryz.f5.params.toList ++ (OpenSpec.ofChange Rows.originAsksSpec).bare.plain.varTypes jP ++ Tryz.f5.resultTypes.toList).any (jP.veiledRec ·))) = true := by kernel_rfl
theorem j31 : (Rows.originAsksRow.veiledFits jP Tryz.f5.params.toList (Tryz.f5.params.toList ++ (OpenSpec.ofChange Rows.originAsksSpec).bare.plain.varTypes jP ++ Tryz.f5.resultTypes.toList)) = true := by kernel_rfl
theorem closed : joinedFacts jP 5 Tryz.f5 (OpenSpec.ofChange Rows.originAsksSpec).bare Rows.originAsksRow = true := (jand (jand (jand (jand (jand (jand (jand (jand (jand (jand (jand (jand (jand (jand (jand (jand (jand (jand (jand (jand (jand (jand (jand (jand (jand (jand (jand (jand (jand (jand (jand j0 jsh1) jsh2) j3) j4) j5) jsh6) j7) jsh8) j9) j10) j11) j12) j13) j14) j15) j16) j17) j18) j19) j20) j21) jsh22) j23) jsh24) jsh25) jsh26) jsh27) j28) j29) j30) j31)
theorem named : jP.funcNamed Rows.originAsksRow.func = some 5 := by kernel_rfl
theorem instd : Tryz.f5.isInstance jP Rows.originAsksRow.origin Rows.originAsksRow.targs := of_decide_eq_true (by kernel_rfl)
theorem wrapd : Tryz.f5.isWrapper jP Rows.originAsksRow.wrapper Rows.originAsksRow.mainSum := by unfold Func.isWrapper; first | (rw [if_pos (by decide +kernel)]; kernel_rfl) | (rw [if_neg (by decide +kernel)]; exact ⟨rfl, rfl⟩)
theorem said : Rows.OriginAsksSaid :=
  OpenClaim.holds_of_cond 5 Tryz.f5 rfl rfl rfl rfl rfl rfl rfl ⟨rfl, rfl, rfl, rfl, rfl⟩ rfl rfl rfl rfl rfl named Tryz.func5 closed
    instd wrapd
    (fun os started H enc _ F => by rw [OpenClaim.pre_eq_preRow]; exact lifted os started H enc F)
theorem plain (f : FuncId) (fn : Func) (hf : Tryz.pinned.checked.prog.funcNamed "icehouse/icehouselaw23.OriginAsks" = some f) (hfn : Tryz.pinned.checked.prog.funcs[f]? = some fn) :
    false = Tryz.pinned.checked.prog.looks [] ∧ ∀ (j : Nat) t, fn.params[j]? = some t → Tryz.pinned.checked.prog.wantsStandIn t = false := by
  obtain rfl : f = 5 := Option.some.inj ((show Tryz.prog.funcNamed "icehouse/icehouselaw23.OriginAsks" = some 5 by kernel_rfl).symm.trans hf) |>.symm
  obtain rfl : fn = Tryz.f5 := (Option.some.inj (Tryz.func5.symm.trans hfn)).symm
  refine ⟨by kernel_rfl, fun j t ht => ?_⟩
  rw [Tryz.params5] at ht
  rcases j with _ | _ | _ | j
  · obtain rfl : 27 = t := by simpa using ht
    exact (show Tryz.prog.wantsStandIn 27 = false by kernel_rfl)
  · obtain rfl : 53 = t := by simpa using ht
    exact (show Tryz.prog.wantsStandIn 53 = false by kernel_rfl)
  · obtain rfl : 24 = t := by simpa using ht
    exact (show Tryz.prog.wantsStandIn 24 = false by kernel_rfl)
  · simp at ht
theorem card : Rows.OriginAsksCardSaid :=
  Claim7.holds_tied_plain_at .later [] _ _ _ _ said (fun _ h => by cases h) (by kernel_rfl) (fun _ h => by cases h) originAsks_row_tie rfl ⟨rfl, rfl⟩ (by kernel_rfl) rfl plain (by kernel_rfl)
#print axioms card
end Go.Proofs.YtniiadhhefgmcaaGreatDoor.originAsks
