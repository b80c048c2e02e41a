/- The law AuditLogs returns true for every input, and its arguments read as before: the statement. No condition beyond the statement's own. -/
import Derived.Test.YtclgkkencpkjpaaGreatDoorLaw26c
import Derived.Test.YtclgkkencpkjpaaGreatDoorOpenL
import Derived.Test.YtclgkkencpkjpaaGreatDoorJoin
import Derived.Test.YtclgkkencpkjpaaGreatDoorFrame
import Derived.Test.YtclgkkencpkjpaaGreatDoorOm
namespace Go.Proofs.YtclgkkencpkjpaaGreatDoor.auditLogs
open Go.ChangeShapes Go.WideShapes Go.ChangeAt Go.RowKit Go.WideMaps Go.WideElems
open Go.ChangeMaps (open_string shut_string)
set_option linter.unusedVariables false
set_option maxRecDepth 100000

theorem contract (H : Type) (enc : TypeId × Value → H) (W : World) (base : Nat) (args : Array Value) (ds gs : List (DataW H)) (before : List MemPlace)
    (hval : ∀ (j : Nat) t v, Tryz.f7.params[j]? = some t → args[j]? = some v → Value.okWide Tryz.prog W .any base t v)
    (hW : DataW.Whole enc Tryz.prog Tryz.f7.params.toList Rows.auditLogsSpec.vars false W args.toList ds gs before) (hsh : W.ShapedOpen Tryz.prog) :
    Calls Tryz.prog 7 args W fun e W' => ∃ v, e = .returned v ∧ Rows.auditLogsSpec.post enc Tryz.prog Tryz.f7 false true false false W args v W' := by
  have hW' := hW
  obtain ⟨p, q, hA0, hV, rfl, hfz, hnd⟩ := hW
  have hA : DataW.TrodAll enc Tryz.prog W 0 (fun _ => true) true Tryz.f7.params.toList args.toList ds p := hA0
  rw [Tryz.params7] at hA hval
  obtain ⟨v0, vs0, d0, ds0, p0, q0, hargs, rfl, rfl, h0, r0⟩ := trodAll_cons hA
  obtain ⟨rfl, rfl, rfl⟩ := trodAll_nil r0
  obtain rfl : args = #[v0] := by cases args; simp_all
  obtain ⟨rfl, rfl⟩ := trodVars_none hV
  have k0 := h0
  have lt0 : ∀ x ∈ p0, x.block < W.heap.size := by obtain ⟨m, hm⟩ := k0; exact DataW.trod_lt m _ _ _ hm
  obtain ⟨A0, len0, cap0, L0, rfl, w0⟩ := open_logs (hval 0 55 v0 rfl rfl) h0
  clear hA0 hval
  refine (alogs_walk W hsh A0 len0 cap0 L0 w0).mono fun e W' ⟨he, bel⟩ => ?_
  subst he
  exact ⟨_, rfl, _, _, _, [], _, [], hW', trodAll_mk1 (shut_bool Tryz.underlying4 _), (trodAll_cons_mk (Below.trod laidOut (by kernel_rfl) (of_decide_eq_true (by kernel_rfl)) k0 bel lt0) trodAll_mk0), rfl, bel.frame _, fun h => by cases h⟩

theorem laid_met (os : Os) : laidMet Tryz.prog Rows.auditLogsRow.laid ((laidWorld os).forCall (fun _ _ => 0) ⟨#[], #[.slice none 0 0], []⟩).memory :=
  laidMet_of_run' 8 (by kernel_rfl) (by kernel_rfl)
theorem reads (os : Os) {H : Type} (enc : TypeId × Value → H) : ∃ places, DataW.whole enc Tryz.prog ((laidWorld os).forCall (fun _ _ => 0) ⟨#[], #[.slice none 0 0], []⟩).memory Tryz.f7.params.toList Rows.auditLogsSpec.vars false (#[.slice none 0 0] : Array Value).toList 8 = some ([.nil], [], places) :=
  ⟨[], by kernel_rfl⟩
theorem lifted (os : Os) (started : os.Started) (H : Type) (enc : TypeId × Value → H) (F : Stop.Interp) :
    ReturnsInHanded {} Tryz.checked os 7 .any ((OpenSpec.ofChange Rows.auditLogsSpec).preRow enc Tryz.prog Tryz.f7 Rows.auditLogsRow.domain false Rows.auditLogsRow.laid) (((OpenSpec.ofChange Rows.auditLogsSpec).at F).post enc Tryz.prog Tryz.f7 false true false false) := by
  obtain ⟨places, hx⟩ := reads os enc
  refine returnsInHanded_of_row (C := Tryz.checked) (s := OpenSpec.ofChange Rows.auditLogsSpec) own started (by kernel_rfl) Tryz.func7
    (witness_row_at (enc := enc) (C := Tryz.checked) false (laidWorld os) #[.slice none 0 0] rfl (by kernel_rfl) (by kernel_rfl) (by kernel_rfl)
      (OpenSpec.preRow_of_cond 8 hx (by kernel_rfl) (fun k hk => by cases hk) (by kernel_rfl) (laid_met os))) ?_
  intro W base args ds gs before hval hW _ _ _ hL hsh _
  exact contract H enc W base args ds gs before hval hW hsh
theorem j0 : (Rows.auditLogsRow.wf (OpenSpec.ofChange (OpenSpec.ofChange Rows.auditLogsSpec).bare)) = true := by kernel_rfl
theorem j3 : (Tryz.f7.params.all (jP.readableRec ·)) = true := by kernel_rfl
theorem j4 : (namedTie jP Rows.auditLogsRow.named (OpenSpec.ofChange Rows.auditLogsSpec).bare.vars) = true := by kernel_rfl
theorem j5 : ((Rows.auditLogsRow.stops == [])) = true := by kernel_rfl
theorem j7 : ((Rows.auditLogsRow.knobs == [])) = true := by kernel_rfl
theorem j9 : ((Rows.auditLogsRow.inPlace == jP.inPlace 7)) = true := by kernel_rfl
theorem j10 : ((Rows.auditLogsRow.unfollowed == jP.unfollowed 7)) = true := by kernel_rfl
theorem j11 : ((Rows.auditLogsRow.recurses == jP.recurses 7)) = true := by kernel_rfl
theorem j12 : ((Rows.auditLogsRow.named == jP.varsNamed 7)) = true := by kernel_rfl
theorem j13 : ((Rows.auditLogsRow.maps == (Tryz.f7.params.toList ++ (OpenSpec.ofChange Rows.auditLogsSpec).bare.plain.varTypes jP).any (jP.mapsRec ·))) = true := by kernel_rfl
theorem j14 : ((Rows.auditLogsRow.ifaces == (Tryz.f7.params.toList ++ (OpenSpec.ofChange Rows.auditLogsSpec).bare.plain.varTypes jP).any (jP.ifacesRec ·))) = true := by kernel_rfl
theorem j15 : ((Rows.auditLogsRow.mapsOut == jP.mapsAmong Tryz.f7.resultTypes.toList)) = true := by kernel_rfl
theorem j16 : ((Rows.auditLogsRow.loops == (Tryz.f7.params.toList ++ (OpenSpec.ofChange Rows.auditLogsSpec).bare.plain.varTypes jP).any (jP.loopsFrom ·))) = true := by kernel_rfl
theorem j17 : ((Rows.auditLogsRow.wideKeys == (Tryz.f7.params.toList ++ (OpenSpec.ofChange Rows.auditLogsSpec).bare.plain.varTypes jP ++ Tryz.f7.resultTypes.toList).any (jP.wideKeysFrom ·))) = true := by kernel_rfl
theorem j18 : ((OpenSpec.ofChange Rows.auditLogsSpec).bare.vars.all (jP.varReadable ·)) = true := by kernel_rfl
theorem j19 : (Tryz.f7.resultTypes.all (fun t => jP.readableRec t && decide (t < jP.types.size))) = true := by kernel_rfl
theorem j20 : ((Rows.auditLogsRow.ifacesOut == Tryz.f7.resultTypes.toList.any (jP.ifacesRec ·))) = true := by kernel_rfl
theorem j21 : ((Rows.auditLogsRow.loopsOut == Tryz.f7.resultTypes.toList.any (jP.loopsFrom ·))) = true := by kernel_rfl
theorem j23 : (Rows.auditLogsRow.shortTexts.isNone) = true := by kernel_rfl
theorem j28 : ((Rows.auditLogsRow.kinds == (if Rows.auditLogsRow.domain.isEmpty then [] else Tryz.f7.params.toList.map fun t => match jP.underlying t with | some (.int k) => some k | _ => none))) = true := by kernel_rfl
theorem j29 : ((Rows.auditLogsRow.pinned == Rows.auditLogsRow.pinnedBy)) = true := by kernel_rfl
theorem j30 : ((Rows.auditLogsRow.veiled == (Tryz.f7.params.toList ++ (OpenSpec.ofChange Rows.auditLogsSpec).bare.plain.varTypes jP ++ Tryz.f7.resultTypes.toList).any (jP.veiledRec ·))) = true := by kernel_rfl
theorem j31 : (Rows.auditLogsRow.veiledFits jP Tryz.f7.params.toList (Tryz.f7.params.toList ++ (OpenSpec.ofChange Rows.auditLogsSpec).bare.plain.varTypes jP ++ Tryz.f7.resultTypes.toList)) = true := by kernel_rfl
theorem closed : joinedFacts jP 7 Tryz.f7 (OpenSpec.ofChange Rows.auditLogsSpec).bare Rows.auditLogsRow = true := (jand (jand (jand (jand (jand (jand (jand (jand (jand (jand (jand (jand (jand (jand (jand (jand (jand (jand (jand (jand (jand (jand (jand (jand (jand (jand (jand (jand (jand (jand (jand j0 jsh1) jsh2) j3) j4) j5) jsh6) j7) jsh8) j9) j10) j11) j12) j13) j14) j15) j16) j17) j18) j19) j20) j21) jsh22) j23) jsh24) jsh25) jsh26) jsh27) j28) j29) j30) j31)
theorem named : jP.funcNamed Rows.auditLogsRow.func = some 7 := by kernel_rfl
theorem instd : Tryz.f7.isInstance jP Rows.auditLogsRow.origin Rows.auditLogsRow.targs := of_decide_eq_true (by kernel_rfl)
theorem wrapd : Tryz.f7.isWrapper jP Rows.auditLogsRow.wrapper Rows.auditLogsRow.mainSum := by unfold Func.isWrapper; first | (rw [if_pos (by decide +kernel)]; kernel_rfl) | (rw [if_neg (by decide +kernel)]; exact ⟨rfl, rfl⟩)
theorem said : Rows.AuditLogsSaid :=
  OpenClaim.holds_of_cond 7 Tryz.f7 rfl rfl rfl rfl rfl rfl rfl ⟨rfl, rfl, rfl, rfl, rfl⟩ rfl rfl rfl rfl rfl named Tryz.func7 closed
    instd wrapd
    (fun os started H enc _ F => by rw [OpenClaim.pre_eq_preRow]; exact lifted os started H enc F)
theorem plain (f : FuncId) (fn : Func) (hf : Tryz.pinned.checked.prog.funcNamed "icehouse/icehouselaw26.AuditLogs" = some f) (hfn : Tryz.pinned.checked.prog.funcs[f]? = some fn) :
    true = Tryz.pinned.checked.prog.looks [] ∧ ∀ (j : Nat) t, fn.params[j]? = some t → Tryz.pinned.checked.prog.wantsStandIn t = false := by
  obtain rfl : f = 7 := Option.some.inj ((show Tryz.prog.funcNamed "icehouse/icehouselaw26.AuditLogs" = some 7 by kernel_rfl).symm.trans hf) |>.symm
  obtain rfl : fn = Tryz.f7 := (Option.some.inj (Tryz.func7.symm.trans hfn)).symm
  refine ⟨by kernel_rfl, fun j t ht => ?_⟩
  rw [Tryz.params7] at ht
  rcases j with _ | j
  · obtain rfl : 55 = t := by simpa using ht
    exact (show Tryz.prog.wantsStandIn 55 = false by kernel_rfl)
  · simp at ht
theorem card : Rows.AuditLogsCardSaid :=
  Claim7.holds_tied_plain_at .later [] _ _ _ _ said (fun _ h => by cases h) (by kernel_rfl) (fun _ h => by cases h) auditLogs_row_tie rfl ⟨rfl, rfl⟩ (by kernel_rfl) rfl plain (by kernel_rfl)
#print axioms card
end Go.Proofs.YtclgkkencpkjpaaGreatDoor.auditLogs
