/- The law AuditReads returns true for every input, and its arguments read as before: the statement. No condition beyond the statement's own. -/
import Derived.Test.YtclgkkencpkjpaaGreatDoorLaw26a
import Derived.Test.YtclgkkencpkjpaaGreatDoorOpenS
import Derived.Test.YtclgkkencpkjpaaGreatDoorJoin
import Derived.Test.YtclgkkencpkjpaaGreatDoorFrame
import Derived.Test.YtclgkkencpkjpaaGreatDoorOm
namespace Go.Proofs.YtclgkkencpkjpaaGreatDoor.auditReads
open Go.ChangeShapes Go.WideShapes Go.ChangeAt Go.RowKit Go.WideMaps Go.WideElems
open Go.ChangeMaps (open_string shut_string)
set_option linter.unusedVariables false
set_option maxRecDepth 100000

theorem contract (H : Type) (enc : TypeId × Value → H) (W : World) (base : Nat) (args : Array Value) (ds gs : List (DataW H)) (before : List MemPlace)
    (hval : ∀ (j : Nat) t v, Tryz.f5.params[j]? = some t → args[j]? = some v → Value.okWide Tryz.prog W .any base t v)
    (hW : DataW.Whole enc Tryz.prog Tryz.f5.params.toList Rows.auditReadsSpec.vars false W args.toList ds gs before) (hsh : W.ShapedOpen Tryz.prog) :
    Calls Tryz.prog 5 args W fun e W' => ∃ v, e = .returned v ∧ Rows.auditReadsSpec.post enc Tryz.prog Tryz.f5 false true false false W args v W' := by
  have hW' := hW
  obtain ⟨p, q, hA0, hV, rfl, hfz, hnd⟩ := hW
  have hA : DataW.TrodAll enc Tryz.prog W 0 (fun _ => true) true Tryz.f5.params.toList args.toList ds p := hA0
  rw [Tryz.params5] at hA hval
  obtain ⟨v0, vs0, d0, ds0, p0, q0, hargs, rfl, rfl, h0, r0⟩ := trodAll_cons hA
  obtain ⟨v1, vs1, d1, ds1, p1, q1, rfl, rfl, rfl, h1, r1⟩ := trodAll_cons r0
  obtain ⟨rfl, rfl, rfl⟩ := trodAll_nil r1
  obtain rfl : args = #[v0, v1] := by cases args; simp_all
  obtain ⟨rfl, rfl⟩ := trodVars_none hV
  have k0 := h0
  have lt0 : ∀ x ∈ p0, x.block < W.heap.size := by obtain ⟨m, hm⟩ := k0; exact DataW.trod_lt m _ _ _ hm
  obtain ⟨a0, len0, cap0, L0, rfl, w0⟩ := open_bytes_in (hval 0 38 v0 rfl rfl) h0
  have k1 := h1
  have lt1 : ∀ x ∈ p1, x.block < W.heap.size := by obtain ⟨m, hm⟩ := k1; exact DataW.trod_lt m _ _ _ hm
  obtain ⟨A1, len1, cap1, L1, rfl, w1, z1⟩ := open_strs_big (hval 1 33 v1 rfl rfl) h1
  clear hA0 hval
  refine (areads_walk W hsh a0 len0 cap0 L0 w0 A1 len1 cap1 L1 w1 z1).mono fun e W' ⟨he, bel⟩ => ?_
  subst he
  exact ⟨_, rfl, _, _, _, [], _, [], hW', trodAll_mk1 (shut_bool Tryz.underlying4 _), (trodAll_cons_mk (Below.trod laidOut (by kernel_rfl) (of_decide_eq_true (by kernel_rfl)) k0 bel lt0) (trodAll_cons_mk (Below.trod laidOut (by kernel_rfl) (of_decide_eq_true (by kernel_rfl)) k1 bel lt1) trodAll_mk0)), rfl, bel.frame _, fun h => by cases h⟩

theorem laid_met (os : Os) : laidMet Tryz.prog Rows.auditReadsRow.laid ((laidWorld os).forCall (fun _ _ => 0) ⟨#[], #[.slice none 0 0, .slice none 0 0], []⟩).memory :=
  laidMet_of_run' 8 (by kernel_rfl) (by kernel_rfl)
theorem reads (os : Os) {H : Type} (enc : TypeId × Value → H) : ∃ places, DataW.whole enc Tryz.prog ((laidWorld os).forCall (fun _ _ => 0) ⟨#[], #[.slice none 0 0, .slice none 0 0], []⟩).memory Tryz.f5.params.toList Rows.auditReadsSpec.vars false (#[.slice none 0 0, .slice none 0 0] : Array Value).toList 8 = some ([.nil, .nil], [], places) :=
  ⟨[], by kernel_rfl⟩
theorem lifted (os : Os) (started : os.Started) (H : Type) (enc : TypeId × Value → H) (F : Stop.Interp) :
    ReturnsInHanded {} Tryz.checked os 5 .any ((OpenSpec.ofChange Rows.auditReadsSpec).preRow enc Tryz.prog Tryz.f5 Rows.auditReadsRow.domain false Rows.auditReadsRow.laid) (((OpenSpec.ofChange Rows.auditReadsSpec).at F).post enc Tryz.prog Tryz.f5 false true false false) := by
  obtain ⟨places, hx⟩ := reads os enc
  refine returnsInHanded_of_row (C := Tryz.checked) (s := OpenSpec.ofChange Rows.auditReadsSpec) own started (by kernel_rfl) Tryz.func5
    (witness_row_at (enc := enc) (C := Tryz.checked) false (laidWorld os) #[.slice none 0 0, .slice none 0 0] rfl (by kernel_rfl) (by kernel_rfl) (by kernel_rfl)
      (OpenSpec.preRow_of_cond 8 hx (by kernel_rfl) (fun k hk => by cases hk) (by kernel_rfl) (laid_met os))) ?_
  intro W base args ds gs before hval hW _ _ _ hL hsh _
  exact contract H enc W base args ds gs before hval hW hsh
theorem j0 : (Rows.auditReadsRow.wf (OpenSpec.ofChange (OpenSpec.ofChange Rows.auditReadsSpec).bare)) = true := by kernel_rfl
theorem j3 : (Tryz.f5.params.all (jP.readableRec ·)) = true := by kernel_rfl
theorem j4 : (namedTie jP Rows.auditReadsRow.named (OpenSpec.ofChange Rows.auditReadsSpec).bare.vars) = true := by kernel_rfl
theorem j5 : ((Rows.auditReadsRow.stops == [])) = true := by kernel_rfl
theorem j7 : ((Rows.auditReadsRow.knobs == [])) = true := by kernel_rfl
theorem j9 : ((Rows.auditReadsRow.inPlace == jP.inPlace 5)) = true := by kernel_rfl
theorem j10 : ((Rows.auditReadsRow.unfollowed == jP.unfollowed 5)) = true := by kernel_rfl
theorem j11 : ((Rows.auditReadsRow.recurses == jP.recurses 5)) = true := by kernel_rfl
theorem j12 : ((Rows.auditReadsRow.named == jP.varsNamed 5)) = true := by kernel_rfl
theorem j13 : ((Rows.auditReadsRow.maps == (Tryz.f5.params.toList ++ (OpenSpec.ofChange Rows.auditReadsSpec).bare.plain.varTypes jP).any (jP.mapsRec ·))) = true := by kernel_rfl
theorem j14 : ((Rows.auditReadsRow.ifaces == (Tryz.f5.params.toList ++ (OpenSpec.ofChange Rows.auditReadsSpec).bare.plain.varTypes jP).any (jP.ifacesRec ·))) = true := by kernel_rfl
theorem j15 : ((Rows.auditReadsRow.mapsOut == jP.mapsAmong Tryz.f5.resultTypes.toList)) = true := by kernel_rfl
theorem j16 : ((Rows.auditReadsRow.loops == (Tryz.f5.params.toList ++ (OpenSpec.ofChange Rows.auditReadsSpec).bare.plain.varTypes jP).any (jP.loopsFrom ·))) = true := by kernel_rfl
theorem j17 : ((Rows.auditReadsRow.wideKeys == (Tryz.f5.params.toList ++ (OpenSpec.ofChange Rows.auditReadsSpec).bare.plain.varTypes jP ++ Tryz.f5.resultTypes.toList).any (jP.wideKeysFrom ·))) = true := by kernel_rfl
theorem j18 : ((OpenSpec.ofChange Rows.auditReadsSpec).bare.vars.all (jP.varReadable ·)) = true := by kernel_rfl
theorem j19 : (Tryz.f5.resultTypes.all (fun t => jP.readableRec t && decide (t < jP.types.size))) = true := by kernel_rfl
theorem j20 : ((Rows.auditReadsRow.ifacesOut == Tryz.f5.resultTypes.toList.any (jP.ifacesRec ·))) = true := by kernel_rfl
theorem j21 : ((Rows.auditReadsRow.loopsOut == Tryz.f5.resultTypes.toList.any (jP.loopsFrom ·))) = true := by kernel_rfl
theorem j23 : (Rows.auditReadsRow.shortTexts.isNone) = true := by kernel_rfl
theorem j28 : ((Rows.auditReadsRow.kinds == (if Rows.auditReadsRow.domain.isEmpty then [] else Tryz.f5.params.toList.map fun t => match jP.underlying t with | some (.int k) => some k | _ => none))) = true := by kernel_rfl
theorem j29 : ((Rows.auditReadsRow.pinned == Rows.auditReadsRow.pinnedBy)) = true := by kernel_rfl
theorem j30 : ((Rows.auditReadsRow.veiled == (Tryz.f5.params.toList ++ (OpenSpec.ofChange Rows.auditReadsSpec).bare.plain.varTypes jP ++ Tryz.f5.resultTypes.toList).any (jP.veiledRec ·))) = true := by kernel_rfl
theorem j31 : (Rows.auditReadsRow.veiledFits jP Tryz.f5.params.toList (Tryz.f5.params.toList ++ (OpenSpec.ofChange Rows.auditReadsSpec).bare.plain.varTypes jP ++ Tryz.f5.resultTypes.toList)) = true := by kernel_rfl
theorem closed : joinedFacts jP 5 Tryz.f5 (OpenSpec.ofChange Rows.auditReadsSpec).bare Rows.auditReadsRow = true := (jand (jand (jand (jand (jand (jand (jand (jand (jand (jand (jand (jand (jand (jand (jand (jand (jand (jand (jand (jand (jand (jand (jand (jand (jand (jand (jand (jand (jand (jand (jand j0 jsh1) jsh2) j3) j4) j5) jsh6) j7) jsh8) j9) j10) j11) j12) j13) j14) j15) j16) j17) j18) j19) j20) j21) jsh22) j23) jsh24) jsh25) jsh26) jsh27) j28) j29) j30) j31)
theorem named : jP.funcNamed Rows.auditReadsRow.func = some 5 := by kernel_rfl
theorem instd : Tryz.f5.isInstance jP Rows.auditReadsRow.origin Rows.auditReadsRow.targs := of_decide_eq_true (by kernel_rfl)
theorem wrapd : Tryz.f5.isWrapper jP Rows.auditReadsRow.wrapper Rows.auditReadsRow.mainSum := by unfold Func.isWrapper; first | (rw [if_pos (by decide +kernel)]; kernel_rfl) | (rw [if_neg (by decide +kernel)]; exact ⟨rfl, rfl⟩)
theorem said : Rows.AuditReadsSaid :=
  OpenClaim.holds_of_cond 5 Tryz.f5 rfl rfl rfl rfl rfl rfl rfl ⟨rfl, rfl, rfl, rfl, rfl⟩ rfl rfl rfl rfl rfl named Tryz.func5 closed
    instd wrapd
    (fun os started H enc _ F => by rw [OpenClaim.pre_eq_preRow]; exact lifted os started H enc F)
theorem plain (f : FuncId) (fn : Func) (hf : Tryz.pinned.checked.prog.funcNamed "icehouse/icehouselaw26.AuditReads" = some f) (hfn : Tryz.pinned.checked.prog.funcs[f]? = some fn) :
    true = Tryz.pinned.checked.prog.looks [] ∧ ∀ (j : Nat) t, fn.params[j]? = some t → Tryz.pinned.checked.prog.wantsStandIn t = false := by
  obtain rfl : f = 5 := Option.some.inj ((show Tryz.prog.funcNamed "icehouse/icehouselaw26.AuditReads" = some 5 by kernel_rfl).symm.trans hf) |>.symm
  obtain rfl : fn = Tryz.f5 := (Option.some.inj (Tryz.func5.symm.trans hfn)).symm
  refine ⟨by kernel_rfl, fun j t ht => ?_⟩
  rw [Tryz.params5] at ht
  rcases j with _ | _ | j
  · obtain rfl : 38 = t := by simpa using ht
    exact (show Tryz.prog.wantsStandIn 38 = false by kernel_rfl)
  · obtain rfl : 33 = t := by simpa using ht
    exact (show Tryz.prog.wantsStandIn 33 = false by kernel_rfl)
  · simp at ht
theorem card : Rows.AuditReadsCardSaid :=
  Claim7.holds_tied_plain_at .later [] _ _ _ _ said (fun _ h => by cases h) (by kernel_rfl) (fun _ h => by cases h) auditReads_row_tie rfl ⟨rfl, rfl⟩ (by kernel_rfl) rfl plain (by kernel_rfl)
#print axioms card
end Go.Proofs.YtclgkkencpkjpaaGreatDoor.auditReads
