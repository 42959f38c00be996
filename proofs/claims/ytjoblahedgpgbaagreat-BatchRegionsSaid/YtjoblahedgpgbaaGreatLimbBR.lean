/- The closed facts of the row of BatchRegions, one by one. -/
import Derived.Test.YtjoblahedgpgbaaGreatRows
import Derived.JoinedOf
import Derived.KernelRfl
namespace Go.Proofs.YtjoblahedgpgbaaGreat.batchRegions
set_option linter.unusedVariables false
theorem and_t {a b : Bool} (ha : a = true) (hb : b = true) : (a && b) = true := by rw [ha, hb]; rfl
theorem z0 : (Rows.batchRegionsRow.wf (OpenSpec.ofChange Rows.batchRegionsSpec)) = true := by kernel_rfl
theorem z1 : (laidOutB Tryz.prog) = true := by kernel_rfl
theorem z2 : (mapsRowed Tryz.prog) = true := by kernel_rfl
theorem z3 : (Tryz.f3.params.all (Tryz.prog.readableRec ·)) = true := by kernel_rfl
theorem z4 : (namedTie Tryz.prog Rows.batchRegionsRow.named Rows.batchRegionsSpec.vars) = true := by kernel_rfl
theorem z5 : ((Rows.batchRegionsRow.stops == [])) = true := by kernel_rfl
theorem z6 : ((Tryz.prog.stops == [])) = true := by kernel_rfl
theorem z7 : ((Rows.batchRegionsRow.knobs == [])) = true := by kernel_rfl
theorem z8 : ((Tryz.prog.stopKnobs == [])) = true := by kernel_rfl
theorem z9 : ((Rows.batchRegionsRow.inPlace == Tryz.prog.inPlace 3)) = true := by kernel_rfl
theorem z10 : ((Rows.batchRegionsRow.unfollowed == Tryz.prog.unfollowed 3)) = true := by kernel_rfl
theorem z11 : ((Rows.batchRegionsRow.recurses == Tryz.prog.recurses 3)) = true := by kernel_rfl
theorem z12 : ((Rows.batchRegionsRow.named == Tryz.prog.varsNamed 3)) = true := by kernel_rfl
theorem z13 : ((Rows.batchRegionsRow.maps == (Tryz.f3.params.toList ++ Rows.batchRegionsSpec.plain.varTypes Tryz.prog).any (Tryz.prog.mapsRec ·))) = true := by kernel_rfl
theorem z14 : ((Rows.batchRegionsRow.ifaces == (Tryz.f3.params.toList ++ Rows.batchRegionsSpec.plain.varTypes Tryz.prog).any (Tryz.prog.ifacesRec ·))) = true := by kernel_rfl
theorem z15 : ((Rows.batchRegionsRow.mapsOut == Tryz.prog.mapsAmong Tryz.f3.resultTypes.toList)) = true := by kernel_rfl
theorem z16 : ((Rows.batchRegionsRow.loops == (Tryz.f3.params.toList ++ Rows.batchRegionsSpec.plain.varTypes Tryz.prog).any (Tryz.prog.loopsFrom ·))) = true := by kernel_rfl
theorem z17 : ((Rows.batchRegionsRow.wideKeys == (Tryz.f3.params.toList ++ Rows.batchRegionsSpec.plain.varTypes Tryz.prog ++ Tryz.f3.resultTypes.toList).any (Tryz.prog.wideKeysFrom ·))) = true := by kernel_rfl
theorem z18 : (Rows.batchRegionsSpec.vars.all (Tryz.prog.varReadable ·)) = true := by kernel_rfl
theorem z19 : (Tryz.f3.resultTypes.all (fun t => Tryz.prog.readableRec t && decide (t < Tryz.prog.types.size))) = true := by kernel_rfl
theorem z20 : ((Rows.batchRegionsRow.ifacesOut == Tryz.f3.resultTypes.toList.any (Tryz.prog.ifacesRec ·))) = true := by kernel_rfl
theorem z21 : ((Rows.batchRegionsRow.loopsOut == Tryz.f3.resultTypes.toList.any (Tryz.prog.loopsFrom ·))) = true := by kernel_rfl
theorem z22 : ((Rows.batchRegionsRow.plainKeys == Tryz.prog.plainKeys)) = true := by kernel_rfl
theorem z23 : (Rows.batchRegionsRow.shortTexts.isNone) = true := by kernel_rfl
theorem z24 : (Tryz.prog.stopsHeard) = true := by
  have h : (Tryz.prog.funcs.all fun fn => !fn.norace) = true := by kernel_rfl
  unfold Program.stopsHeard
  rw [Array.all_eq_true_iff_forall_mem] at h ⊢
  exact fun fn hf => by rw [h fn hf, Bool.or_true]
theorem z25 : (Tryz.prog.mayEnter) = true := by kernel_rfl
theorem z26 : ((Rows.batchRegionsRow.lifted == Tryz.prog.liftsFinal)) = true := by kernel_rfl
theorem z27 : ((Tryz.prog.make == some Rows.batchRegionsRow.make)) = true := by kernel_rfl
theorem z28 : ((Rows.batchRegionsRow.kinds == (if Rows.batchRegionsRow.domain.isEmpty then [] else Tryz.f3.params.toList.map fun t => match Tryz.prog.underlying t with | some (.int k) => some k | _ => none))) = true := by kernel_rfl
theorem z29 : ((Rows.batchRegionsRow.pinned == Rows.batchRegionsRow.pinnedBy)) = true := by kernel_rfl
theorem z30 : ((Rows.batchRegionsRow.veiled == (Tryz.f3.params.toList ++ Rows.batchRegionsSpec.plain.varTypes Tryz.prog ++ Tryz.f3.resultTypes.toList).any (Tryz.prog.veiledRec ·))) = true := by kernel_rfl
theorem z31 : (Rows.batchRegionsRow.veiledFits Tryz.prog Tryz.f3.params.toList (Tryz.f3.params.toList ++ Rows.batchRegionsSpec.plain.varTypes Tryz.prog ++ Tryz.f3.resultTypes.toList)) = true := by kernel_rfl
set_option maxRecDepth 100000 in
theorem closed : joinedFacts Tryz.prog 3 Tryz.f3 Rows.batchRegionsSpec Rows.batchRegionsRow = true := (and_t (and_t (and_t (and_t (and_t (and_t (and_t (and_t (and_t (and_t (and_t (and_t (and_t (and_t (and_t (and_t (and_t (and_t (and_t (and_t (and_t (and_t (and_t (and_t (and_t (and_t (and_t (and_t (and_t (and_t (and_t z0 z1) z2) z3) z4) z5) z6) z7) z8) z9) z10) z11) z12) z13) z14) z15) z16) z17) z18) z19) z20) z21) z22) z23) z24) z25) z26) z27) z28) z29) z30) z31)
end Go.Proofs.YtjoblahedgpgbaaGreat.batchRegions
