/- The row's closed facts in parts: what is of the whole program is shown once, in texts of its own (one check of all of them at once takes the kernel more than ten thousand megabytes here). -/
import Derived.Test.YtnmeomdjhjgnfaaRows
import Derived.Test.YtnmeomdjhjgnfaaChecked
import Derived.JoinedOf
set_option linter.unusedSimpArgs false
set_option linter.unusedVariables false
/-! One closed fact of the whole program. -/
namespace Go.Proofs.Ytnmeomdjhjgnfaa
set_option maxRecDepth 100000 in
theorem J_plainKeys : (Rows.graphTurnsRow.plainKeys == Try.checked.prog.plainKeys) = true := by kernel_rfl
end Go.Proofs.Ytnmeomdjhjgnfaa
namespace Go.Proofs.Ytnmeomdjhjgnfaa
/-- What is left when the large ones are known. -/
def joinedSmall (P : Program) (f : FuncId) (fn : Func) (s : ChangeSpec) (c : OpenClaim) : Bool :=
  c.wf (OpenSpec.ofChange s) &&
  fn.params.all (P.readableRec ·) && namedTie P c.named s.vars &&
  (c.stops == []) && (P.stops == []) && (c.knobs == []) && (P.stopKnobs == []) &&
  (c.maps == (fn.params.toList ++ s.plain.varTypes P).any (P.mapsRec ·)) && (c.ifaces == (fn.params.toList ++ s.plain.varTypes P).any (P.ifacesRec ·)) && (c.mapsOut == P.mapsAmong fn.resultTypes.toList) &&
  (c.loops == (fn.params.toList ++ s.plain.varTypes P).any (P.loopsFrom ·)) && (c.wideKeys == (fn.params.toList ++ s.plain.varTypes P ++ fn.resultTypes.toList).any (P.wideKeysFrom ·)) &&
  s.vars.all (P.varReadable ·) && fn.resultTypes.all (fun t => P.readableRec t && decide (t < P.types.size)) && (c.ifacesOut == fn.resultTypes.toList.any (P.ifacesRec ·)) && (c.loopsOut == fn.resultTypes.toList.any (P.loopsFrom ·)) && c.shortTexts.isNone && (c.kinds == (if c.domain.isEmpty then [] else fn.params.toList.map fun t => match P.underlying t with | some (.int k) => some k | _ => none)) && (c.pinned == c.pinnedBy) &&
  (c.veiled == (fn.params.toList ++ s.plain.varTypes P ++ fn.resultTypes.toList).any (P.veiledRec ·)) && c.veiledFits P fn.params.toList (fn.params.toList ++ s.plain.varTypes P ++ fn.resultTypes.toList)
theorem joined_of {P : Program} {f : FuncId} {fn : Func} {s : ChangeSpec} {c : OpenClaim} (h : joinedSmall P f fn s c = true) (h1 : laidOutB P = true) (h2 : mapsRowed P = true) (h3 : (c.inPlace == P.inPlace f) = true) (h4 : (c.unfollowed == P.unfollowed f) = true)
    (h5 : (c.recurses == P.recurses f) = true) (h6 : (c.named == P.varsNamed f) = true) (h7 : (c.plainKeys == P.plainKeys) = true) (h8 : P.stopsHeard = true) (h9 : P.mayEnter = true) (h10 : (c.lifted == P.liftsFinal) = true) (h11 : (P.make == some c.make) = true) : joinedFacts P f fn s c = true := by
  unfold joinedSmall at h
  unfold joinedFacts
  simp only [Bool.and_eq_true] at h ⊢
  obtain ⟨⟨⟨⟨⟨⟨⟨⟨⟨⟨⟨⟨⟨⟨⟨⟨⟨⟨⟨⟨k1, k2⟩, k3⟩, k4⟩, k5⟩, k6⟩, k7⟩, k8⟩, k9⟩, k10⟩, k11⟩, k12⟩, k13⟩, k14⟩, k15⟩, k16⟩, k17⟩, k18⟩, k19⟩, k20⟩, k21⟩ := h
  exact ⟨⟨⟨⟨⟨⟨⟨⟨⟨⟨⟨⟨⟨⟨⟨⟨⟨⟨⟨⟨⟨⟨⟨⟨⟨⟨⟨⟨⟨⟨⟨k1, h1⟩, h2⟩, k2⟩, k3⟩, k4⟩, k5⟩, k6⟩, k7⟩, h3⟩, h4⟩, h5⟩, h6⟩, k8⟩, k9⟩, k10⟩, k11⟩, k12⟩, k13⟩, k14⟩, k15⟩, k16⟩, h7⟩, k17⟩, h8⟩, h9⟩, h10⟩, h11⟩, k18⟩, k19⟩, k20⟩, k21⟩
set_option maxRecDepth 100000
theorem J_laidOut : laidOutB Try.checked.prog = true := by kernel_rfl
theorem J_mapsRowed : mapsRowed Try.checked.prog = true := by kernel_rfl
theorem J_stopsHeard : Try.checked.prog.stopsHeard = true := by kernel_rfl
end Go.Proofs.Ytnmeomdjhjgnfaa
