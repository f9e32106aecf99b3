/- jacquardlaw02.GraphOf returns true whatever the input. -/
import Derived.Test.YtnmeomdjhjgnfaaRows
import Derived.Test.YtnmeomdjhjgnfaaB3
import Derived.Test.YtnmeomdjhjgnfaaJoin
import Derived.Test.YtnmeomdjhjgnfaaJoinm
import Derived.Test.YtnmeomdjhjgnfaaJoinl
import Derived.Test.YtnmeomdjhjgnfaaJoink
import Derived.WalkKit
import Derived.Deep.Matrix
import Derived.ProofKit
import Derived.OpenShut
import Derived.ShutString
import Derived.ChangeOld
import Derived.Below
import Derived.SizedLaws
namespace Go.Proofs.Ytnmeomdjhjgnfaa.graphOf
open Go.ChangeShapes Go.WideShapes Go.ChangeAt Go.RowKit
open Go.ChangeMaps (open_string shut_string)
open Go.Proofs.YtnmeomdjhjgnfaaW.PrintWords (Kd ReadsInt.ofRowC)
set_option linter.unusedVariables false
theorem own : ownKnob Try.prog.godebug = none := by kernel_rfl
theorem laidOut : laidOutB Try.prog = true := by kernel_rfl
def IsRow (k : IntKind) (w : World) (a : Option Addr) (len cap : Nat) (zs : List Int) : Prop :=
  (a = none ∧ len = 0 ∧ cap = 0 ∧ zs = []) ∨
  ∃ x, a = some x ∧ len ≤ cap ∧ cap ≤ maxLen ∧ zs.length = cap ∧ (∀ i, i < zs.length → w.cell? (x.add i) = some (.int k (zs.getD i 0))) ∧ ∀ n ∈ zs, (Lit.int k n).wf = true
/-- Rows of whole numbers that came in. -/
theorem open_rows {H : Type} {enc : TypeId × Value → H} {W : World} {a0 : Option Addr} {len cap : Nat} {d : DataW H} {p : List MemPlace} (h : DataW.Trod enc Try.prog W 0 (fun _ => true) true 22 (.slice a0 len cap) d p) :
    ∃ l : List (List Int), len = l.length ∧ len ≤ cap ∧ Kd.C (Kd.slice 3 (Kd.int .i64)) W a0 l.length l := by
  obtain ⟨fuel, hf⟩ := h
  rcases Go.Deep.open_int_rows Try.underlying22 Try.underlying23 Try.underlying3 (by kernel_rfl) (by kernel_rfl) hf with ⟨hcs, _⟩ | ⟨x, l, c, A, L, C, Z, hcs, _, hl, hm, _, hr⟩
  · simp [Value.cells] at hcs
    obtain ⟨rfl, rfl, rfl⟩ := hcs
    exact ⟨[], rfl, Nat.le_refl _, Kd.C_nil _ _⟩
  · simp [Value.cells] at hcs
    obtain ⟨rfl, rfl, rfl⟩ := hcs
    have each : ∀ r, r < cap → ∃ y : List Int, L r = y.length ∧ Kd.C (Kd.int .i64) W (A r) y.length y := by
      intro r hrc
      obtain ⟨_, hLC, hCm, hZ, hwf, hnil, hcell⟩ := hr r hrc
      obtain ⟨y, hy, hr0, _, _, _⟩ := ReadsInt.ofRowC (k := .i64) (w := W) (a := A r) (len := L r) (cap := C r) (zs := Z r) (by
        rcases hA : A r with _ | a'
        · have h0 := hnil hA
          have hz : Z r = [] := List.length_eq_zero_iff.1 (by omega)
          exact .inl ⟨rfl, by omega, h0, hz⟩
        · exact .inr ⟨a', rfl, hLC, hCm, hZ, fun i hi => (hcell a' hA).2 i (by omega), hwf⟩)
      exact ⟨y, hy, by rw [← hy]; exact hy ▸ Kd.C_of_reads (d := (0 : Int)) (h1 := fun _ => rfl) hr0⟩
    obtain ⟨y, hy⟩ := Go.Deep.choose_lt each
    refine ⟨(List.range len).map y, by simp, hl, ?_⟩
    have hlen : ((List.range len).map y).length = len := by simp
    rw [hlen]
    refine ⟨hlen, by unfold maxLen at hm; omega, fun _ => ⟨x, rfl, fun j q hj => ?_⟩⟩
    have hj2 : j < len := by
      have := (List.getElem?_eq_some_iff.1 hj).1
      simpa using this
    have hq : q = y j := by
      rw [List.getElem?_map, List.getElem?_range hj2] at hj
      simpa using hj.symm
    subst hq
    obtain ⟨e1, hLC, _⟩ := hr j (by omega)
    obtain ⟨hyl, hyC⟩ := hy j (by omega)
    refine ⟨[.slice (A j) (L j) (C j)], rfl, ⟨A j, C j, by rw [hyl], by omega, hyC⟩, fun i u hu => ?_⟩
    cases i with
    | zero =>
      simp at hu
      subst hu
      show W.cell? (x.add (j * 1 + 0)) = _
      rw [show j * 1 + 0 = j from by omega]
      exact e1
    | succ i => simp at hu
theorem walk (a0 : Option Addr) (cap0 : Nat) (l0 : List (List Int)) (w : World) (w0 : Kd.C (Kd.slice 3 (Kd.int .i64)) w a0 l0.length l0) :
    Calls Try.prog 13 #[.slice a0 l0.length cap0] w fun e w' => e = .returned (.bool true) ∧ Below w.heap.size w w' := by
  obtain ⟨k, r, h1, h2, h3⟩ := Pure.of_all l0
  exact X.graphOf_true k a0 cap0 l0 w w0 h1 h2 h3
set_option maxRecDepth 100000 in
theorem lifted (os : Os) (started : os.Started) (H : Type) (enc : TypeId × Value → H) :
    ReturnsInHanded {} Try.checked os 13 .any (Rows.graphOfSpec.pre6 enc Try.prog Try.f13 Rows.graphOfRow.domain false) (Rows.graphOfSpec.post enc Try.prog Try.f13 false true false false) := by
  refine returnsInHanded_of_change_sized (C := Try.checked) own started (by kernel_rfl) Try.func13
    (ChangeSpec.witness6 (enc := enc) (C := Try.checked) false ⟨#[], #[.slice none 0 0], []⟩ 8 (by kernel_rfl) (by kernel_rfl) (by kernel_rfl) (by kernel_rfl)) ?_
  intro W base args ds gs before hval0 hW hcnd hsz0 _
  have hsz : (DataW.weightsEach Try.prog (Try.f13.params.toList ++ Rows.graphOfSpec.plain.varTypes Try.prog) (ds ++ gs)).all (· ≤ reachBytes) = true := hsz0
  have hval : ∀ (j : Nat) t v, Try.f13.params[j]? = some t → args[j]? = some v → Value.okWide Try.prog W .any base t v := hval0
  have hW' := hW
  obtain ⟨p, q, hA0, hV, rfl, hfz, hnd⟩ := hW
  have hA : DataW.TrodAll enc Try.prog W 0 (fun _ => true) true Try.f13.params.toList args.toList ds p := hA0
  rw [Try.params13] at hA hval hsz
  obtain ⟨v0, vs0, d0, ds0, p0, q0, hargs, rfl, rfl, h0, r0⟩ := trodAll_cons hA
  obtain ⟨rfl, rfl, rfl⟩ := trodAll_nil r0
  obtain rfl : args = #[v0] := by cases args; simp_all
  obtain ⟨rfl, rfl⟩ := trodVars_none hV
  obtain ⟨a0, len0, cap0, rfl⟩ := okWide_slice Try.underlying22 (hval 0 22 v0 rfl rfl)
  have k0 := h0
  have lt0 : ∀ x ∈ p0, x.block < W.heap.size := by obtain ⟨m, hm⟩ := k0; exact DataW.trod_lt m _ _ _ hm
  obtain ⟨l0, rfl, hc0, w0⟩ := open_rows h0
  clear hA0 hval0 hsz0 hsz
  refine (walk a0 cap0 l0 W w0).mono fun e W' ⟨he, bel⟩ => ?_
  subst he
  exact ⟨_, rfl, _, _, _, [], _, [], hW', trodAll_mk1 (shut_bool Try.underlying4 _), (trodAll_cons_mk (Below.trod laidOut (by kernel_rfl) (of_decide_eq_true (by kernel_rfl)) k0 bel lt0) trodAll_mk0), rfl, bel.frame _, fun h => by cases h⟩
theorem j3 : (Rows.graphOfRow.inPlace == Try.checked.prog.inPlace 13) = true := by kernel_rfl
theorem j4 : (Rows.graphOfRow.unfollowed == Try.checked.prog.unfollowed 13) = true := by kernel_rfl
theorem j5 : (Rows.graphOfRow.recurses == Try.checked.prog.recurses 13) = true := by kernel_rfl
theorem j6 : (Rows.graphOfRow.named == Try.checked.prog.varsNamed 13) = true := by kernel_rfl
theorem j0 : joinedSmall Try.checked.prog 13 Try.f13 Rows.graphOfSpec Rows.graphOfRow = true := by kernel_rfl
theorem over : Rows.graphOfRow.holds Try.pinned (OpenSpec.ofChange Rows.graphOfSpec) :=
  OpenClaim.holds_of_wide 13 Try.f13 rfl rfl rfl rfl rfl rfl rfl ⟨rfl, rfl, rfl, rfl, rfl⟩ rfl rfl rfl rfl rfl (by kernel_rfl) Try.func13 (joined_of j0 J_laidOut J_mapsRowed j3 j4 j5 j6 J_plainKeys J_stopsHeard J_mayEnter J_lifts J_make)
    (of_decide_eq_true (by kernel_rfl)) (by unfold Func.isWrapper; first | (rw [if_pos (by decide +kernel)]; kernel_rfl) | (rw [if_neg (by decide +kernel)]; exact ⟨rfl, rfl⟩))
    (fun os started H enc _ => lifted os started H enc)
theorem proved : Rows.GraphOfSaid := over
#print axioms proved
end Go.Proofs.Ytnmeomdjhjgnfaa.graphOf
namespace Go.Proofs.Ytnmeomdjhjgnfaa
/-- The row, under a short name, for the claim. -/
theorem graphOf_holds : Rows.GraphOfSaid := graphOf.proved
end Go.Proofs.Ytnmeomdjhjgnfaa
