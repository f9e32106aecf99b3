/- jacquardlaw02.GraphTells returns true whatever the input. -/
import Derived.Test.YtnmeomdjhjgnfaaRows
import Derived.Test.YtnmeomdjhjgnfaaB4
import Derived.Test.YtnmeomdjhjgnfaaB5
import Derived.Test.YtnmeomdjhjgnfaaJoin
import Derived.Test.YtnmeomdjhjgnfaaJoinm
import Derived.Test.YtnmeomdjhjgnfaaJoinl
import Derived.Test.YtnmeomdjhjgnfaaJoink
import Derived.WalkKit
import Derived.Deep.Matrix
import Derived.ProofKit
import Derived.OpenShut
import Derived.ShutString
import Derived.ChangeOld
import Derived.Below
import Derived.SizedLaws
import Derived.Test.YtnmeomdjhjgnfaaWSized
namespace Go.Proofs.Ytnmeomdjhjgnfaa.graphTells
open Go.ChangeShapes Go.WideShapes Go.ChangeAt Go.RowKit
open Go.ChangeMaps (open_string shut_string)
open Go.Proofs.YtnmeomdjhjgnfaaW.PrintWords (Kd ReadsInt.ofRowC)
set_option linter.unusedVariables false
theorem own : ownKnob Try.prog.godebug = none := by kernel_rfl
theorem laidOut : laidOutB Try.prog = true := by kernel_rfl
def IsRow (k : IntKind) (w : World) (a : Option Addr) (len cap : Nat) (zs : List Int) : Prop :=
  (a = none ∧ len = 0 ∧ cap = 0 ∧ zs = []) ∨
  ∃ x, a = some x ∧ len ≤ cap ∧ cap ≤ maxLen ∧ zs.length = cap ∧ (∀ i, i < zs.length → w.cell? (x.add i) = some (.int k (zs.getD i 0))) ∧ ∀ n ∈ zs, (Lit.int k n).wf = true
/-- Rows of whole numbers that came in. -/
theorem open_rows {H : Type} {enc : TypeId × Value → H} {W : World} {a0 : Option Addr} {len cap : Nat} {d : DataW H} {p : List MemPlace} (h : DataW.Trod enc Try.prog W 0 (fun _ => true) true 22 (.slice a0 len cap) d p) :
    ∃ l : List (List Int), len = l.length ∧ len ≤ cap ∧ Kd.C (Kd.slice 3 (Kd.int .i64)) W a0 l.length l := by
  obtain ⟨fuel, hf⟩ := h
  rcases Go.Deep.open_int_rows Try.underlying22 Try.underlying23 Try.underlying3 (by kernel_rfl) (by kernel_rfl) hf with ⟨hcs, _⟩ | ⟨x, l, c, A, L, C, Z, hcs, _, hl, hm, _, hr⟩
  · simp [Value.cells] at hcs
    obtain ⟨rfl, rfl, rfl⟩ := hcs
    exact ⟨[], rfl, Nat.le_refl _, Kd.C_nil _ _⟩
  · simp [Value.cells] at hcs
    obtain ⟨rfl, rfl, rfl⟩ := hcs
    have each : ∀ r, r < cap → ∃ y : List Int, L r = y.length ∧ Kd.C (Kd.int .i64) W (A r) y.length y := by
      intro r hrc
      obtain ⟨_, hLC, hCm, hZ, hwf, hnil, hcell⟩ := hr r hrc
      obtain ⟨y, hy, hr0, _, _, _⟩ := ReadsInt.ofRowC (k := .i64) (w := W) (a := A r) (len := L r) (cap := C r) (zs := Z r) (by
        rcases hA : A r with _ | a'
        · have h0 := hnil hA
          have hz : Z r = [] := List.length_eq_zero_iff.1 (by omega)
          exact .inl ⟨rfl, by omega, h0, hz⟩
        · exact .inr ⟨a', rfl, hLC, hCm, hZ, fun i hi => (hcell a' hA).2 i (by omega), hwf⟩)
      exact ⟨y, hy, by rw [← hy]; exact hy ▸ Kd.C_of_reads (d := (0 : Int)) (h1 := fun _ => rfl) hr0⟩
    obtain ⟨y, hy⟩ := Go.Deep.choose_lt each
    refine ⟨(List.range len).map y, by simp, hl, ?_⟩
    have hlen : ((List.range len).map y).length = len := by simp
    rw [hlen]
    refine ⟨hlen, by unfold maxLen at hm; omega, fun _ => ⟨x, rfl, fun j q hj => ?_⟩⟩
    have hj2 : j < len := by
      have := (List.getElem?_eq_some_iff.1 hj).1
      simpa using this
    have hq : q = y j := by
      rw [List.getElem?_map, List.getElem?_range hj2] at hj
      simpa using hj.symm
    subst hq
    obtain ⟨e1, hLC, _⟩ := hr j (by omega)
    obtain ⟨hyl, hyC⟩ := hy j (by omega)
    refine ⟨[.slice (A j) (L j) (C j)], rfl, ⟨A j, C j, by rw [hyl], by omega, hyC⟩, fun i u hu => ?_⟩
    cases i with
    | zero =>
      simp at hu
      subst hu
      show W.cell? (x.add (j * 1 + 0)) = _
      rw [show j * 1 + 0 = j from by omega]
      exact e1
    | succ i => simp at hu
theorem walk (a0 : Option Addr) (cap0 : Nat) (l0 : List (List Int)) (hc : l0.length ≤ cap0) (a1 : Option Addr) (len1 cap1 : Nat) (z1 : List Int) (w : World) (w0 : Kd.C (Kd.slice 3 (Kd.int .i64)) w a0 l0.length l0) (w1 : IsRow .i64 w a1 len1 cap1 z1) (y1 : len1 * 8 ≤ 140737488351232) :
    Calls Try.prog 3 #[.slice a0 l0.length cap0, .slice a1 len1 cap1] w fun e w' => e = .returned (.bool true) ∧ Below w.heap.size w w' := by
  obtain ⟨l1, rfl, hr1, hm1, hw1, hc1⟩ := ReadsInt.ofRowC w1
  obtain ⟨k1, g2, hk1, hG⟩ := X.made_some l1 y1
  obtain ⟨k2, p1, o1, d1, hd1, b1, v1, t1⟩ := Pure.told_all (X.fewL l0) (Pure.few_small l0).1 (Pure.few_small l0).2
  obtain ⟨k3, p2, o2, d2, hd2, b2, v2, t2⟩ := Pure.told_all g2 (by have := hG.few; omega) (fun r hr => by have := (hG.rows r hr).1; omega)
  obtain ⟨k4, p3, o3, d3, hd3, b3, v3, t3⟩ := X.told_nil
  exact X.graphTells_true (k1 + k2 + k3 + k4) a0 cap0 l0 a1 cap1 l1 w w0 (Kd.C_of_reads (d := (0 : Int)) (h1 := fun _ => rfl) hr1) hc1 (t1.up (by omega)) (X.up (f := fun k => X.jacquardref02_Made.f k l1) (fun k => X.jacquardref02_Made.mono _ k) (by omega) hk1) (t2.up (by omega)) (t3.up (by omega))
set_option maxRecDepth 100000 in
theorem lifted (os : Os) (started : os.Started) (H : Type) (enc : TypeId × Value → H) :
    ReturnsInHanded {} Try.checked os 3 .any (Rows.graphTellsSpec.pre6 enc Try.prog Try.f3 Rows.graphTellsRow.domain false) (Rows.graphTellsSpec.post enc Try.prog Try.f3 false true false false) := by
  refine returnsInHanded_of_change_sized (C := Try.checked) own started (by kernel_rfl) Try.func3
    (ChangeSpec.witness6 (enc := enc) (C := Try.checked) false ⟨#[], #[.slice none 0 0, .slice none 0 0], []⟩ 8 (by kernel_rfl) (by kernel_rfl) (by kernel_rfl) (by kernel_rfl)) ?_
  intro W base args ds gs before hval0 hW hcnd hsz0 _
  have hsz : (DataW.weightsEach Try.prog (Try.f3.params.toList ++ Rows.graphTellsSpec.plain.varTypes Try.prog) (ds ++ gs)).all (· ≤ reachBytes) = true := hsz0
  have hval : ∀ (j : Nat) t v, Try.f3.params[j]? = some t → args[j]? = some v → Value.okWide Try.prog W .any base t v := hval0
  have hW' := hW
  obtain ⟨p, q, hA0, hV, rfl, hfz, hnd⟩ := hW
  have hA : DataW.TrodAll enc Try.prog W 0 (fun _ => true) true Try.f3.params.toList args.toList ds p := hA0
  rw [Try.params3] at hA hval hsz
  obtain ⟨v0, vs0, d0, ds0, p0, q0, hargs, rfl, rfl, h0, r0⟩ := trodAll_cons hA
  obtain ⟨v1, vs1, d1, ds1, p1, q1, rfl, rfl, rfl, h1, r1⟩ := trodAll_cons r0
  obtain ⟨rfl, rfl, rfl⟩ := trodAll_nil r1
  obtain rfl : args = #[v0, v1] := by cases args; simp_all
  obtain ⟨rfl, rfl⟩ := trodVars_none hV
  obtain ⟨a0, len0, cap0, rfl⟩ := okWide_slice Try.underlying22 (hval 0 22 v0 rfl rfl)
  obtain ⟨a1, len1, cap1, rfl⟩ := okWide_slice Try.underlying23 (hval 1 23 v1 rfl rfl)
  have k0 := h0
  have k1 := h1
  have lt0 : ∀ x ∈ p0, x.block < W.heap.size := by obtain ⟨m, hm⟩ := k0; exact DataW.trod_lt m _ _ _ hm
  have lt1 : ∀ x ∈ p1, x.block < W.heap.size := by obtain ⟨m, hm⟩ := k1; exact DataW.trod_lt m _ _ _ hm
  obtain ⟨l0, rfl, hc0, w0⟩ := open_rows h0
  obtain ⟨z1, w1⟩ : ∃ zs, IsRow .i64 W a1 len1 cap1 zs := by
    obtain ⟨fuel, hf⟩ := h1
    rcases open_ints Try.underlying23 Try.underlying3 (by kernel_rfl) hf with ⟨hcs, _⟩ | ⟨x, l, c, zs, hcs, _, hl, hm, hz, _, hcell, hwz⟩
    · simp [Value.cells] at hcs
      obtain ⟨rfl, rfl, rfl⟩ := hcs
      exact ⟨[], .inl ⟨rfl, rfl, rfl, rfl⟩⟩
    · simp [Value.cells] at hcs
      obtain ⟨rfl, rfl, rfl⟩ := hcs
      exact ⟨zs, .inr ⟨_, rfl, hl, hm, by simpa using hz, hcell, hwz⟩⟩
  have y1 : len1 * 8 ≤ 140737488351232 := Go.Proofs.YtnmeomdjhjgnfaaW.PrintWords.sized_ints hsz (j := 1) (t := 23) rfl rfl Try.underlying23 Try.underlying3 (by kernel_rfl) (by kernel_rfl) h1
  clear hA0 hval0 hsz0 hsz
  refine (walk a0 cap0 l0 hc0 a1 len1 cap1 z1 W w0 w1 y1).mono fun e W' ⟨he, bel⟩ => ?_
  subst he
  exact ⟨_, rfl, _, _, _, [], _, [], hW', trodAll_mk1 (shut_bool Try.underlying4 _), (trodAll_cons_mk (Below.trod laidOut (by kernel_rfl) (of_decide_eq_true (by kernel_rfl)) k0 bel lt0) (trodAll_cons_mk (Below.trod laidOut (by kernel_rfl) (of_decide_eq_true (by kernel_rfl)) k1 bel lt1) trodAll_mk0)), rfl, bel.frame _, fun h => by cases h⟩
theorem j3 : (Rows.graphTellsRow.inPlace == Try.checked.prog.inPlace 3) = true := by kernel_rfl
theorem j4 : (Rows.graphTellsRow.unfollowed == Try.checked.prog.unfollowed 3) = true := by kernel_rfl
theorem j5 : (Rows.graphTellsRow.recurses == Try.checked.prog.recurses 3) = true := by kernel_rfl
theorem j6 : (Rows.graphTellsRow.named == Try.checked.prog.varsNamed 3) = true := by kernel_rfl
theorem j0 : joinedSmall Try.checked.prog 3 Try.f3 Rows.graphTellsSpec Rows.graphTellsRow = true := by kernel_rfl
theorem over : Rows.graphTellsRow.holds Try.pinned (OpenSpec.ofChange Rows.graphTellsSpec) :=
  OpenClaim.holds_of_wide 3 Try.f3 rfl rfl rfl rfl rfl rfl rfl ⟨rfl, rfl, rfl, rfl, rfl⟩ rfl rfl rfl rfl rfl (by kernel_rfl) Try.func3 (joined_of j0 J_laidOut J_mapsRowed j3 j4 j5 j6 J_plainKeys J_stopsHeard J_mayEnter J_lifts J_make)
    (of_decide_eq_true (by kernel_rfl)) (by unfold Func.isWrapper; first | (rw [if_pos (by decide +kernel)]; kernel_rfl) | (rw [if_neg (by decide +kernel)]; exact ⟨rfl, rfl⟩))
    (fun os started H enc _ => lifted os started H enc)
theorem proved : Rows.GraphTellsSaid := over
#print axioms proved
end Go.Proofs.Ytnmeomdjhjgnfaa.graphTells
namespace Go.Proofs.Ytnmeomdjhjgnfaa
/-- The row, under a short name, for the claim. -/
theorem graphTells_holds : Rows.GraphTellsSaid := graphTells.proved
end Go.Proofs.Ytnmeomdjhjgnfaa
