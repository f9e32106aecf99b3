/- jacquardlaw02.GraphPut returns true whatever the input. -/
import Derived.Test.YtnmeomdjhjgnfaaRows
import Derived.Test.YtnmeomdjhjgnfaaB3
import Derived.Test.YtnmeomdjhjgnfaaB4
import Derived.Test.YtnmeomdjhjgnfaaJoin
import Derived.Test.YtnmeomdjhjgnfaaJoinm
import Derived.Test.YtnmeomdjhjgnfaaJoinl
import Derived.Test.YtnmeomdjhjgnfaaJoink
import Derived.WalkKit
import Derived.ProofKit
import Derived.OpenShut
import Derived.ShutString
import Derived.ChangeOld
import Derived.Below
import Derived.SizedLaws
import Derived.Test.YtnmeomdjhjgnfaaWSized
namespace Go.Proofs.Ytnmeomdjhjgnfaa.graphPut
open Go.ChangeShapes Go.WideShapes Go.ChangeAt Go.RowKit
open Go.ChangeMaps (open_string shut_string)
open Go.Proofs.YtnmeomdjhjgnfaaW.PrintWords (Kd ReadsInt.ofRowC)
set_option linter.unusedVariables false
theorem own : ownKnob Try.prog.godebug = none := by kernel_rfl
theorem laidOut : laidOutB Try.prog = true := by kernel_rfl
def IsRow (k : IntKind) (w : World) (a : Option Addr) (len cap : Nat) (zs : List Int) : Prop :=
  (a = none ∧ len = 0 ∧ cap = 0 ∧ zs = []) ∨
  ∃ x, a = some x ∧ len ≤ cap ∧ cap ≤ maxLen ∧ zs.length = cap ∧ (∀ i, i < zs.length → w.cell? (x.add i) = some (.int k (zs.getD i 0))) ∧ ∀ n ∈ zs, (Lit.int k n).wf = true
theorem okWide_arr {P : Program} {w : World} {r : Reach} {base : Nat} {t e : TypeId} {n : Nat} {v : Value} (ht : P.underlying t = some (.array n e)) (h : Value.okWide P w r base t v) : ∃ cs, v = .agg cs ∧ cs.size = P.cellsOf t := by
  unfold Value.okWide at h
  rw [ht] at h
  exact ⟨h.choose, h.choose_spec.1, h.choose_spec.2.1⟩
set_option maxRecDepth 100000 in
/-- An array of two whole numbers that came in. -/
theorem open_two {H : Type} {enc : TypeId × Value → H} {W : World} {base : Nat} {v : Value} {d : DataW H} {p : List MemPlace} (hv : Value.okWide Try.prog W .any base 73 v) (h : DataW.Trod enc Try.prog W 0 (fun _ => true) true 73 v d p) :
    ∃ a b : Int, v = .agg #[.int .i64 a, .int .i64 b] := by
  obtain ⟨cs, rfl, hsz⟩ := okWide_arr Try.underlying73 hv
  have h2 : Try.prog.cellsOf 73 = 2 := by kernel_rfl
  have h1 : Try.prog.cellsOf 3 = 1 := by kernel_rfl
  rw [h2] at hsz
  obtain ⟨fuel, hf⟩ := h
  obtain ⟨xs, m, _, _, hl, hn, he⟩ := DataW.trod_array Try.underlying73 hf
  obtain ⟨l, rfl⟩ : ∃ l : List Value, cs = l.toArray := ⟨cs.toList, by simp⟩
  simp [Value.cells] at hsz he
  match l, hsz with
  | [u, v], _ =>
    have e0 := he 0 (by omega)
    have e1 := he 1 (by omega)
    rw [h1] at e0 e1
    simp at e0 e1
    rw [List.getElem?_eq_getElem (by omega)] at e0 e1
    obtain ⟨a, ha, _⟩ := DataW.trod_int Try.underlying3 e0
    obtain ⟨b, hb, _⟩ := DataW.trod_int Try.underlying3 e1
    simp at ha hb
    exact ⟨a, b, by rw [ha, hb]⟩
theorem walk (a0 : Option Addr) (len0 cap0 : Nat) (z0 : List Int) (a b : Int) (w : World) (w0 : IsRow .i64 w a0 len0 cap0 z0) (y0 : len0 * 8 ≤ 140737488351232) :
    Calls Try.prog 11 #[.slice a0 len0 cap0, .agg #[.int .i64 a, .int .i64 b]] w fun e w' => e = .returned (.bool true) ∧ Below w.heap.size w w' := by
  obtain ⟨l0, rfl, hr0, hm0, hw0, hc0⟩ := ReadsInt.ofRowC w0
  obtain ⟨k, h⟩ := Pure.put_all l0 a b y0
  refine (X.jacquardlaw02_GraphPut.calls k _ _ l0 a b true w (Kd.C_of_reads (d := (0 : Int)) (h1 := fun _ => rfl) hr0) hc0 h).mono ?_
  rintro e w' ⟨rfl, hd⟩
  exact ⟨rfl, hd⟩
set_option maxRecDepth 100000 in
theorem lifted (os : Os) (started : os.Started) (H : Type) (enc : TypeId × Value → H) :
    ReturnsInHanded {} Try.checked os 11 .any (Rows.graphPutSpec.pre6 enc Try.prog Try.f11 Rows.graphPutRow.domain false) (Rows.graphPutSpec.post enc Try.prog Try.f11 false true false false) := by
  refine returnsInHanded_of_change_sized (C := Try.checked) own started (by kernel_rfl) Try.func11
    (ChangeSpec.witness6 (enc := enc) (C := Try.checked) false ⟨#[], #[.slice none 0 0, .agg #[.int .i64 0, .int .i64 0]], []⟩ 8 (by kernel_rfl) (by kernel_rfl) (by kernel_rfl) (by kernel_rfl)) ?_
  intro W base args ds gs before hval0 hW hcnd hsz0 _
  have hsz : (DataW.weightsEach Try.prog (Try.f11.params.toList ++ Rows.graphPutSpec.plain.varTypes Try.prog) (ds ++ gs)).all (· ≤ reachBytes) = true := hsz0
  have hval : ∀ (j : Nat) t v, Try.f11.params[j]? = some t → args[j]? = some v → Value.okWide Try.prog W .any base t v := hval0
  have hW' := hW
  obtain ⟨p, q, hA0, hV, rfl, hfz, hnd⟩ := hW
  have hA : DataW.TrodAll enc Try.prog W 0 (fun _ => true) true Try.f11.params.toList args.toList ds p := hA0
  rw [Try.params11] at hA hval hsz
  obtain ⟨v0, vs0, d0, ds0, p0, q0, hargs, rfl, rfl, h0, r0⟩ := trodAll_cons hA
  obtain ⟨v1, vs1, d1, ds1, p1, q1, rfl, rfl, rfl, h1, r1⟩ := trodAll_cons r0
  obtain ⟨rfl, rfl, rfl⟩ := trodAll_nil r1
  obtain rfl : args = #[v0, v1] := by cases args; simp_all
  obtain ⟨rfl, rfl⟩ := trodVars_none hV
  obtain ⟨a0, len0, cap0, rfl⟩ := okWide_slice Try.underlying23 (hval 0 23 v0 rfl rfl)
  have k0 := h0
  have k1 := h1
  have lt0 : ∀ x ∈ p0, x.block < W.heap.size := by obtain ⟨m, hm⟩ := k0; exact DataW.trod_lt m _ _ _ hm
  have lt1 : ∀ x ∈ p1, x.block < W.heap.size := by obtain ⟨m, hm⟩ := k1; exact DataW.trod_lt m _ _ _ hm
  obtain ⟨z0, w0⟩ : ∃ zs, IsRow .i64 W a0 len0 cap0 zs := by
    obtain ⟨fuel, hf⟩ := h0
    rcases open_ints Try.underlying23 Try.underlying3 (by kernel_rfl) hf with ⟨hcs, _⟩ | ⟨x, l, c, zs, hcs, _, hl, hm, hz, _, hcell, hwz⟩
    · simp [Value.cells] at hcs
      obtain ⟨rfl, rfl, rfl⟩ := hcs
      exact ⟨[], .inl ⟨rfl, rfl, rfl, rfl⟩⟩
    · simp [Value.cells] at hcs
      obtain ⟨rfl, rfl, rfl⟩ := hcs
      exact ⟨zs, .inr ⟨_, rfl, hl, hm, by simpa using hz, hcell, hwz⟩⟩
  have y0 : len0 * 8 ≤ 140737488351232 := Go.Proofs.YtnmeomdjhjgnfaaW.PrintWords.sized_ints hsz (j := 0) (t := 23) rfl rfl Try.underlying23 Try.underlying3 (by kernel_rfl) (by kernel_rfl) h0
  obtain ⟨a, b, rfl⟩ := open_two (hval 1 73 v1 rfl rfl) h1
  clear hA0 hval0 hsz0 hsz
  refine (walk a0 len0 cap0 z0 a b W w0 y0).mono fun e W' ⟨he, bel⟩ => ?_
  subst he
  exact ⟨_, rfl, _, _, _, [], _, [], hW', trodAll_mk1 (shut_bool Try.underlying4 _), (trodAll_cons_mk (Below.trod laidOut (by kernel_rfl) (of_decide_eq_true (by kernel_rfl)) k0 bel lt0) (trodAll_cons_mk (Below.trod laidOut (by kernel_rfl) (of_decide_eq_true (by kernel_rfl)) k1 bel lt1) trodAll_mk0)), rfl, bel.frame _, fun h => by cases h⟩
theorem j3 : (Rows.graphPutRow.inPlace == Try.checked.prog.inPlace 11) = true := by kernel_rfl
theorem j4 : (Rows.graphPutRow.unfollowed == Try.checked.prog.unfollowed 11) = true := by kernel_rfl
theorem j5 : (Rows.graphPutRow.recurses == Try.checked.prog.recurses 11) = true := by kernel_rfl
theorem j6 : (Rows.graphPutRow.named == Try.checked.prog.varsNamed 11) = true := by kernel_rfl
theorem j0 : joinedSmall Try.checked.prog 11 Try.f11 Rows.graphPutSpec Rows.graphPutRow = true := by kernel_rfl
theorem over : Rows.graphPutRow.holds Try.pinned (OpenSpec.ofChange Rows.graphPutSpec) :=
  OpenClaim.holds_of_wide 11 Try.f11 rfl rfl rfl rfl rfl rfl rfl ⟨rfl, rfl, rfl, rfl, rfl⟩ rfl rfl rfl rfl rfl (by kernel_rfl) Try.func11 (joined_of j0 J_laidOut J_mapsRowed j3 j4 j5 j6 J_plainKeys J_stopsHeard J_mayEnter J_lifts J_make)
    (of_decide_eq_true (by kernel_rfl)) (by unfold Func.isWrapper; first | (rw [if_pos (by decide +kernel)]; kernel_rfl) | (rw [if_neg (by decide +kernel)]; exact ⟨rfl, rfl⟩))
    (fun os started H enc _ => lifted os started H enc)
theorem proved : Rows.GraphPutSaid := over
#print axioms proved
end Go.Proofs.Ytnmeomdjhjgnfaa.graphPut
namespace Go.Proofs.Ytnmeomdjhjgnfaa
/-- The row, under a short name, for the claim. -/
theorem graphPut_holds : Rows.GraphPutSaid := graphPut.proved
end Go.Proofs.Ytnmeomdjhjgnfaa
