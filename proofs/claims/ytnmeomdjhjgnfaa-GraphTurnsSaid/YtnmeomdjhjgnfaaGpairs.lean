/- jacquardref02.Pairs: the contract, by hand (arrays of two numbers are compared). -/
import Derived.Test.YtnmeomdjhjgnfaaGspec
set_option linter.unusedSimpArgs false
namespace Go.Proofs.Ytnmeomdjhjgnfaa.X
open Go.RowKit Go.Proofs.YtnmeomdjhjgnfaaW.PrintWords Go.Proofs.YtnmeomdjhjgnfaaW.PrintLast Go.Proofs.YtnmeomdjhjgnfaaW.PrintMore
set_option linter.unusedVariables false

theorem eq3 (d : Nat) (w : World) (a c : Int) : (Op.equalIn (d + 1) 3 (.int .i64 a) (.int .i64 c)).run Try.prog w = .ok (a == c) w := by
  have h3 : Try.prog.underlying 3 = some (.int .i64) := by kernel_rfl
  simp [Op.equalIn, run_underlying h3]
theorem part73a (w : World) (a b : Int) : (part 3 #[.int .i64 a, .int .i64 b] 0).run Try.prog w = .ok (.int .i64 a) w := by kernel_rfl
theorem part73b (w : World) (a b : Int) : (part 3 #[.int .i64 a, .int .i64 b] 1).run Try.prog w = .ok (.int .i64 b) w := by kernel_rfl
theorem size3 (w : World) : (sizeOf 3).run Try.prog w = .ok 1 w := by kernel_rfl
theorem eq73 (d : Nat) (w : World) (a b c e : Int) : (Op.equalIn (d + 2) 73 (.agg #[.int .i64 a, .int .i64 b]) (.agg #[.int .i64 c, .int .i64 e])).run Try.prog w = .ok (a == c && b == e) w := by
  have h73 : Try.prog.underlying 73 = some (.array 2 3) := by kernel_rfl
  rw [Op.equalIn]
  simp only [Sem.run_bind, run_underlying h73, Result.andThen_ok, size3]
  simp only [Std.Legacy.Range.forIn_eq_forIn_range', Std.Legacy.Range.size]
  by_cases h1 : a = c <;> by_cases h2 : b = e <;> simp [List.range'_succ, part73a, part73b, eq3, h1, h2]
theorem neq73 (w : World) (a b c e : Int) : (binOp .neq 73 (.agg #[.int .i64 a, .int .i64 b]) (.agg #[.int .i64 c, .int .i64 e])).run Try.prog w = .ok (.bool (!(a == c && b == e))) w := by
  simp only [binOp]
  simp [Op.equal, Op.maxDepth, eq73 9998 w a b c e]

def pr (s : S73) : Int × Int := (s.f0, s.f1)
theorem pairs_at (l0 l1 : List S73) (hl : l0.length = l1.length) : (l0.map pr = l1.map pr) ↔ ∀ i : Nat, i < l0.length → (rd_T73 l0 i).f0 = (rd_T73 l1 i).f0 ∧ (rd_T73 l0 i).f1 = (rd_T73 l1 i).f1 := by
  constructor
  · intro h i hi
    have := congrArg (fun l => l[i]?) h
    have hi1 : i < l1.length := hl ▸ hi
    simp only [List.getElem?_map, List.getElem?_eq_getElem hi, List.getElem?_eq_getElem hi1, Option.map_some, pr, Option.some.injEq, Prod.mk.injEq] at this
    simpa [rd_T73, List.getD_eq_getElem?_getD, hi, hi1] using this
  · intro h
    refine List.ext_getElem (by simpa using hl) ?_
    intro i h0 h1
    simp only [List.length_map] at h0 h1
    have := h i h0
    simp [rd_T73, List.getD_eq_getElem?_getD, h0, h1] at this
    simp [pr, this.1, this.2]
set_option maxHeartbeats 4000000 in
set_option maxRecDepth 100000 in
theorem jacquardref02_Pairs.calls (A0 : Option Addr) (c0 : Nat) (l0 : List S73) (A1 : Option Addr) (c1 : Nat) (l1 : List S73) (r : Bool) (w : World) (hr0 : Kd.C k73 w A0 l0.length l0) (hc0 : l0.length ≤ c0) (hr1 : Kd.C k73 w A1 l1.length l1) (hc1 : l1.length ≤ c1) (h : jacquardref02_Pairs.f l0 l1 = some r) :
    Calls Try.prog 61 #[.slice A0 l0.length c0, .slice A1 l1.length c1] w fun e w' => e = .returned (.bool r) ∧ Drawn0 w w' := by
  have HR0 := Aside0.mk hr0
  have HR1 := Aside0.mk hr1
  have HF : Aside0 (r = decide (l0.map pr = l1.map pr)) := ⟨by unfold jacquardref02_Pairs.f at h; exact (Option.some.inj h).symm⟩
  have hm0 : l0.length ≤ 9223372036854775807 := Kd.C_max hr0
  clear hr0 hr1 h hc0 hc1
  have hu73 := Try.underlying73
  have hneq := fun w a b c e => neq73 w a b c e
  by_cases hl : l0.length = l1.length
  · have HL := Aside0.mk hl
    clear hl
    have e1 : ((l0.length : Int) == (l1.length : Int)) = true := by rw [HL.out]; simp
    have e2 : ((l0.length : Int) != (l1.length : Int)) = false := by rw [HL.out]; simp
    go_enter Try.func61, Try.ntmps61
    go_wp2
    go_loopg [5] (l0.length) (fun kq v5 w' => ∃ i : Nat, v5 = .int .i64 i ∧ Aside0 (kq + i = l0.length) ∧ Aside0 (∀ j : Nat, j < i → (rd_T73 l0 j).f0 = (rd_T73 l1 j).f0 ∧ (rd_T73 l0 j).f1 = (rd_T73 l1 j).f1) ∧ Aside0 (Drawn0 w w'))
    case atStart => exact ⟨0, rfl, ⟨rfl⟩, ⟨fun j hj => by omega⟩, ⟨Drawn0.refl w⟩⟩
    case round =>
      obtain ⟨i, rfl, HI, HA, HD⟩ := hrel
      clear e1 e2
      cases gk with
      | zero =>
        have hi : i = l0.length := by have := HI.out; omega
        subst hi
        have HR : Aside0 (r = true) := ⟨by rw [HF.out]; exact decide_eq_true ((pairs_at l0 l1 HL.out).2 HA.out)⟩
        go_wp2
        go_ret
        exact ⟨by rw [HR.out]; rfl, HD.out⟩
      | succ k1 =>
        have hi : i < l0.length := by have := HI.out; omega
        obtain ⟨ad, rfl, h00, h01⟩ := at_T73 HR0.out (i : Int) (by omega) (by omega)
        obtain ⟨ae, rfl, h10, h11⟩ := at_T73 HR1.out (i : Int) (by omega) (by have := HL.out; omega)
        replace h00 := (HD.out.below.cell (World.block_lt_of_cell? w _ h00)).trans h00
        replace h01 := (HD.out.below.cell (World.block_lt_of_cell? w _ h01)).trans h01
        replace h10 := (HD.out.below.cell (World.block_lt_of_cell? w _ h10)).trans h10
        replace h11 := (HD.out.below.cell (World.block_lt_of_cell? w _ h11)).trans h11
        have hi1 : i < l1.length := by have := HL.out; omega
        simp only [Int.toNat_natCast] at h00 h01 h10 h11
        by_cases q0 : (rd_T73 l0 i).f0 = (rd_T73 l1 i).f0
        · by_cases q1 : (rd_T73 l0 i).f1 = (rd_T73 l1 i).f1
          · have b0 : ((rd_T73 l0 i).f0 == (rd_T73 l1 i).f0) = true := by simpa using q0
            have b1 : ((rd_T73 l0 i).f1 == (rd_T73 l1 i).f1) = true := by simpa using q1
            have HA2 : Aside0 (∀ j : Nat, j < i + 1 → (rd_T73 l0 j).f0 = (rd_T73 l1 j).f0 ∧ (rd_T73 l0 j).f1 = (rd_T73 l1 j).f1) := ⟨fun j hj => by
              by_cases hji : j = i
              · rw [hji]; exact ⟨q0, q1⟩
              · exact HA.out j (by omega)⟩
            clear q0 q1 HA
            go_wp2
            go_quiet (fail)
            go_wp2
            go_roundg k1
            case measure => omega
            case rel => exact ⟨i + 1, by go_num, ⟨by have := HI.out; omega⟩, HA2, ⟨HD.out.step _⟩⟩
          · have HR : Aside0 (r = false) := ⟨by rw [HF.out]; exact decide_eq_false (fun e => q1 ((pairs_at l0 l1 HL.out).1 e i hi).2)⟩
            have b1 : ((rd_T73 l0 i).f1 == (rd_T73 l1 i).f1) = false := by simpa using q1
            have b0 : ((rd_T73 l0 i).f0 == (rd_T73 l1 i).f0) = true := by simpa using q0
            clear q0 q1
            go_wp2
            go_quiet (fail)
            go_wp2
            go_ret
            exact ⟨by rw [HR.out]; rfl, HD.out.step _⟩
        · have HR : Aside0 (r = false) := ⟨by rw [HF.out]; exact decide_eq_false (fun e => q0 ((pairs_at l0 l1 HL.out).1 e i hi).1)⟩
          have b0 : ((rd_T73 l0 i).f0 == (rd_T73 l1 i).f0) = false := by simpa using q0
          clear q0
          go_wp2
          go_quiet (fail)
          go_wp2
          go_ret
          exact ⟨by rw [HR.out]; rfl, HD.out.step _⟩
  · have HR : Aside0 (r = false) := ⟨by rw [HF.out]; exact decide_eq_false (fun e => hl (by simpa using congrArg List.length e))⟩
    have e1 : ((l0.length : Int) == (l1.length : Int)) = false := by simpa using (fun e => hl (by omega) : ¬ (l0.length : Int) = l1.length)
    have e2 : ((l0.length : Int) != (l1.length : Int)) = true := by simpa using (fun e => hl (by omega) : ¬ (l0.length : Int) = l1.length)
    go_enter Try.func61, Try.ntmps61
    go_wp2
    go_ret
    exact ⟨by rw [HR.out]; rfl, Drawn0.refl w⟩
end Go.Proofs.Ytnmeomdjhjgnfaa.X
