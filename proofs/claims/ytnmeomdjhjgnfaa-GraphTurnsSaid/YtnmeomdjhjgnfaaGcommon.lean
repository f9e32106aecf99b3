/- graph.common: the contract, by hand (a labelled loop). -/
import Derived.Test.YtnmeomdjhjgnfaaGspec
import Derived.WalkMore
set_option linter.unusedSimpArgs false
set_option linter.unusedVariables false
namespace Go.Proofs.Ytnmeomdjhjgnfaa.X
open Go.RowKit Go.Proofs.YtnmeomdjhjgnfaaW.PrintWords Go.Proofs.YtnmeomdjhjgnfaaW.PrintLast Go.Proofs.YtnmeomdjhjgnfaaW.PrintMore

set_option maxHeartbeats 4000000 in
set_option maxRecDepth 100000 in
theorem graph_common.calls (k : Nat) (A0 : Option Addr) (c0 : Nat) (l0 : List Int) (A1 : Option Addr) (c1 : Nat) (l1 : List Int) (a2 a3 : Int) (r : Int) (w : World) (hr0 : Kd.C (Kd.int .i64) w A0 l0.length l0) (hc0 : l0.length ≤ c0) (hr1 : Kd.C (Kd.int .i64) w A1 l1.length l1) (hc1 : l1.length ≤ c1) (h : graph_common.f k l0 l1 a2 a3 = some r) :
    Calls Try.prog 73 #[.slice A0 l0.length c0, .slice A1 l1.length c1, .int .i64 a2, .int .i64 a3] w fun e w' => e = .returned (.int .i64 r) ∧ Drawn0 w w' := by
  have HR0 := Aside0.mk hr0
  have HR1 := Aside0.mk hr1
  have HF := Aside0.mk h
  have HD := Drawn0.refl w
  clear hr0 hr1 h hc0 hc1
  go_enter Try.func73, Try.ntmps73
  go_wp2
  go_step3
  go_wp2
  go_step3
  go_wp2
  go_loopg [2, 3] k (fun kq v2 v3 w' => ∃ a b : Int, v2 = .int .i64 a ∧ v3 = .int .i64 b ∧ Aside0 (graph_common.f kq l0 l1 a b = some r) ∧ Aside0 (Drawn0 w w'))
  case atStart => exact ⟨a2, a3, rfl, rfl, HF, ⟨HD⟩⟩
  case round =>
    obtain ⟨a, b, rfl, rfl, HA, HD2⟩ := hrel
    cases gk with
    | zero => exact absurd HA.out (by simp [graph_common.f])
    | succ k1 =>
      have H := HA.out
      clear HA HF HD
      rw [graph_common.f] at H
      by_cases hr : 0 ≤ a ∧ a < l1.length ∧ 0 ≤ b ∧ b < l1.length
      · rw [if_pos hr] at H
        obtain ⟨ha0, ha1, hb0, hb1⟩ := hr
        obtain ⟨ad, rfl, hca⟩ := Kd.at_int HR1.out a ha0 ha1
        obtain ⟨ad', ead, hcb⟩ := Kd.at_int HR1.out b hb0 hb1
        cases ead
        replace hca := (HD2.out.below.cell (World.block_lt_of_cell? w _ hca)).trans hca
        replace hcb := (HD2.out.below.cell (World.block_lt_of_cell? w _ hcb)).trans hcb
        by_cases h1 : rd l1 b < rd l1 a
        · rw [if_pos h1] at H
          by_cases h2 : a < l0.length
          · rw [if_pos h2] at H
            obtain ⟨ae, eae, hce⟩ := Kd.at_int HR0.out a ha0 h2
            subst eae
            replace hce := (HD2.out.below.cell (World.block_lt_of_cell? w _ hce)).trans hce
            have HH := Aside0.mk H
            clear H
            have HD3 := HD2.out
            clear HD2
            go_wp2
            go_quiet (fail)
            go_wp2
            go_roundg k1
            case measure => omega
            case rel => exact ⟨_, _, rfl, rfl, HH, ⟨HD3.step _⟩⟩
          · rw [if_neg h2] at H
            exact absurd H (by simp)
        · rw [if_neg h1] at H
          by_cases h3 : rd l1 a < rd l1 b
          · rw [if_pos h3] at H
            by_cases h2 : b < l0.length
            · rw [if_pos h2] at H
              obtain ⟨ae, eae, hce⟩ := Kd.at_int HR0.out b hb0 h2
              subst eae
              replace hce := (HD2.out.below.cell (World.block_lt_of_cell? w _ hce)).trans hce
              have HH := Aside0.mk H
              clear H
              have HD3 := HD2.out
              clear HD2
              go_wp2
              go_quiet (fail)
              go_wp2
              go_quiet (fail)
              go_wp2
              go_roundg k1
              case measure => omega
              case rel => exact ⟨_, _, rfl, rfl, HH, ⟨HD3.step _⟩⟩
            · rw [if_neg h2] at H
              exact absurd H (by simp)
          · rw [if_neg h3] at H
            obtain rfl := Option.some.inj H
            clear H
            have HD3 := HD2.out
            clear HD2
            go_wp2
            go_quiet (fail)
            go_wp2
            go_quiet (fail)
            go_wp2
            rw [Exit.noGoto_ret]
            go_ret
            exact ⟨rfl, (HD3.step _).step _⟩
      · rw [if_neg hr] at H
        exact absurd H (by simp)
end Go.Proofs.Ytnmeomdjhjgnfaa.X
