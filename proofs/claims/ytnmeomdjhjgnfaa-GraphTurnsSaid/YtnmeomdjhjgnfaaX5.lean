-- written by a driver of this session (wip/xprint.py) over the kit's print, for this claim; Lean checks it
import Derived.Test.YtnmeomdjhjgnfaaX0
namespace Go.Proofs.Ytnmeomdjhjgnfaa.X
open Go.RowKit Go.Proofs.YtnmeomdjhjgnfaaW.PrintWords Go.Proofs.YtnmeomdjhjgnfaaW.PrintLast Go.Proofs.YtnmeomdjhjgnfaaW.PrintMore
attribute [local go_sem] max2_int min2_int max_two min_two max_three min_three max_four min_four   -- for this text's walks alone
set_option linter.unusedVariables false
set_option linter.unusedSimpArgs false

/-! ### jacquardref02_Edge: function 29 -/
mutual
def jacquardref02_Edge.j0 : Nat → List (List Int) → Int → Int → Bool → Option (Bool)
  | 0, _, _, _, _ => none
  | k + 1, x0, x1, x2, x25 => if x25 = true then (some false) else (jacquardref02_Edge.l0 k x0 x1 x2 0)
def jacquardref02_Edge.l0 : Nat → List (List Int) → Int → Int → Int → Option (Bool)
  | 0, _, _, _, _ => none
  | k + 1, x0, x1, x2, x7 => if 0 ≤ x1 then (if x1 < (x0.length : Int) then (if x7 < ((rd_L1 x0 x1).length : Int) then (if 0 ≤ x7 then (if (rd (rd_L1 x0 x1) x7) = x2 then (some true) else (jacquardref02_Edge.l0 k x0 x1 x2 (wrap64 (x7 + 1)))) else (none)) else (some false)) else (none)) else (none)
end
def jacquardref02_Edge.f (k : Nat) (l0 : List (List Int)) (a1 : Int) (a2 : Int) : Option (Bool) := if a1 < 0 then (jacquardref02_Edge.j0 k l0 a1 a2 true) else (if a1 ≥ (l0.length : Int) then (jacquardref02_Edge.j0 k l0 a1 a2 true) else (if a2 < 0 then (jacquardref02_Edge.j0 k l0 a1 a2 true) else (jacquardref02_Edge.j0 k l0 a1 a2 (decide (a2 ≥ (l0.length : Int))))))
theorem jacquardref02_Edge.mono_l : ∀ k, (∀ y0 y1 y2 y3, LeO (jacquardref02_Edge.j0 k y0 y1 y2 y3) (jacquardref02_Edge.j0 (k + 1) y0 y1 y2 y3)) ∧ (∀ y0 y1 y2 y3, LeO (jacquardref02_Edge.l0 k y0 y1 y2 y3) (jacquardref02_Edge.l0 (k + 1) y0 y1 y2 y3))
  | 0 => ⟨fun _ _ _ _ r h => by simp [jacquardref02_Edge.j0] at h, fun _ _ _ _ r h => by simp [jacquardref02_Edge.l0] at h⟩
  | k + 1 => by
    obtain ⟨ih0, ih1⟩ := jacquardref02_Edge.mono_l k
    refine ⟨?_, ?_⟩
    · intro y0 y1 y2 y3
      unfold jacquardref02_Edge.j0
      repeat' first
      | (with_reducible exact ih0 _ _ _ _)
      | (with_reducible exact ih1 _ _ _ _)
      | (with_reducible exact LeO.refl _)
      | (with_reducible exact LeO.none _)
      | (with_reducible refine LeO.ite ?_ ?_)
      | (with_reducible refine LeO.bind ?_ (fun _ => ?_))
      | exact ih0 _ _ _ _
      | exact ih1 _ _ _ _
      | exact LeO.none _
      | refine LeO.ite ?_ ?_
      | refine LeO.bind ?_ (fun _ => ?_)
    · intro y0 y1 y2 y3
      unfold jacquardref02_Edge.l0
      repeat' first
      | (with_reducible exact ih0 _ _ _ _)
      | (with_reducible exact ih1 _ _ _ _)
      | (with_reducible exact LeO.refl _)
      | (with_reducible exact LeO.none _)
      | (with_reducible refine LeO.ite ?_ ?_)
      | (with_reducible refine LeO.bind ?_ (fun _ => ?_))
      | exact ih0 _ _ _ _
      | exact ih1 _ _ _ _
      | exact LeO.none _
      | refine LeO.ite ?_ ?_
      | refine LeO.bind ?_ (fun _ => ?_)
theorem jacquardref02_Edge.mono : ∀ a0 a1 a2 k, LeO (jacquardref02_Edge.f k a0 a1 a2) (jacquardref02_Edge.f (k + 1) a0 a1 a2) := by
  intro a0 a1 a2 k
  obtain ⟨ih0, ih1⟩ := jacquardref02_Edge.mono_l k
  unfold jacquardref02_Edge.f
  repeat' first
      | (with_reducible exact ih0 _ _ _ _)
      | (with_reducible exact ih1 _ _ _ _)
      | (with_reducible exact LeO.refl _)
      | (with_reducible exact LeO.none _)
      | (with_reducible refine LeO.ite ?_ ?_)
      | (with_reducible refine LeO.bind ?_ (fun _ => ?_))
      | exact ih0 _ _ _ _
      | exact ih1 _ _ _ _
      | exact LeO.none _
      | refine LeO.ite ?_ ?_
      | refine LeO.bind ?_ (fun _ => ?_)
set_option maxHeartbeats 8000000 in
set_option maxRecDepth 100000 in
theorem jacquardref02_Edge.calls (k : Nat) (A0 : Option Addr) (c0 : Nat) (l0 : List (List Int)) (a1 : Int) (a2 : Int) (r : Bool) (w : World) (hr0 : Kd.C (Kd.slice 3 (Kd.int .i64)) w A0 l0.length l0) (hc0 : l0.length ≤ c0) (h : jacquardref02_Edge.f k l0 a1 a2 = some r) :
    Calls Try.prog 29 #[.slice A0 l0.length c0, .int .i64 a1, .int .i64 a2] w fun e w' => e = .returned (.bool r) ∧ Drawn0 w w' := by
  have HR0 := Aside0.mk hr0
  have HC0 := Aside0.mk hc0
  clear hr0 hc0
  have H : (if a1 < 0 then (jacquardref02_Edge.j0 k l0 a1 a2 true) else (if a1 ≥ (l0.length : Int) then (jacquardref02_Edge.j0 k l0 a1 a2 true) else (if a2 < 0 then (jacquardref02_Edge.j0 k l0 a1 a2 true) else (jacquardref02_Edge.j0 k l0 a1 a2 (decide (a2 ≥ (l0.length : Int))))))) = some r := h
  clear h
  have HC4 := Aside0.mk H
  clear H
  go_enter Try.func29, Try.ntmps29
  go_upto_region 1 with (fail)
  go_cut [25] (fun v25 wc => ∃ (kq : Nat) (x25_3 : Bool), v25 = .bool x25_3 ∧ Aside0 (jacquardref02_Edge.j0 kq l0 a1 a2 x25_3 = some r) ∧ Aside0 (kq ≤ k) ∧ Drawn0 w wc)
  case first =>
    have H := HC4.out
    clear HC4
    by_cases c5 : a1 < 0
    · rw [if_pos c5] at H
      have c5b0 : decide (a1 < 0) = true := decide_eq_true c5
      clear c5
      (first | rw [c5b0] | (simp only [i64_w, i32_w]; rw [c5b0]) | skip)
      have H' := Aside0.mk H
      clear H
      go_wp2
      go_meet
      case rel => exact ⟨_, (true), (by first | rfl | (simp; done) | (simp [*]; done)), H', ⟨by first | omega | exact Nat.le_refl _⟩, by repeat (first | exact Drawn0.refl _ | apply Drawn0.step)⟩
    · rw [if_neg c5] at H
      have c5b0 : decide (a1 < 0) = false := decide_eq_false c5
      clear c5
      (first | rw [c5b0] | (simp only [i64_w, i32_w]; rw [c5b0]) | skip)
      by_cases c6 : a1 ≥ (l0.length : Int)
      · rw [if_pos c6] at H
        have c6b0 : decide ((l0.length : Int) ≤ a1) = true := decide_eq_true c6
        clear c6
        have H' := Aside0.mk H
        clear H
        go_wp2
        go_meet
        case rel => exact ⟨_, (true), (by first | rfl | (simp; done) | (simp [*]; done)), H', ⟨by first | omega | exact Nat.le_refl _⟩, by repeat (first | exact Drawn0.refl _ | apply Drawn0.step)⟩
      · rw [if_neg c6] at H
        have c6b0 : decide ((l0.length : Int) ≤ a1) = false := decide_eq_false c6
        clear c6
        by_cases c7 : a2 < 0
        · rw [if_pos c7] at H
          have c7b0 : decide (a2 < 0) = true := decide_eq_true c7
          clear c7
          have H' := Aside0.mk H
          clear H
          go_wp2
          go_meet
          case rel => exact ⟨_, (true), (by first | rfl | (simp; done) | (simp [*]; done)), H', ⟨by first | omega | exact Nat.le_refl _⟩, by repeat (first | exact Drawn0.refl _ | apply Drawn0.step)⟩
        · rw [if_neg c7] at H
          have c7b0 : decide (a2 < 0) = false := decide_eq_false c7
          clear c7
          have H' := Aside0.mk H
          clear H
          go_wp2
          go_meet
          case rel => exact ⟨_, (decide (a2 ≥ (l0.length : Int))), (by first | rfl | (simp; done) | (simp [*]; done)), H', ⟨by first | omega | exact Nat.le_refl _⟩, by repeat (first | exact Drawn0.refl _ | apply Drawn0.step)⟩
  case rest =>
    clear HC4
    try clear c2
    try clear p2
    try clear c5
    try clear c5b0
    try clear c6
    try clear c6b0
    try clear c7
    try clear c7b0
    obtain ⟨kq, x25_3, rfl, HA, HJ3, ⟨mc3, rfl⟩⟩ := hcut
    cases kq with
    | zero => exact absurd HA.out (by simp [jacquardref02_Edge.j0])
    | succ kj3 =>
      have H := HA.out
      clear HA
      simp only [jacquardref02_Edge.j0] at H
      by_cases c8 : x25_3 = true
      · subst c8
        have H1 : (some false) = some r := by rw [if_pos rfl] at H; exact H
        clear H
        have H := H1
        clear H1
        obtain rfl := Option.some.inj H
        go_wp2
        go_ret
        exact ⟨by first | rfl | (simp; done) | (simp [*]; done), by repeat (first | exact Drawn0.refl _ | apply Drawn0.step)⟩
      · replace c8 := Bool.eq_false_iff.mpr c8
        subst c8
        have H1 : (jacquardref02_Edge.l0 kj3 l0 a1 a2 0) = some r := by rw [if_neg (show ¬ (false = true) by decide)] at H; exact H
        clear H
        have H := H1
        clear H1
        have H' := Aside0.mk H
        clear H
        go_wp2
        go_loopg [7] kj3 (fun kq v7 w' => ∃ (x7_2 : Int), v7 = .int .i64 x7_2 ∧ Aside0 (jacquardref02_Edge.l0 kq l0 a1 a2 x7_2 = some r) ∧ Aside0 (kq ≤ kj3) ∧ Drawn0 w w')
        case atStart => exact ⟨(0), (by first | rfl | (simp; done) | (simp [*]; done)), H', ⟨Nat.le_refl _⟩, by repeat (first | exact Drawn0.refl _ | apply Drawn0.step)⟩
        case round =>
          clear H'
          try clear c2
          try clear p2
          try clear c3
          try clear c5
          try clear c5b0
          try clear c6
          try clear c6b0
          try clear c7
          try clear c7b0
          try clear c8
          try clear p2
          obtain ⟨x7_2, rfl, HA, HK2, ⟨m2, rfl⟩⟩ := hrel
          cases gk with
          | zero => exact absurd HA.out (by simp [jacquardref02_Edge.l0])
          | succ k2 =>
            have H := HA.out
            clear HA
            simp only [jacquardref02_Edge.l0] at H
            by_cases c9 : 0 ≤ a1
            · rw [if_pos c9] at H
              have c9b0 : decide (0 ≤ a1) = true := decide_eq_true c9
              clear c9
              by_cases c10 : a1 < (l0.length : Int)
              · rw [if_pos c10] at H
                have c10b0 : decide (a1 < (l0.length : Int)) = true := decide_eq_true c10
                clear c10
                by_cases c11 : x7_2 < ((rd_L1 l0 a1).length : Int)
                · rw [if_pos c11] at H
                  have c11b0 : decide (x7_2 < ((rd_L1 l0 a1).length : Int)) = true := decide_eq_true c11
                  clear c11
                  by_cases c12 : 0 ≤ x7_2
                  · rw [if_pos c12] at H
                    have c12b0 : decide (0 ≤ x7_2) = true := decide_eq_true c12
                    clear c12
                    by_cases c13 : (rd (rd_L1 l0 a1) x7_2) = a2
                    · rw [if_pos c13] at H
                      have c13b0 : ((rd (rd_L1 l0 a1) x7_2) == a2) = true := beq_iff_eq.mpr c13
                      have c13b1 : ((rd (rd_L1 l0 a1) x7_2) != a2) = false := bne_eq_false_iff_eq.mpr c13
                      clear c13
                      obtain rfl := Option.some.inj H
                      have p142 : 0 ≤ (a1 : Int) := of_decide_eq_true (by first | (with_reducible assumption) | assumption)
                      have q142 : a1 < (l0.length : Int) := of_decide_eq_true (by first | (with_reducible assumption) | assumption)
                      obtain ⟨ad142, A142_0, c142_0, e142, hx142_0, hl142_0, hi142_0⟩ := at_L1 HR0.out a1 p142 q142
                      cases e142
                      have HR142_0 := Aside0.mk hi142_0
                      have HC142_0 := Aside0.mk hl142_0
                      clear hi142_0 hl142_0
                      replace p142 := eq_true p142
                      replace q142 := eq_true q142
                      have p143 : 0 ≤ (a1 : Int) := of_decide_eq_true (by first | (with_reducible assumption) | assumption)
                      have q143 : a1 < (l0.length : Int) := of_decide_eq_true (by first | (with_reducible assumption) | assumption)
                      obtain ⟨ad143, A143_0, c143_0, e143, hx143_0, hl143_0, hi143_0⟩ := at_L1 HR0.out a1 p143 q143
                      obtain rfl : ad142 = ad143 := (by injection e143)
                      have HR143_0 := Aside0.mk hi143_0
                      have HC143_0 := Aside0.mk hl143_0
                      clear hi143_0 hl143_0
                      replace p143 := eq_true p143
                      replace q143 := eq_true q143
                      have ea_ := Option.some.inj (hx142_0.symm.trans hx143_0)
                      injection ea_ with ea_ en_ ec_
                      subst ea_
                      subst ec_
                      clear en_
                      have p144 : 0 ≤ (x7_2 : Int) := of_decide_eq_true (by first | (with_reducible assumption) | assumption)
                      have q144 : x7_2 < ((rd_L1 l0 a1).length : Int) := of_decide_eq_true (by first | (with_reducible assumption) | assumption)
                      obtain ⟨ad144, e144, hx144_0⟩ := Kd.at_int HR143_0.out x7_2 p144 q144
                      cases e144
                      replace p144 := eq_true p144
                      replace q144 := eq_true q144
                      go_wp2
                      go_ret
                      exact ⟨by first | rfl | (simp; done) | (simp [*]; done), by repeat (first | exact Drawn0.refl _ | apply Drawn0.step)⟩
                    · rw [if_neg c13] at H
                      have c13b0 : ((rd (rd_L1 l0 a1) x7_2) == a2) = false := beq_eq_false_iff_ne.mpr c13
                      have c13b1 : ((rd (rd_L1 l0 a1) x7_2) != a2) = true := bne_iff_ne.mpr c13
                      have H' := Aside0.mk H
                      clear H
                      have p142 : 0 ≤ (a1 : Int) := of_decide_eq_true (by first | (with_reducible assumption) | assumption)
                      have q142 : a1 < (l0.length : Int) := of_decide_eq_true (by first | (with_reducible assumption) | assumption)
                      obtain ⟨ad142, A142_0, c142_0, e142, hx142_0, hl142_0, hi142_0⟩ := at_L1 HR0.out a1 p142 q142
                      cases e142
                      have HR142_0 := Aside0.mk hi142_0
                      have HC142_0 := Aside0.mk hl142_0
                      clear hi142_0 hl142_0
                      replace p142 := eq_true p142
                      replace q142 := eq_true q142
                      have p143 : 0 ≤ (a1 : Int) := of_decide_eq_true (by first | (with_reducible assumption) | assumption)
                      have q143 : a1 < (l0.length : Int) := of_decide_eq_true (by first | (with_reducible assumption) | assumption)
                      obtain ⟨ad143, A143_0, c143_0, e143, hx143_0, hl143_0, hi143_0⟩ := at_L1 HR0.out a1 p143 q143
                      obtain rfl : ad142 = ad143 := (by injection e143)
                      have HR143_0 := Aside0.mk hi143_0
                      have HC143_0 := Aside0.mk hl143_0
                      clear hi143_0 hl143_0
                      replace p143 := eq_true p143
                      replace q143 := eq_true q143
                      have ea_ := Option.some.inj (hx142_0.symm.trans hx143_0)
                      injection ea_ with ea_ en_ ec_
                      subst ea_
                      subst ec_
                      clear en_
                      have p144 : 0 ≤ (x7_2 : Int) := of_decide_eq_true (by first | (with_reducible assumption) | assumption)
                      have q144 : x7_2 < ((rd_L1 l0 a1).length : Int) := of_decide_eq_true (by first | (with_reducible assumption) | assumption)
                      obtain ⟨ad144, e144, hx144_0⟩ := Kd.at_int HR143_0.out x7_2 p144 q144
                      cases e144
                      replace p144 := eq_true p144
                      replace q144 := eq_true q144
                      go_wp2
                      go_roundg k2
                      case measure => have := HJ3.out; have := HK2.out; omega
                      case rel => exact ⟨(wrap64 (x7_2 + 1)), (by first | rfl | (simp; done) | (simp [*]; done)), H', ⟨by have := HJ3.out; have := HK2.out; omega⟩, by repeat (first | exact Drawn0.refl _ | apply Drawn0.step)⟩
                  · rw [if_neg c12] at H
                    exact absurd H (by simp)
                · rw [if_neg c11] at H
                  have c11b0 : decide (x7_2 < ((rd_L1 l0 a1).length : Int)) = false := decide_eq_false c11
                  clear c11
                  obtain rfl := Option.some.inj H
                  have p142 : 0 ≤ (a1 : Int) := of_decide_eq_true (by first | (with_reducible assumption) | assumption)
                  have q142 : a1 < (l0.length : Int) := of_decide_eq_true (by first | (with_reducible assumption) | assumption)
                  obtain ⟨ad142, A142_0, c142_0, e142, hx142_0, hl142_0, hi142_0⟩ := at_L1 HR0.out a1 p142 q142
                  cases e142
                  have HR142_0 := Aside0.mk hi142_0
                  have HC142_0 := Aside0.mk hl142_0
                  clear hi142_0 hl142_0
                  replace p142 := eq_true p142
                  replace q142 := eq_true q142
                  go_wp2
                  go_ret
                  exact ⟨by first | rfl | (simp; done) | (simp [*]; done), by repeat (first | exact Drawn0.refl _ | apply Drawn0.step)⟩
              · rw [if_neg c10] at H
                exact absurd H (by simp)
            · rw [if_neg c9] at H
              exact absurd H (by simp)

end Go.Proofs.Ytnmeomdjhjgnfaa.X
