/- Parts of the proof of GraphOf: X4, X6, X11, X12, Prefa, Pof, Gof, PureGraphOf. -/
import Derived.Test.YtnmeomdjhjgnfaaB1
import Derived.Test.YtnmeomdjhjgnfaaB2
section
-- written by a driver of this session (wip/xprint.py) over the kit's print, for this claim; Lean checks it
namespace Go.Proofs.Ytnmeomdjhjgnfaa.X
open Go.RowKit Go.Proofs.YtnmeomdjhjgnfaaW.PrintWords Go.Proofs.YtnmeomdjhjgnfaaW.PrintLast Go.Proofs.YtnmeomdjhjgnfaaW.PrintMore
attribute [local go_sem] max2_int min2_int max_two min_two max_three min_three max_four min_four   -- for this text's walks alone
set_option linter.unusedVariables false
set_option linter.unusedSimpArgs false

/-! ### jacquardref02_Rows: function 50 -/
def jacquardref02_Rows.l0 : Nat → List (List Int) → List (List Int) → Int → Option (Bool)
  | 0, _, _, _ => none
  | k + 1, x0, x1, x5 => if x5 < (x0.length : Int) then (if 0 ≤ x5 then (if x5 < (x1.length : Int) then ((jacquardref02_Nums.f k (rd_L1 x0 x5) (rd_L1 x1 x5)).bind fun t141 => (if t141 = true then (jacquardref02_Rows.l0 k x0 x1 (wrap64 (x5 + 1))) else (some false))) else (none)) else (none)) else (some true)
def jacquardref02_Rows.f (k : Nat) (l0 : List (List Int)) (l1 : List (List Int)) : Option (Bool) := if (l0.length : Int) = (l1.length : Int) then (jacquardref02_Rows.l0 k l0 l1 0) else (some false)
theorem jacquardref02_Rows.mono_l : ∀ k, (∀ y0 y1 y2, LeO (jacquardref02_Rows.l0 k y0 y1 y2) (jacquardref02_Rows.l0 (k + 1) y0 y1 y2))
  | 0 => fun _ _ _ r h => by simp [jacquardref02_Rows.l0] at h
  | k + 1 => by
    have ih0 := jacquardref02_Rows.mono_l k
    · intro y0 y1 y2
      unfold jacquardref02_Rows.l0
      repeat' first | (with_reducible exact LeO.refl _) | (with_reducible refine LeO.ite ?_ ?_) | (with_reducible refine LeO.bind ?_ (fun _ => ?_)) | exact LeO.none _ | exact ih0 _ _ _ | exact jacquardref02_Nums.mono _ _ _ | refine LeO.ite ?_ ?_ | refine LeO.bind ?_ (fun _ => ?_)
theorem jacquardref02_Rows.mono : ∀ a0 a1 k, LeO (jacquardref02_Rows.f k a0 a1) (jacquardref02_Rows.f (k + 1) a0 a1) := by
  intro a0 a1 k
  have ih0 := jacquardref02_Rows.mono_l k
  unfold jacquardref02_Rows.f
  repeat' first | (with_reducible exact LeO.refl _) | (with_reducible refine LeO.ite ?_ ?_) | (with_reducible refine LeO.bind ?_ (fun _ => ?_)) | exact LeO.none _ | exact ih0 _ _ _ | exact jacquardref02_Nums.mono _ _ _ | refine LeO.ite ?_ ?_ | refine LeO.bind ?_ (fun _ => ?_)
set_option maxHeartbeats 8000000 in
set_option maxRecDepth 100000 in
theorem jacquardref02_Rows.calls (k : Nat) (A0 : Option Addr) (c0 : Nat) (l0 : List (List Int)) (A1 : Option Addr) (c1 : Nat) (l1 : List (List Int)) (r : Bool) (w : World) (hr0 : Kd.C (Kd.slice 3 (Kd.int .i64)) w A0 l0.length l0) (hc0 : l0.length ≤ c0) (hr1 : Kd.C (Kd.slice 3 (Kd.int .i64)) w A1 l1.length l1) (hc1 : l1.length ≤ c1) (h : jacquardref02_Rows.f k l0 l1 = some r) :
    Calls Try.prog 50 #[.slice A0 l0.length c0, .slice A1 l1.length c1] w fun e w' => e = .returned (.bool r) ∧ Drawn0 w w' := by
  have HR0 := Aside0.mk hr0
  have HC0 := Aside0.mk hc0
  clear hr0 hc0
  have HR1 := Aside0.mk hr1
  have HC1 := Aside0.mk hc1
  clear hr1 hc1
  have H : (if (l0.length : Int) = (l1.length : Int) then (jacquardref02_Rows.l0 k l0 l1 0) else (some false)) = some r := h
  clear h
  by_cases c3 : (l0.length : Int) = (l1.length : Int)
  · rw [if_pos c3] at H
    have c3b0 : ((l0.length : Int) == (l1.length : Int)) = true := beq_iff_eq.mpr c3
    have c3b1 : ((l0.length : Int) != (l1.length : Int)) = false := bne_eq_false_iff_eq.mpr c3
    have c3b2 : (l0.length == l1.length) = true := by first | simpa using c3 | (simp at c3 ⊢; omega)
    clear c3
    have H' := Aside0.mk H
    clear H
    go_enter Try.func50, Try.ntmps50
    go_wp2
    repeat (go_quiet (fail); try go_wp2)
    go_loopg [5] k (fun kq v5 w' => ∃ (x5_1 : Int), v5 = .int .i64 x5_1 ∧ Aside0 (jacquardref02_Rows.l0 kq l0 l1 x5_1 = some r) ∧ Aside0 (kq ≤ k) ∧ Drawn0 w w')
    case atStart => exact ⟨(0), (by first | rfl | (simp; done) | (simp [*]; done)), H', ⟨Nat.le_refl _⟩, by repeat (first | exact Drawn0.refl _ | apply Drawn0.step)⟩
    case round =>
      clear H'; (try clear c1); (try clear p2); (try clear c3); (try clear c3b0); (try clear c3b1); (try clear c3b2)
      obtain ⟨x5_1, rfl, HA, HK1, ⟨m1, rfl⟩⟩ := hrel
      cases gk with
      | zero => exact absurd HA.out (by simp [jacquardref02_Rows.l0])
      | succ k1 =>
        have H := HA.out
        clear HA
        simp only [jacquardref02_Rows.l0] at H
        by_cases c4 : x5_1 < (l0.length : Int)
        · rw [if_pos c4] at H
          have c4b0 : decide (x5_1 < (l0.length : Int)) = true := decide_eq_true c4
          clear c4
          by_cases c5 : 0 ≤ x5_1
          · rw [if_pos c5] at H
            have c5b0 : decide (0 ≤ x5_1) = true := decide_eq_true c5
            clear c5
            by_cases c6 : x5_1 < (l1.length : Int)
            · rw [if_pos c6] at H
              have c6b0 : decide (x5_1 < (l1.length : Int)) = true := decide_eq_true c6
              clear c6
              replace H := Option.bind_eq_some_iff.mp H
              obtain ⟨t141, A70, H⟩ := H
              have A7 := Aside0.mk A70
              clear A70
              by_cases c8 : t141 = true
              · subst c8
                rw [if_pos rfl] at H
                have H' := Aside0.mk H
                clear H
                have p139 : 0 ≤ (x5_1 : Int) := of_decide_eq_true (by first | (with_reducible assumption) | assumption)
                have q139 : x5_1 < (l0.length : Int) := of_decide_eq_true (by first | (with_reducible assumption) | assumption)
                obtain ⟨ad139, A139_0, c139_0, e139, hx139_0, hl139_0, hi139_0⟩ := at_L1 HR0.out x5_1 p139 q139
                cases e139
                have HR139_0 := Aside0.mk hi139_0
                have HC139_0 := Aside0.mk hl139_0
                clear hi139_0 hl139_0
                replace p139 := eq_true p139
                replace q139 := eq_true q139
                have p140 : 0 ≤ (x5_1 : Int) := of_decide_eq_true (by first | (with_reducible assumption) | assumption)
                have q140 : x5_1 < (l1.length : Int) := of_decide_eq_true (by first | (with_reducible assumption) | assumption)
                obtain ⟨ad140, A140_0, c140_0, e140, hx140_0, hl140_0, hi140_0⟩ := at_L1 HR1.out x5_1 p140 q140
                cases e140
                have HR140_0 := Aside0.mk hi140_0
                have HC140_0 := Aside0.mk hl140_0
                clear hi140_0 hl140_0
                replace p140 := eq_true p140
                replace q140 := eq_true q140
                go_wp2_with (first | (go_at_call 60; (with_reducible refine (jacquardref02_Nums.calls k1 _ _ (rd_L1 l0 x5_1) _ _ (rd_L1 l1 x5_1) true _ ?side1 ?side2 ?side3 ?side4 A7.out).mono ?_); (case side1 => repeat (first | exact HR139_0.out | (with_reducible refine Kd.C_alloc ?_ _) | (with_reducible refine Kd.C_drewN ?_ _) | (with_reducible refine Kd.C_drew ?_))); (case side2 => exact HC139_0.out); (case side3 => repeat (first | exact HR140_0.out | (with_reducible refine Kd.C_alloc ?_ _) | (with_reducible refine Kd.C_drewN ?_ _) | (with_reducible refine Kd.C_drew ?_))); (case side4 => exact HC140_0.out); rintro e w' ⟨rfl, ⟨nd, rfl⟩⟩; (try first | exact ⟨rfl, _, World.drewN_drewN _ _ _⟩ | exact ⟨rfl, _, Eq.trans (World.drewN_drewN _ _ _) (congrArg (World.drewN _) (Nat.add_assoc _ _ _))⟩)))
                repeat (go_quiet (first | (go_at_call 60; (with_reducible refine (jacquardref02_Nums.calls k1 _ _ (rd_L1 l0 x5_1) _ _ (rd_L1 l1 x5_1) true _ ?side1 ?side2 ?side3 ?side4 A7.out).mono ?_); (case side1 => repeat (first | exact HR139_0.out | (with_reducible refine Kd.C_alloc ?_ _) | (with_reducible refine Kd.C_drewN ?_ _) | (with_reducible refine Kd.C_drew ?_))); (case side2 => exact HC139_0.out); (case side3 => repeat (first | exact HR140_0.out | (with_reducible refine Kd.C_alloc ?_ _) | (with_reducible refine Kd.C_drewN ?_ _) | (with_reducible refine Kd.C_drew ?_))); (case side4 => exact HC140_0.out); rintro e w' ⟨rfl, ⟨nd, rfl⟩⟩; (try first | exact ⟨rfl, _, World.drewN_drewN _ _ _⟩ | exact ⟨rfl, _, Eq.trans (World.drewN_drewN _ _ _) (congrArg (World.drewN _) (Nat.add_assoc _ _ _))⟩))); try go_wp2_with (first | (go_at_call 60; (with_reducible refine (jacquardref02_Nums.calls k1 _ _ (rd_L1 l0 x5_1) _ _ (rd_L1 l1 x5_1) true _ ?side1 ?side2 ?side3 ?side4 A7.out).mono ?_); (case side1 => repeat (first | exact HR139_0.out | (with_reducible refine Kd.C_alloc ?_ _) | (with_reducible refine Kd.C_drewN ?_ _) | (with_reducible refine Kd.C_drew ?_))); (case side2 => exact HC139_0.out); (case side3 => repeat (first | exact HR140_0.out | (with_reducible refine Kd.C_alloc ?_ _) | (with_reducible refine Kd.C_drewN ?_ _) | (with_reducible refine Kd.C_drew ?_))); (case side4 => exact HC140_0.out); rintro e w' ⟨rfl, ⟨nd, rfl⟩⟩; (try first | exact ⟨rfl, _, World.drewN_drewN _ _ _⟩ | exact ⟨rfl, _, Eq.trans (World.drewN_drewN _ _ _) (congrArg (World.drewN _) (Nat.add_assoc _ _ _))⟩))))
                go_roundg k1
                case measure => have := HK1.out; omega
                case rel => exact ⟨(wrap64 (x5_1 + 1)), (by first | rfl | (simp; done) | (simp [*]; done)), H', ⟨by have := HK1.out; omega⟩, by repeat (first | exact Drawn0.refl _ | apply Drawn0.step)⟩
              · replace c8 := Bool.eq_false_iff.mpr c8
                subst c8
                rw [if_neg (show ¬ (false = true) by decide)] at H
                obtain rfl := Option.some.inj H
                have p139 : 0 ≤ (x5_1 : Int) := of_decide_eq_true (by first | (with_reducible assumption) | assumption)
                have q139 : x5_1 < (l0.length : Int) := of_decide_eq_true (by first | (with_reducible assumption) | assumption)
                obtain ⟨ad139, A139_0, c139_0, e139, hx139_0, hl139_0, hi139_0⟩ := at_L1 HR0.out x5_1 p139 q139
                cases e139
                have HR139_0 := Aside0.mk hi139_0
                have HC139_0 := Aside0.mk hl139_0
                clear hi139_0 hl139_0
                replace p139 := eq_true p139
                replace q139 := eq_true q139
                have p140 : 0 ≤ (x5_1 : Int) := of_decide_eq_true (by first | (with_reducible assumption) | assumption)
                have q140 : x5_1 < (l1.length : Int) := of_decide_eq_true (by first | (with_reducible assumption) | assumption)
                obtain ⟨ad140, A140_0, c140_0, e140, hx140_0, hl140_0, hi140_0⟩ := at_L1 HR1.out x5_1 p140 q140
                cases e140
                have HR140_0 := Aside0.mk hi140_0
                have HC140_0 := Aside0.mk hl140_0
                clear hi140_0 hl140_0
                replace p140 := eq_true p140
                replace q140 := eq_true q140
                go_wp2_with (first | (go_at_call 60; (with_reducible refine (jacquardref02_Nums.calls k1 _ _ (rd_L1 l0 x5_1) _ _ (rd_L1 l1 x5_1) false _ ?side1 ?side2 ?side3 ?side4 A7.out).mono ?_); (case side1 => repeat (first | exact HR139_0.out | (with_reducible refine Kd.C_alloc ?_ _) | (with_reducible refine Kd.C_drewN ?_ _) | (with_reducible refine Kd.C_drew ?_))); (case side2 => exact HC139_0.out); (case side3 => repeat (first | exact HR140_0.out | (with_reducible refine Kd.C_alloc ?_ _) | (with_reducible refine Kd.C_drewN ?_ _) | (with_reducible refine Kd.C_drew ?_))); (case side4 => exact HC140_0.out); rintro e w' ⟨rfl, ⟨nd, rfl⟩⟩; (try first | exact ⟨rfl, _, World.drewN_drewN _ _ _⟩ | exact ⟨rfl, _, Eq.trans (World.drewN_drewN _ _ _) (congrArg (World.drewN _) (Nat.add_assoc _ _ _))⟩)))
                repeat (go_quiet (first | (go_at_call 60; (with_reducible refine (jacquardref02_Nums.calls k1 _ _ (rd_L1 l0 x5_1) _ _ (rd_L1 l1 x5_1) false _ ?side1 ?side2 ?side3 ?side4 A7.out).mono ?_); (case side1 => repeat (first | exact HR139_0.out | (with_reducible refine Kd.C_alloc ?_ _) | (with_reducible refine Kd.C_drewN ?_ _) | (with_reducible refine Kd.C_drew ?_))); (case side2 => exact HC139_0.out); (case side3 => repeat (first | exact HR140_0.out | (with_reducible refine Kd.C_alloc ?_ _) | (with_reducible refine Kd.C_drewN ?_ _) | (with_reducible refine Kd.C_drew ?_))); (case side4 => exact HC140_0.out); rintro e w' ⟨rfl, ⟨nd, rfl⟩⟩; (try first | exact ⟨rfl, _, World.drewN_drewN _ _ _⟩ | exact ⟨rfl, _, Eq.trans (World.drewN_drewN _ _ _) (congrArg (World.drewN _) (Nat.add_assoc _ _ _))⟩))); try go_wp2_with (first | (go_at_call 60; (with_reducible refine (jacquardref02_Nums.calls k1 _ _ (rd_L1 l0 x5_1) _ _ (rd_L1 l1 x5_1) false _ ?side1 ?side2 ?side3 ?side4 A7.out).mono ?_); (case side1 => repeat (first | exact HR139_0.out | (with_reducible refine Kd.C_alloc ?_ _) | (with_reducible refine Kd.C_drewN ?_ _) | (with_reducible refine Kd.C_drew ?_))); (case side2 => exact HC139_0.out); (case side3 => repeat (first | exact HR140_0.out | (with_reducible refine Kd.C_alloc ?_ _) | (with_reducible refine Kd.C_drewN ?_ _) | (with_reducible refine Kd.C_drew ?_))); (case side4 => exact HC140_0.out); rintro e w' ⟨rfl, ⟨nd, rfl⟩⟩; (try first | exact ⟨rfl, _, World.drewN_drewN _ _ _⟩ | exact ⟨rfl, _, Eq.trans (World.drewN_drewN _ _ _) (congrArg (World.drewN _) (Nat.add_assoc _ _ _))⟩))))
                go_ret
                exact ⟨by first | rfl | (simp; done) | (simp [*]; done), by repeat (first | exact Drawn0.refl _ | apply Drawn0.step)⟩
            · rw [if_neg c6] at H
              exact absurd H (by simp)
          · rw [if_neg c5] at H
            exact absurd H (by simp)
        · rw [if_neg c4] at H
          have c4b0 : decide (x5_1 < (l0.length : Int)) = false := decide_eq_false c4
          clear c4
          obtain rfl := Option.some.inj H
          go_wp2
          repeat (go_quiet (fail); try go_wp2)
          go_ret
          exact ⟨by first | rfl | (simp; done) | (simp [*]; done), by repeat (first | exact Drawn0.refl _ | apply Drawn0.step)⟩
  · rw [if_neg c3] at H
    have c3b0 : ((l0.length : Int) == (l1.length : Int)) = false := beq_eq_false_iff_ne.mpr c3
    have c3b1 : ((l0.length : Int) != (l1.length : Int)) = true := bne_iff_ne.mpr c3
    have c3b2 : (l0.length == l1.length) = false := by first | simpa using c3 | (simp at c3 ⊢; omega)
    obtain rfl := Option.some.inj H
    go_enter Try.func50, Try.ntmps50
    go_wp2
    repeat (go_quiet (fail); try go_wp2)
    go_ret
    exact ⟨by first | rfl | (simp; done) | (simp [*]; done), by repeat (first | exact Drawn0.refl _ | apply Drawn0.step)⟩

mutual
def jacquardref02_Preds.l0 : Nat → List (List Int) → List (List Int) → Int → Option ((List (List Int)))
  | 0, _, _, _ => none
  | k + 1, x0, x3, x4 => if x4 < (x0.length : Int) then (jacquardref02_Preds.l1 k x0 x3 x4 ([] : List Int) 0) else (some x3)
def jacquardref02_Preds.l1 : Nat → List (List Int) → List (List Int) → Int → List Int → Int → Option ((List (List Int)))
  | 0, _, _, _, _, _ => none
  | k + 1, x0, x3, x4, x5, x6 => if x6 < (x0.length : Int) then ((jacquardref02_Edge.f k x0 x6 x4).bind fun t145 => (if t145 = true then (if x5.length < 17592186044416 then (jacquardref02_Preds.l1 k x0 x3 x4 (x5 ++ [x6]) (wrap64 (x6 + 1))) else (none)) else (jacquardref02_Preds.l1 k x0 x3 x4 x5 (wrap64 (x6 + 1))))) else (if x3.length < 5864062014805 then (jacquardref02_Preds.l0 k x0 (x3 ++ [x5]) (wrap64 (x4 + 1))) else (none))
end
def jacquardref02_Preds.f (k : Nat) (l0 : List (List Int)) : Option ((List (List Int))) := jacquardref02_Preds.l0 k l0 ([] : List (List Int)) 0
theorem jacquardref02_Preds.mono_l : ∀ k, (∀ y0 y1 y2, LeO (jacquardref02_Preds.l0 k y0 y1 y2) (jacquardref02_Preds.l0 (k + 1) y0 y1 y2)) ∧ (∀ y0 y1 y2 y3 y4, LeO (jacquardref02_Preds.l1 k y0 y1 y2 y3 y4) (jacquardref02_Preds.l1 (k + 1) y0 y1 y2 y3 y4))
  | 0 => ⟨fun _ _ _ r h => by simp [jacquardref02_Preds.l0] at h, fun _ _ _ _ _ r h => by simp [jacquardref02_Preds.l1] at h⟩
  | k + 1 => by
    obtain ⟨ih0, ih1⟩ := jacquardref02_Preds.mono_l k
    refine ⟨?_, ?_⟩
    · intro y0 y1 y2
      unfold jacquardref02_Preds.l0
      repeat' first | (with_reducible exact LeO.refl _) | (with_reducible refine LeO.ite ?_ ?_) | (with_reducible refine LeO.bind ?_ (fun _ => ?_)) | exact LeO.none _ | exact ih0 _ _ _ | exact ih1 _ _ _ _ _ | exact jacquardref02_Edge.mono _ _ _ _ | refine LeO.ite ?_ ?_ | refine LeO.bind ?_ (fun _ => ?_)
    · intro y0 y1 y2 y3 y4
      unfold jacquardref02_Preds.l1
      repeat' first | (with_reducible exact LeO.refl _) | (with_reducible refine LeO.ite ?_ ?_) | (with_reducible refine LeO.bind ?_ (fun _ => ?_)) | exact LeO.none _ | exact ih0 _ _ _ | exact ih1 _ _ _ _ _ | exact jacquardref02_Edge.mono _ _ _ _ | refine LeO.ite ?_ ?_ | refine LeO.bind ?_ (fun _ => ?_)
theorem jacquardref02_Preds.mono : ∀ a0 k, LeO (jacquardref02_Preds.f k a0) (jacquardref02_Preds.f (k + 1) a0) := by
  intro a0 k
  obtain ⟨ih0, ih1⟩ := jacquardref02_Preds.mono_l k
  unfold jacquardref02_Preds.f
  repeat' first | (with_reducible exact LeO.refl _) | (with_reducible refine LeO.ite ?_ ?_) | (with_reducible refine LeO.bind ?_ (fun _ => ?_)) | exact LeO.none _ | exact ih0 _ _ _ | exact ih1 _ _ _ _ _ | exact jacquardref02_Edge.mono _ _ _ _ | refine LeO.ite ?_ ?_ | refine LeO.bind ?_ (fun _ => ?_)
mutual
def jacquardref02_Headers.l0 : Nat → List (List Int) → List (List Bool) → List Int → Int → Option (List Int)
  | 0, _, _, _, _ => none
  | k + 1, x0, x3, x4, x5 => if x5 < (x0.length : Int) then (jacquardref02_Headers.l1 k x0 x3 x4 x5 false 0) else (some x4)
def jacquardref02_Headers.l1 : Nat → List (List Int) → List (List Bool) → List Int → Int → Bool → Int → Option (List Int)
  | 0, _, _, _, _, _, _ => none
  | k + 1, x0, x3, x4, x5, x6, x7 => if x7 < (x0.length : Int) then ((jacquardref02_Edge.f k x0 x7 x5).bind fun t204 => (if x6 = true then (jacquardref02_Headers.l1 k x0 x3 x4 x5 true (wrap64 (x7 + 1))) else (if t204 = true then (if 0 ≤ x5 then (if x5 < (x3.length : Int) then (if 0 ≤ x7 then (if x7 < ((rd_L6 x3 x5).length : Int) then (jacquardref02_Headers.l1 k x0 x3 x4 x5 (rdOf false (rd_L6 x3 x5) x7) (wrap64 (x7 + 1))) else (none)) else (none)) else (none)) else (none)) else (jacquardref02_Headers.l1 k x0 x3 x4 x5 false (wrap64 (x7 + 1)))))) else (if x6 = true then (if x4.length < 17592186044416 then (jacquardref02_Headers.l0 k x0 x3 (x4 ++ [x5]) (wrap64 (x5 + 1))) else (none)) else (jacquardref02_Headers.l0 k x0 x3 x4 (wrap64 (x5 + 1))))
end
def jacquardref02_Headers.f (k : Nat) (l0 : List (List Int)) : Option (List Int) := (jacquardref02_Table.f k l0).bind fun t201 => (jacquardref02_Headers.l0 k l0 t201 ([] : List Int) 0)
theorem jacquardref02_Headers.mono_l : ∀ k, (∀ y0 y1 y2 y3, LeO (jacquardref02_Headers.l0 k y0 y1 y2 y3) (jacquardref02_Headers.l0 (k + 1) y0 y1 y2 y3)) ∧ (∀ y0 y1 y2 y3 y4 y5, LeO (jacquardref02_Headers.l1 k y0 y1 y2 y3 y4 y5) (jacquardref02_Headers.l1 (k + 1) y0 y1 y2 y3 y4 y5))
  | 0 => ⟨fun _ _ _ _ r h => by simp [jacquardref02_Headers.l0] at h, fun _ _ _ _ _ _ r h => by simp [jacquardref02_Headers.l1] at h⟩
  | k + 1 => by
    obtain ⟨ih0, ih1⟩ := jacquardref02_Headers.mono_l k
    refine ⟨?_, ?_⟩
    · intro y0 y1 y2 y3
      unfold jacquardref02_Headers.l0
      repeat' first | (with_reducible exact LeO.refl _) | (with_reducible refine LeO.ite ?_ ?_) | (with_reducible refine LeO.bind ?_ (fun _ => ?_)) | exact LeO.none _ | exact ih0 _ _ _ _ | exact ih1 _ _ _ _ _ _ | exact jacquardref02_Edge.mono _ _ _ _ | exact jacquardref02_Table.mono _ _ | refine LeO.ite ?_ ?_ | refine LeO.bind ?_ (fun _ => ?_)
    · intro y0 y1 y2 y3 y4 y5
      unfold jacquardref02_Headers.l1
      repeat' first | (with_reducible exact LeO.refl _) | (with_reducible refine LeO.ite ?_ ?_) | (with_reducible refine LeO.bind ?_ (fun _ => ?_)) | exact LeO.none _ | exact ih0 _ _ _ _ | exact ih1 _ _ _ _ _ _ | exact jacquardref02_Edge.mono _ _ _ _ | exact jacquardref02_Table.mono _ _ | refine LeO.ite ?_ ?_ | refine LeO.bind ?_ (fun _ => ?_)
theorem jacquardref02_Headers.mono : ∀ a0 k, LeO (jacquardref02_Headers.f k a0) (jacquardref02_Headers.f (k + 1) a0) := by
  intro a0 k
  obtain ⟨ih0, ih1⟩ := jacquardref02_Headers.mono_l k
  unfold jacquardref02_Headers.f
  repeat' first | (with_reducible exact LeO.refl _) | (with_reducible refine LeO.ite ?_ ?_) | (with_reducible refine LeO.bind ?_ (fun _ => ?_)) | exact LeO.none _ | exact ih0 _ _ _ _ | exact ih1 _ _ _ _ _ _ | exact jacquardref02_Edge.mono _ _ _ _ | exact jacquardref02_Table.mono _ _ | refine LeO.ite ?_ ?_ | refine LeO.bind ?_ (fun _ => ?_)
mutual
def jacquardref02_Critical.l0 : Nat → List (List Int) → List (List Int) → List (S73) → Int → Option ((List (S73)))
  | 0, _, _, _, _ => none
  | k + 1, x0, x3, x4, x5 => if x5 < (x0.length : Int) then ((jacquardref02_next.f k x0 x5).bind fun t213 => (jacquardref02_Critical.l1 k x0 x3 x4 x5 t213 0)) else (some x4)
def jacquardref02_Critical.l1 : Nat → List (List Int) → List (List Int) → List (S73) → Int → List Int → Int → Option ((List (S73)))
  | 0, _, _, _, _, _, _ => none
  | k + 1, x0, x3, x4, x5, x6, x7 => if x7 < (x6.length : Int) then (if (x6.length : Int) > 1 then (if 0 ≤ x7 then (if 0 ≤ (rd x6 x7) then (if (rd x6 x7) < (x3.length : Int) then (if ((rd_L1 x3 (rd x6 x7)).length : Int) > 1 then (if x4.length < 8796093022208 then (jacquardref02_Critical.l1 k x0 x3 (x4 ++ [(⟨x5, rd x6 x7⟩ : S73)]) x5 x6 (wrap64 (x7 + 1))) else (none)) else (jacquardref02_Critical.l1 k x0 x3 x4 x5 x6 (wrap64 (x7 + 1)))) else (none)) else (none)) else (none)) else (jacquardref02_Critical.l1 k x0 x3 x4 x5 x6 (wrap64 (x7 + 1)))) else (jacquardref02_Critical.l0 k x0 x3 x4 (wrap64 (x5 + 1)))
end
def jacquardref02_Critical.f (k : Nat) (l0 : List (List Int)) : Option ((List (S73))) := (jacquardref02_Preds.f k l0).bind fun t210 => (jacquardref02_Critical.l0 k l0 t210 ([] : List (S73)) 0)
theorem jacquardref02_Critical.mono_l : ∀ k, (∀ y0 y1 y2 y3, LeO (jacquardref02_Critical.l0 k y0 y1 y2 y3) (jacquardref02_Critical.l0 (k + 1) y0 y1 y2 y3)) ∧ (∀ y0 y1 y2 y3 y4 y5, LeO (jacquardref02_Critical.l1 k y0 y1 y2 y3 y4 y5) (jacquardref02_Critical.l1 (k + 1) y0 y1 y2 y3 y4 y5))
  | 0 => ⟨fun _ _ _ _ r h => by simp [jacquardref02_Critical.l0] at h, fun _ _ _ _ _ _ r h => by simp [jacquardref02_Critical.l1] at h⟩
  | k + 1 => by
    obtain ⟨ih0, ih1⟩ := jacquardref02_Critical.mono_l k
    refine ⟨?_, ?_⟩
    · intro y0 y1 y2 y3
      unfold jacquardref02_Critical.l0
      repeat' first | (with_reducible exact LeO.refl _) | (with_reducible refine LeO.ite ?_ ?_) | (with_reducible refine LeO.bind ?_ (fun _ => ?_)) | exact LeO.none _ | exact ih0 _ _ _ _ | exact ih1 _ _ _ _ _ _ | exact jacquardref02_Preds.mono _ _ | exact jacquardref02_next.mono _ _ _ | refine LeO.ite ?_ ?_ | refine LeO.bind ?_ (fun _ => ?_)
    · intro y0 y1 y2 y3 y4 y5
      unfold jacquardref02_Critical.l1
      repeat' first | (with_reducible exact LeO.refl _) | (with_reducible refine LeO.ite ?_ ?_) | (with_reducible refine LeO.bind ?_ (fun _ => ?_)) | exact LeO.none _ | exact ih0 _ _ _ _ | exact ih1 _ _ _ _ _ _ | exact jacquardref02_Preds.mono _ _ | exact jacquardref02_next.mono _ _ _ | refine LeO.ite ?_ ?_ | refine LeO.bind ?_ (fun _ => ?_)
theorem jacquardref02_Critical.mono : ∀ a0 k, LeO (jacquardref02_Critical.f k a0) (jacquardref02_Critical.f (k + 1) a0) := by
  intro a0 k
  obtain ⟨ih0, ih1⟩ := jacquardref02_Critical.mono_l k
  unfold jacquardref02_Critical.f
  repeat' first | (with_reducible exact LeO.refl _) | (with_reducible refine LeO.ite ?_ ?_) | (with_reducible refine LeO.bind ?_ (fun _ => ?_)) | exact LeO.none _ | exact ih0 _ _ _ _ | exact ih1 _ _ _ _ _ _ | exact jacquardref02_Preds.mono _ _ | exact jacquardref02_next.mono _ _ _ | refine LeO.ite ?_ ?_ | refine LeO.bind ?_ (fun _ => ?_)
end Go.Proofs.Ytnmeomdjhjgnfaa.X
end
section
set_option linter.unusedVariables false
set_option linter.unusedSimpArgs false
namespace Go.Proofs.Ytnmeomdjhjgnfaa.X
open Go.RowKit Go.Proofs.YtnmeomdjhjgnfaaW.PrintWords Go.Proofs.YtnmeomdjhjgnfaaW.PrintLast Go.Proofs.YtnmeomdjhjgnfaaW.PrintMore

/-! ### the same rows -/
theorem nums_l0 (l : List Int) (hl : l.length ≤ 1000000) : ∀ (d i : Nat), i + d = l.length → jacquardref02_Nums.l0 (d + 1) l l i = some true := by
  intro d
  induction d with
  | zero => intro i h; rw [jacquardref02_Nums.l0, if_neg (by omega)]
  | succ d ih =>
    intro i h
    rw [jacquardref02_Nums.l0, if_pos (by omega), if_pos (by omega), if_pos (by omega), if_pos rfl, w64 (by omega) (by omega)]
    exact ih (i + 1) (by omega)
theorem nums_same (l : List Int) (hl : l.length ≤ 1000000) {k : Nat} (hk : 1000001 ≤ k) : jacquardref02_Nums.f k l l = some true := by
  unfold jacquardref02_Nums.f
  rw [if_pos rfl]
  exact up (f := fun k => jacquardref02_Nums.l0 k l l 0) (fun k => jacquardref02_Nums.mono_l k _ _ _) (show l.length + 1 ≤ k by omega) (nums_l0 l hl l.length 0 (by omega))
theorem rows_l0 (l : List (List Int)) (hok : okG l = true) : ∀ (d i K : Nat), i + d = l.length → d + 1000002 ≤ K → jacquardref02_Rows.l0 K l l i = some true := by
  have hl := (okG_len hok).1
  intro d
  induction d with
  | zero =>
    intro i K h hK
    obtain ⟨K1, rfl⟩ : ∃ m, K = m + 1 := ⟨K - 1, by omega⟩
    rw [jacquardref02_Rows.l0, if_neg (by omega)]
  | succ d ih =>
    intro i K h hK
    obtain ⟨K1, rfl⟩ : ∃ m, K = m + 1 := ⟨K - 1, by omega⟩
    have hlt : i < l.length := by omega
    have e : rd_L1 l (i : Int) = l[i] := by simp [rd_L1, hlt]
    rw [jacquardref02_Rows.l0, if_pos (by omega), if_pos (by omega), if_pos (by omega), nums_same _ (by rw [e]; exact (okG_len hok).2 _ (List.getElem_mem _)) (by omega), Option.bind_some, if_pos rfl, w64 (by omega) (by omega)]
    exact ih (i + 1) K1 (by omega) (by omega)
theorem rows_same (l : List (List Int)) (hok : okG l = true) {k : Nat} (hk : 2000003 ≤ k) : jacquardref02_Rows.f k l l = some true := by
  have hl := (okG_len hok).1
  unfold jacquardref02_Rows.f
  rw [if_pos rfl]
  exact rows_l0 l hok l.length 0 k (by omega) (by omega)

/-! ### rows of clean, of next -/
/-! ### Preds -/
section
variable {g : List (List Int)}
end
/-! ### Order -/
/-! ### Headers -/
section
variable {g : List (List Int)} {t : List (List Bool)} {Q : List Int → Prop}
end
/-! ### Critical -/
section
variable {g : List (List Int)} {Q : List S73 → Prop}
end
/-- Where the blocks go, rising, each once. -/
def ofL (bs : List S46) : List (List Int) := bs.map fun b => keptL b.f2.f2 bs.length
abbrev toOf (bs : List S46) (a : Int) : List Int := (rd_T46 bs a).f2.f2
theorem ofL_rd (bs : List S46) (a : Int) (h0 : 0 ≤ a) (h1 : a < bs.length) : rd_L1 (ofL bs) a = keptL (toOf bs a) bs.length := by
  have hlt : a.toNat < bs.length := by omega
  unfold rd_L1 ofL toOf rd_T46
  rw [List.getD_eq_getElem?_getD, List.getElem?_map, List.getD_eq_getElem?_getD, List.getElem?_eq_getElem hlt]
  rfl
theorem ofL_ext (bs : List S46) (r : List (List Int)) (hl : r.length = bs.length) (h : ∀ a, 0 ≤ a → a < (bs.length : Int) → rd_L1 r a = rd_L1 (ofL bs) a) : r = ofL bs := by
  have hl2 : (ofL bs).length = bs.length := by unfold ofL; simp
  refine List.ext_getElem (hl.trans hl2.symm) (fun i h1 h2 => ?_)
  have e : ∀ l : List (List Int), (h : i < l.length) → l[i] = rd_L1 l (i : Int) := fun l h => by simp [rd_L1, h]
  rw [e r h1, e _ h2, h _ (by omega) (by omega)]
section
variable {bs : List S46} {p : Int}
theorem of_l0 (hn : bs.length ≤ 1000) (ht : ∀ a, 0 ≤ a → a < (bs.length : Int) → (toOf bs a).length ≤ 1000) : ∀ (d : Nat) (x3 : List (List Int)) (x13 : Int), 0 ≤ x13 → x13 + d = bs.length → x3.length = bs.length → (∀ a, 0 ≤ a → a < x13 → rd_L1 x3 a = rd_L1 (ofL bs) a) →
    Ends (fun k => graph_Of.l0 k x3 bs bs.length x13 p bs) (fun r => r = ofL bs) := by
  intro d
  induction d with
  | zero =>
    intro x3 x13 h0 hd hl hx
    exact ⟨1, x3, by show graph_Of.l0 (0 + 1) x3 bs bs.length x13 p bs = _; rw [graph_Of.l0, if_neg (by omega)], ofL_ext bs x3 hl (fun a h1 h2 => hx a h1 (by omega))⟩
  | succ d ih =>
    intro x3 x13 h0 hd hl hx
    have hk : graph_kept.f ((rd_T46 bs x13).f2.f2) (bs.length : Int) = some (keptL (toOf bs x13) bs.length) := by
      have := ht x13 h0 (by omega)
      unfold graph_kept.f
      exact if_pos (Nat.le_trans this (by decide))
    refine (ih (x3.set x13.toNat (keptL (toOf bs x13) bs.length)) (x13 + 1) (by omega) (by omega) (by simpa using hl) (fun a h1 h2 => ?_)).step (fun k => ?_)
    · by_cases e : a = x13
      · subst e
        rw [ofL_rd bs a h0 (by omega)]
        unfold rd_L1
        rw [List.getD_eq_getElem?_getD, List.getElem?_set_self (by omega)]
        rfl
      · rw [← hx a h1 (by omega)]
        unfold rd_L1
        rw [List.getD_eq_getElem?_getD, List.getElem?_set_ne (by omega), ← List.getD_eq_getElem?_getD]
    · rw [graph_Of.l0, if_pos (by omega), if_pos h0, if_pos (by omega), hk, Option.bind_some, if_pos (by omega), w64 (by omega) (by omega)]
theorem of_some (hn : bs.length ≤ 1000) (ht : ∀ a, 0 ≤ a → a < (bs.length : Int) → (toOf bs a).length ≤ 1000) : Ends (fun k => graph_Of.f k p bs) (fun r => r = ofL bs) := by
  refine (of_l0 (p := p) hn ht bs.length (List.replicate ((bs.length : Int) : Int).toNat []) 0 (by omega) (by omega) (by simp) (fun a h0 h1 => by omega)).same (fun k => ?_)
  unfold graph_Of.f
  rw [if_pos (by omega), if_pos (by omega)]
theorem rof_l2 (hn : bs.length ≤ 1000) (x3 : List (List Int)) (a : Int) (ha : 0 ≤ a ∧ a < (bs.length : Int)) (tl : List Int) (hto : (rd_T46 bs a).f2.f2 = tl) (ht : tl.length ≤ 1000) (x5 : List Int) (hx5 : x5.length ≤ 1000) (b : Int) (hb : 0 ≤ b ∧ b < 1000000) {Q : List (List Int) → Prop}
    (hc : Ends (fun k => jacquardref02_Of.l1 k x3 a (if tl.contains b = true then x5 ++ [b] else x5) (b + 1) p bs) Q) : ∀ (d i : Nat) (x7 : Bool), i + d = tl.length → (x7 || (tl.drop i).contains b) = tl.contains b →
    Ends (fun k => jacquardref02_Of.l2 k x3 a x5 b x7 i p bs) Q := by
  intro d
  induction d with
  | zero =>
    intro i x7 hd he
    rw [List.drop_of_length_le (by omega), List.contains_nil, Bool.or_false] at he
    refine hc.step (fun k => ?_)
    rw [jacquardref02_Of.l2, hto, if_pos ha.1, if_pos (by omega), if_neg (by omega), w64 (by omega) (by omega)]
    by_cases h7 : x7 = true
    · rw [if_pos h7, if_pos (by omega), if_pos (by rw [← he]; exact h7)]
    · rw [if_neg h7, if_neg (by rw [← he]; exact h7)]
  | succ d ih =>
    intro i x7 hd he
    have hlt : i < tl.length := by omega
    have hrd : rd tl i = tl[i] := by simp [rd, hlt]
    have hw : wrap64 ((i : Int) + 1) = ((i + 1 : Nat) : Int) := by rw [w64 (by omega) (by omega)]; omega
    have hdrop : tl.drop i = rd tl i :: tl.drop (i + 1) := by rw [hrd]; exact List.drop_eq_getElem_cons hlt
    rw [hdrop, List.contains_cons] at he
    by_cases h7 : x7 = true
    · refine (ih (i + 1) true (by omega) (by rw [h7, Bool.true_or] at he; rw [Bool.true_or]; exact he)).step (fun k => ?_)
      rw [jacquardref02_Of.l2, hto, if_pos ha.1, if_pos (by omega), if_pos (by omega), if_pos h7, hw]
    · have h7' : x7 = false := by simpa using h7
      refine (ih (i + 1) (rd tl i == b) (by omega) (by
        rw [h7', Bool.false_or] at he
        rw [← he]
        congr 1
        rw [Bool.eq_iff_iff, beq_iff_eq, beq_iff_eq]
        exact eq_comm)).step (fun k => ?_)
      rw [jacquardref02_Of.l2, hto, if_pos ha.1, if_pos (by omega), if_pos (by omega), if_neg h7, if_pos (by omega), hw]
theorem rof_l1 (hn : bs.length ≤ 1000) (x3 : List (List Int)) (hx3 : x3.length ≤ 1000) (a : Int) (ha : 0 ≤ a ∧ a < (bs.length : Int)) (ht : (toOf bs a).length ≤ 1000) {Q : List (List Int) → Prop}
    (hc : Ends (fun k => jacquardref02_Of.l0 k (x3 ++ [keptL (toOf bs a) bs.length]) (a + 1) p bs) Q) : ∀ (d : Nat) (x5 : List Int) (x6 : Int), 0 ≤ x6 → x6 + d = bs.length → (x5.length : Int) ≤ x6 → x5 ++ upto (fun b => (toOf bs a).contains b) d x6 = keptL (toOf bs a) bs.length →
    Ends (fun k => jacquardref02_Of.l1 k x3 a x5 x6 p bs) Q := by
  intro d
  induction d with
  | zero =>
    intro x5 x6 h0 hd h5 he
    rw [upto, List.append_nil] at he
    rw [← he] at hc
    refine hc.step (fun k => ?_)
    rw [jacquardref02_Of.l1, if_neg (by omega), if_pos (by omega), w64 (by omega) (by omega)]
  | succ d ih =>
    intro x5 x6 h0 hd h5 he
    rw [upto] at he
    refine (rof_l2 (p := p) hn x3 a ha (toOf bs a) rfl ht x5 (by omega) x6 ⟨h0, by omega⟩ ?_ (toOf bs a).length 0 false (by omega) (by simp)).step (fun k => ?_)
    · by_cases h : (toOf bs a).contains x6 = true
      · rw [if_pos h] at he
        rw [if_pos h]
        exact ih (x5 ++ [x6]) (x6 + 1) (by omega) (by omega) (by rw [List.length_append]; simp; omega) (by rw [List.append_assoc]; exact he)
      · rw [if_neg h] at he
        rw [if_neg h]
        exact ih x5 (x6 + 1) (by omega) (by omega) (by omega) he
    · rw [jacquardref02_Of.l1, if_pos (by omega)]
      rfl
theorem rof_l0 (hn : bs.length ≤ 1000) (ht : ∀ a, 0 ≤ a → a < (bs.length : Int) → (toOf bs a).length ≤ 1000) : ∀ (d : Nat) (x3 : List (List Int)) (x4 : Int), x4 + d = bs.length → (x3.length : Int) = x4 → (∀ a, 0 ≤ a → a < x4 → rd_L1 x3 a = rd_L1 (ofL bs) a) →
    Ends (fun k => jacquardref02_Of.l0 k x3 x4 p bs) (fun r => r = ofL bs) := by
  intro d
  induction d with
  | zero =>
    intro x3 x4 hd hl hx
    exact ⟨1, x3, by show jacquardref02_Of.l0 (0 + 1) x3 x4 p bs = _; rw [jacquardref02_Of.l0, if_neg (by omega)], ofL_ext bs x3 (by omega) (fun a h1 h2 => hx a h1 (by omega))⟩
  | succ d ih =>
    intro x3 x4 hd hl hx
    refine (rof_l1 (p := p) hn x3 (by omega) x4 ⟨by omega, by omega⟩ (ht x4 (by omega) (by omega)) (ih (x3 ++ [_]) (x4 + 1) (by omega) (by rw [List.length_append]; simp; omega) (fun a h0 h1 => ?_)) bs.length [] 0 (by omega) (by omega) (by simp) (by rw [List.nil_append, keptL_upto])).step (fun k => ?_)
    · have e : ∀ row, rd_L1 (x3 ++ [row]) a = if a = x3.length then row else rd_L1 x3 a := fun row => by
        unfold rd_L1
        rw [List.getD_eq_getElem?_getD, List.getD_eq_getElem?_getD]
        by_cases h : a = x3.length
        · rw [if_pos h, List.getElem?_append_right (by omega), show a.toNat - x3.length = 0 from by omega]; rfl
        · rw [if_neg h, List.getElem?_append_left (by omega)]
      rw [e]
      by_cases h : a = x3.length
      · rw [if_pos h, ofL_rd bs a h0 (by omega), h, hl]
      · rw [if_neg h]; exact hx a h0 (by omega)
    · rw [jacquardref02_Of.l0, if_pos (by omega)]
theorem rof_some (hn : bs.length ≤ 1000) (ht : ∀ a, 0 ≤ a → a < (bs.length : Int) → (toOf bs a).length ≤ 1000) : Ends (fun k => jacquardref02_Of.f k p bs) (fun r => r = ofL bs) :=
  rof_l0 hn ht bs.length [] 0 (by omega) rfl (fun a h0 h1 => by omega)
end
end Go.Proofs.Ytnmeomdjhjgnfaa.X
end
section
set_option linter.unusedVariables false
set_option linter.unusedSimpArgs false
namespace Go.Proofs.Ytnmeomdjhjgnfaa.X
open Go.RowKit Go.Proofs.YtnmeomdjhjgnfaaW.PrintWords Go.Proofs.YtnmeomdjhjgnfaaW.PrintLast Go.Proofs.YtnmeomdjhjgnfaaW.PrintMore
attribute [local go_sem] min2_int min_two
/-- A block with nothing but where it goes. -/
def blkV (x : Option Addr × Nat × Nat) : List Value := [.slice none 0 0, .slice none 0 0, .int .i64 3, .slice none 0 0, .slice x.1 x.2.1 x.2.2, .int .i32 0]
def blkS (row : List Int) : S46 := ⟨[], [], ⟨3, [], row, 0⟩⟩
theorem blkV_one (x : Option Addr × Nat × Nat) : ∀ u ∈ blkV x, u.oneCell' = true := by
  intro u hu
  simp only [blkV, List.mem_cons, List.not_mem_nil, or_false] at hu
  rcases hu with rfl | rfl | rfl | rfl | rfl | rfl <;> rfl
theorem info46 : (Try.prog.info? 46).map (fun i => (i.zero, i.size, i.bytes)) = some (some (.agg #[.slice none 0 0, .slice none 0 0, .int .i64 0, .slice none 0 0, .slice none 0 0, .int .i32 0]), 6, 112) := by kernel_rfl
theorem R_setCell {sz : Nat} {e : TypeId} {w : World} {base : Nat} {ok : Nat → Prop} {v : Value} {xs : List (List Value)} (h : (Kd.raw sz).R e w base ok v xs) {p : Addr} (hne : some p.block ≠ v.ownBlock) (u : Value) : (Kd.raw sz).R e (w.setCell p u) base ok v xs := by
  obtain ⟨h0, inner, ho, hr⟩ := h
  exact ⟨h0, inner, own_setCell ho hne u, hr⟩
/-- Blocks that read as rows. -/
theorem Fits.blocks {w w' : World} {A : Option Addr} {vs : List (Option Addr × Nat × Nat)} {rows : List (List Int)} (h : Fits w vs rows) (hC : (Kd.raw 6).C w' A (vs.map blkV).length (vs.map blkV)) (hb : Below w.heap.size w w') : Kd.C k46 w' A (rows.map blkS).length (rows.map blkS) := by
  obtain ⟨h1, h2, h3⟩ := hC
  have hl : (vs.map blkV).length = (rows.map blkS).length := by rw [List.length_map, List.length_map, h.1]
  refine ⟨rfl, by rw [← hl]; exact h2, fun hp => ?_⟩
  obtain ⟨ad, hA, hcell⟩ := h3 (by rw [hl]; exact hp)
  refine ⟨ad, hA, fun j x hj => ?_⟩
  have hlt : j < rows.length := by have := (List.getElem?_eq_some_iff.1 hj).1; rw [List.length_map] at this; exact this
  have hlt2 : j < vs.length := by rw [h.1]; exact hlt
  have hx : x = blkS rows[j] := by
    rw [List.getElem?_map, List.getElem?_eq_getElem hlt] at hj
    simpa using hj.symm
  subst hx
  obtain ⟨cs, hs, ⟨hk, _, _⟩, hc⟩ := hcell j (blkV vs[j]) (by rw [List.getElem?_map, List.getElem?_eq_getElem hlt2]; rfl)
  obtain ⟨e1, e2, e3⟩ := h.2 j vs[j] rows[j] (List.getElem?_eq_getElem hlt2) (List.getElem?_eq_getElem hlt)
  refine ⟨cs, hs, ?_, hc⟩
  rw [hk]
  unfold blkV
  rw [e1]
  exact k46_mk w' (blkS rows[j]) (Nat.le_refl _) (Kd.C_nil _ _) (Nat.le_refl _) (Kd.C_nil _ _) (Nat.le_refl _) (Kd.C_nil _ _) e2 (Kd.C_below e3 hb)
/-- Memory while the blocks are made: the struct's block is P, the row of blocks is younger. -/
structure OfI (w W : World) (P : Nat) (vs : List (Option Addr × Nat × Nat)) (Ab : Option Addr) (cb : Nat) : Prop where
  row : (Kd.raw 6).R 46 W (P + 1) (fun _ => True) (.slice Ab vs.length cb) (vs.map blkV)
  blk : W.heap[P]? = some (.cells #[.int .i64 0, .slice Ab vs.length cb] 40 (0, 0))
  below : Below w.heap.size w W
  old : w.heap.size ≤ P
theorem OfI.made {w W : World} (h : Below w.heap.size w W) : OfI w (W.alloc (.cells #[.int .i64 0, .slice none 0 0] 40)) W.heap.size [] none 0 :=
  ⟨Kd.R_nil _ _ _ _ _, by show (W.heap.push _)[W.heap.size]? = _; simp, below_alloc h _, h.size⟩
theorem OfI.drew1 {w W : World} {P : Nat} {vs : List (Option Addr × Nat × Nat)} {Ab : Option Addr} {cb : Nat} (h : OfI w W P vs Ab cb) : OfI w W.drew P vs Ab cb :=
  ⟨Kd.R_drew h.row, h.blk, below_drew1 h.below, h.old⟩
theorem OfI.step {w W W' : World} {P : Nat} {vs : List (Option Addr × Nat × Nat)} {Ab : Option Addr} {cb : Nat} (h : OfI w W P vs Ab cb) {x : Option Addr × Nat × Nat} {v : Value}
    (hR : (Kd.raw 6).R 46 W' (P + 1) (fun _ => True) v (vs.map blkV ++ [blkV x])) (hb : Below (P + 1) W W') :
    ∃ A c, v = .slice A (vs ++ [x]).length c ∧ W'.heap[P]? = some (.cells #[.int .i64 0, .slice Ab vs.length cb] 40 (0, 0)) ∧ OfI w (W'.setCell ⟨P, 1, none⟩ (.slice A (vs ++ [x]).length c)) P (vs ++ [x]) A c := by
  have hP : W'.heap[P]? = some (.cells #[.int .i64 0, .slice Ab vs.length cb] 40 (0, 0)) := (hb.block P (by omega)).trans h.blk
  have e1 : vs.map blkV ++ [blkV x] = (vs ++ [x]).map blkV := by rw [List.map_append]; rfl
  rw [e1] at hR
  obtain ⟨A, c, rfl, hl, _⟩ := Kd.R_reads hR
  rw [List.length_map] at hR ⊢
  have hne : some P ≠ (Value.slice A (vs ++ [x]).length c).ownBlock := by
    obtain ⟨_, inner, ho, _⟩ := hR
    intro e
    have := own_base ho P e.symm
    omega
  refine ⟨A, c, rfl, hP, R_setCell hR hne _, blk_set hP 1 _, ?_, h.old⟩
  exact (h.below.trans (hb.mono (by have := h.old; omega))).setCell h.old _
set_option maxHeartbeats 8000000 in
set_option maxRecDepth 100000 in
theorem graphOf_true (k : Nat) (A0 : Option Addr) (c0 : Nat) (l0 : List (List Int)) (w : World) (hr0 : Kd.C (Kd.slice 3 (Kd.int .i64)) w A0 l0.length l0)
    {r : List (List Int)} (h1 : graph_Of.f k 0 ((fewL l0).map blkS) = some r) (h2 : jacquardref02_Of.f k 0 ((fewL l0).map blkS) = some r) (h3 : jacquardref02_Rows.f k r r = some true) :
    Calls Try.prog 13 #[.slice A0 l0.length c0] w fun e w' => e = .returned (.bool true) ∧ Below w.heap.size w w' := by
  have HR0 := Aside0.mk hr0
  have HF1 := Aside0.mk h1
  have HF2 := Aside0.mk h2
  have HF3 := Aside0.mk h3
  clear hr0 h1 h2 h3
  go_enter Try.func13, Try.ntmps13
  go_wp2_with fail
  refine (jacquardlaw02_awake.calls true _ rfl).mono ?_
  rintro e W1 ⟨rfl, hb1⟩
  have HB1 := Aside0.mk hb1
  clear hb1
  go_wp2
  obtain ⟨P, hP⟩ : ∃ P, W1.heap.size = P := ⟨_, rfl⟩
  have hI0 := OfI.made HB1.out
  rw [hP] at hI0
  rw [hP]
  have HI0 := Aside0.mk hI0
  clear hI0 hP HB1
  go_loopg [5] 13 (fun kq v5 w' => ∃ (x4 : Int) (vs : List (Option Addr × Nat × Nat)) (Ab : Option Addr) (cb : Nat), v5 = .int .i64 x4 ∧ Aside0 (0 ≤ x4 ∧ x4 ≤ l0.length ∧ x4 ≤ 12 ∧ x4 + kq = 13) ∧ Aside0 (OfI w w' P vs Ab cb) ∧ Aside0 (Fits w vs ((l0.take x4.toNat).map fun r => r.take 5)))
  case atStart => exact ⟨0, [], none, 0, rfl, ⟨by omega, by omega, by omega, by omega⟩, HI0, ⟨rfl, fun i x r h => by simp at h⟩⟩
  case round =>
    clear HI0
    obtain ⟨x4, vs, Ab, cb, rfl, HK, HOI, HF⟩ := hrel
    have hend : (¬ x4 < (l0.length : Int) ∨ ¬ x4 < 12) → (l0.take x4.toNat).map (fun r => r.take 5) = fewL l0 := by
      intro h
      obtain ⟨k0, k1, k2, _⟩ := HK.out
      unfold fewL
      rcases h with h | h
      · rw [List.take_of_length_le (by omega), List.take_of_length_le (by omega)]
      · rw [show x4.toNat = 12 from by omega]
    have HEND := Aside0.mk hend
    clear hend
    by_cases c2 : x4 < (l0.length : Int) ∧ x4 < 12
    · obtain ⟨c2, c3⟩ := c2
      have c2b0 : decide (x4 < (l0.length : Int)) = true := decide_eq_true c2
      have c3b0 : decide (x4 < 12) = true := decide_eq_true c3
      have HC2 := Aside0.mk c2
      have HC3 := Aside0.mk c3
      obtain ⟨k1, rfl⟩ : ∃ m, gk = m + 1 := ⟨gk - 1, by have := HK.out; omega⟩
      clear c2 c3
      try go_wp2
      have c2 := HC2.out
      obtain ⟨k0, k1', k2, k3⟩ := HK.out
      obtain ⟨ad, A, c, e0, hx0, hl, hC⟩ := at_L1 HR0.out x4 k0 c2
      subst e0
      replace HOI := Aside0.mk HOI.out.drew1
      have hx : wr.drew.cell? (ad.add x4.toNat) = some (.slice A (rd_L1 l0 x4).length c) := (HOI.out.below.cell (World.block_lt_of_cell? _ _ hx0)).trans hx0
      have hfc : wr.drew.cell? ⟨P, 1, none⟩ = some (.slice Ab vs.length cb) := (blk_cell HOI.out.blk 1)
      clear hx0
      obtain ⟨row, hrow⟩ : ∃ row, row = (rd_L1 l0 x4).take 5 := ⟨_, rfl⟩
      obtain ⟨ji, hji⟩ : ∃ j_ : Int, (if 5 < ((rd_L1 l0 x4).length : Int) then 5 else ((rd_L1 l0 x4).length : Int)) = j_ := ⟨_, rfl⟩
      have hj0 : 0 ≤ ji := by rw [← hji]; split <;> omega
      have hj1 : ji ≤ ((rd_L1 l0 x4).length : Int) := by rw [← hji]; split <;> omega
      have hrl : row.length = ji.toNat := by rw [hrow, List.length_take, ← hji]; split <;> omega
      have hrt : (rd_L1 l0 x4).take ji.toNat = row := by
        rw [hrow, ← hji]
        split
        · rfl
        · rw [List.take_of_length_le (by omega), List.take_of_length_le (by omega)]
      have hRC : Kd.C (Kd.int .i64) w A row.length row := by
        have := Kd.C_take hC (m := ji.toNat) (by omega)
        rw [hrt] at this
        exact this
      have hcap : row.length ≤ c := by omega
      obtain ⟨i010, hi010, _, hsz10, _⟩ := info_parts info3
      have hcut10 := cut_to (P := Try.prog) 23 3 .i64 Try.underlying23 hi010 A (rd_L1 l0 x4).length c ji hj0 hj1 hl
      rw [← hrl] at hcut10
      have HF2 := Aside0.mk (HF.out.snoc hcap hRC)
      rw [hrow, few_take l0 x4 k0 c2, ← hrow] at HF2
      have p0 := eq_true k0
      have q0 := eq_true c2
      have j0 := eq_true hj0
      have j1 := eq_true hj1
      have j0b : decide (0 ≤ ji) = true := decide_eq_true hj0
      have j1b : decide (ji ≤ ((rd_L1 l0 x4).length : Int)) = true := decide_eq_true hj1
      have p0b : decide (0 ≤ x4) = true := decide_eq_true k0
      have HW := Aside0.mk (show wrap64 (x4 + 1) = x4 + 1 by unfold wrap64; omega)
      have HLV := Aside0.mk (show vs.length ≤ 12 by rw [HF.out.1, List.length_map, List.length_take]; omega)
      clear c2 k0 k1' k2 k3 hj0 hj1 hrl hrt hRC hC hl hi010 hsz10 HF hrow hcap
      refine start_ (n := 19) (S := fun w' => w'.cell? ⟨P, 1, none⟩ = some (.slice Ab vs.length cb) ∧ w'.cell? (ad.add x4.toNat) = some (.slice A (rd_L1 l0 x4).length c)) (ds := [16, 18]) #[false, false, false, false, false, false, false, false, false, false, false, false, false, false, false, false, false, false, false] (by kernel_rfl) rfl rfl ⟨hfc, hx⟩ (fun hHeld => ?_)
      generalize wr.drew = Wd at hHeld HOI ⊢
      clear hfc hx
      refine pure_ (i := 0) (N := some 17) (v := ?_) (a' := ?_) #[true, false, false, false, false, false, false, false, false, false, false, false, false, false, false, false, false, false, false] rfl rfl (by kernel_rfl) (fun _ _ _ h => h) (Or.inl ⟨by rfl, ?_⟩) ?_ ?_
      rotate_left
      · intro w'
        go_simp
        with_reducible rfl
      rotate_left
      · simp only [Act.put, List.setIfInBounds_toArray, List.set_cons_zero, List.set_cons_succ, i64_w, i32_w]
        rfl
      refine pure_ (i := 2) (N := some 19) (v := ?_) (a' := ?_) #[true, false, true, false, false, false, false, false, false, false, false, false, false, false, false, false, false, false, false] rfl rfl (by kernel_rfl) (fun _ _ _ h => h) (Or.inl ⟨by rfl, ?_⟩) ?_ ?_
      rotate_left
      · intro w'
        go_simp
        with_reducible rfl
      rotate_left
      · simp only [Act.put, List.setIfInBounds_toArray, List.set_cons_zero, List.set_cons_succ, i64_w, i32_w]
        rfl
      refine pure_ (i := 3) (N := some 20) (v := ?_) (a' := ?_) #[true, false, true, true, false, false, false, false, false, false, false, false, false, false, false, false, false, false, false] rfl rfl (by kernel_rfl) (fun _ _ _ h => h) (Or.inl ⟨by rfl, ?_⟩) ?_ ?_
      rotate_left
      · intro w'
        go_simp
        with_reducible rfl
      rotate_left
      · simp only [Act.put, List.setIfInBounds_toArray, List.set_cons_zero, List.set_cons_succ, i64_w, i32_w]
        rfl
      refine pure_ (i := 4) (N := some 21) (v := ?_) (a' := ?_) #[true, false, true, true, true, false, false, false, false, false, false, false, false, false, false, false, false, false, false] rfl rfl (by kernel_rfl) (fun _ _ _ h => h) (Or.inl ⟨by rfl, ?_⟩) ?_ ?_
      rotate_left
      · intro w'
        go_simp
        with_reducible rfl
      rotate_left
      · simp only [Act.put, List.setIfInBounds_toArray, List.set_cons_zero, List.set_cons_succ, i64_w, i32_w]
        rfl
      refine pure_ (i := 6) (N := some 23) (v := ?_) (a' := ?_) #[true, false, true, true, true, false, true, false, false, false, false, false, false, false, false, false, false, false, false] rfl rfl (by kernel_rfl) (fun _ _ _ h => h) (Or.inl ⟨by rfl, ?_⟩) ?_ ?_
      rotate_left
      · intro w'
        go_simp
        with_reducible rfl
      rotate_left
      · simp only [Act.put, List.setIfInBounds_toArray, List.set_cons_zero, List.set_cons_succ, i64_w, i32_w]
        rfl
      refine pure_ (i := 7) (N := some 24) (v := ?_) (a' := ?_) #[true, false, true, true, true, false, true, true, false, false, false, false, false, false, false, false, false, false, false] rfl rfl (by kernel_rfl) (fun _ _ _ h => h) (Or.inl ⟨by rfl, ?_⟩) ?_ ?_
      rotate_left
      · intro w'
        go_simp
        with_reducible rfl
      rotate_left
      · simp only [Act.put, List.setIfInBounds_toArray, List.set_cons_zero, List.set_cons_succ, i64_w, i32_w]
        rfl
      refine pure_ (i := 8) (N := some 25) (v := ?_) (a' := ?_) #[true, false, true, true, true, false, true, true, true, false, false, false, false, false, false, false, false, false, false] rfl rfl (by kernel_rfl) (fun _ _ _ h => h) (Or.inl ⟨by rfl, ?_⟩) ?_ ?_
      rotate_left
      · intro w'
        go_simp
        with_reducible rfl
      rotate_left
      · simp only [Act.put, List.setIfInBounds_toArray, List.set_cons_zero, List.set_cons_succ, i64_w, i32_w]
        rfl
      refine take_ (i := 1) (N := some 18) (v := ?_) (a' := ?_) #[true, true, true, true, true, false, true, true, true, false, false, false, false, false, false, false, false, false, false] rfl rfl (by kernel_rfl) (fun _ _ _ h => h) (Or.inl ⟨by rfl, ?_⟩) hHeld ?_ ?_
      rotate_left
      · rintro w' ⟨s0, s1⟩
        go_simp
        with_reducible rfl
      rotate_left
      · simp only [Act.put, List.setIfInBounds_toArray, List.set_cons_zero, List.set_cons_succ, i64_w, i32_w]
        rfl
      refine take_ (i := 5) (N := some 22) (v := ?_) (a' := ?_) #[true, true, true, true, true, true, true, true, true, false, false, false, false, false, false, false, false, false, false] rfl rfl (by kernel_rfl) (fun _ _ _ h => h) (Or.inl ⟨by rfl, ?_⟩) hHeld ?_ ?_
      rotate_left
      · rintro w' ⟨s0, s1⟩
        go_simp
        with_reducible rfl
      rotate_left
      · simp only [Act.put, List.setIfInBounds_toArray, List.set_cons_zero, List.set_cons_succ, i64_w, i32_w]
        rfl
      refine take_ (i := 9) (N := some 26) (v := ?_) (a' := ?_) #[true, true, true, true, true, true, true, true, true, true, false, false, false, false, false, false, false, false, false] rfl rfl (by kernel_rfl) (fun _ _ _ h => h) (Or.inl ⟨by rfl, ?_⟩) hHeld ?_ ?_
      rotate_left
      · rintro w' ⟨s0, s1⟩
        go_simp
        with_reducible rfl
      rotate_left
      · simp only [Act.put, List.setIfInBounds_toArray, List.set_cons_zero, List.set_cons_succ, i64_w, i32_w]
        rfl
      refine pure_ (i := 10) (N := some 27) (v := ?_) (a' := ?_) #[true, true, true, true, true, true, true, true, true, true, true, false, false, false, false, false, false, false, false] rfl rfl (by kernel_rfl) (fun _ _ _ h => h) (Or.inl ⟨by rfl, ?_⟩) ?_ ?_
      rotate_left
      · intro w'
        go_simp
        with_reducible rfl
      rotate_left
      · simp only [Act.put, List.setIfInBounds_toArray, List.set_cons_zero, List.set_cons_succ, i64_w, i32_w]
        rfl
      refine pure_ (i := 11) (N := some 28) (v := ?_) (a' := ?_) #[true, true, true, true, true, true, true, true, true, true, true, true, false, false, false, false, false, false, false] rfl rfl (by kernel_rfl) (fun _ _ _ h => h) (Or.inl ⟨by rfl, ?_⟩) ?_ ?_
      rotate_left
      · intro w'
        go_simp
        with_reducible rfl
      rotate_left
      · simp only [Act.put, List.setIfInBounds_toArray, List.set_cons_zero, List.set_cons_succ, i64_w, i32_w]
        rfl
      refine pure_ (i := 12) (N := some 29) (v := ?_) (a' := ?_) #[true, true, true, true, true, true, true, true, true, true, true, true, true, false, false, false, false, false, false] rfl rfl (by kernel_rfl) (fun _ _ _ h => h) (Or.inl ⟨by rfl, ?_⟩) ?_ ?_
      rotate_left
      · intro w'
        go_simp
        with_reducible rfl
      rotate_left
      · simp only [Act.put, List.setIfInBounds_toArray, List.set_cons_zero, List.set_cons_succ, i64_w, i32_w]
        rfl
      refine pure_ (i := 13) (N := some 30) (v := ?_) (a' := ?_) #[true, true, true, true, true, true, true, true, true, true, true, true, true, true, false, false, false, false, false] rfl rfl (by kernel_rfl) (fun _ _ _ h => h) (Or.inl ⟨by rfl, ?_⟩) ?_ ?_
      rotate_left
      · intro w'
        go_simp
        with_reducible rfl
      rotate_left
      · simp only [Act.put, List.setIfInBounds_toArray, List.set_cons_zero, List.set_cons_succ, i64_w, i32_w]
        rfl
      refine pure_ (i := 14) (N := some 31) (v := ?_) (a' := ?_) #[true, true, true, true, true, true, true, true, true, true, true, true, true, true, true, false, false, false, false] rfl rfl (by kernel_rfl) (fun _ _ _ h => h) (Or.inl ⟨by rfl, ?_⟩) ?_ ?_
      rotate_left
      · intro w'
        go_simp
        with_reducible rfl
      rotate_left
      · simp only [Act.put, List.setIfInBounds_toArray, List.set_cons_zero, List.set_cons_succ, i64_w, i32_w]
        rfl
      refine one_ (i := 15) (N := some 32) #[true, true, true, true, true, true, true, true, true, true, true, true, true, true, true, true, false, false, false] rfl rfl (by kernel_rfl) (by decide) (fun K hK => ?_)
      refine value_ (w1 := ?_) (v := ?_) (by rfl) rfl ?_ ?_
      rotate_left 2
      · go_simp
        constructor
        · rfl
        · rfl
      refine hK.out _ _ ⟨((below_alloc (Below.refl _ _) _).cell (World.block_lt_of_cell? _ _ hHeld.1)).trans hHeld.1, ((below_alloc (Below.refl _ _) _).cell (World.block_lt_of_cell? _ _ hHeld.2)).trans hHeld.2⟩ (fun _ => ?_)
      clear hK K
      refine norm_ (a' := ?_) ?_ ?_
      rotate_left
      · show Act.put _ (some 32) _ = _
        simp only [Act.put, List.setIfInBounds_toArray, List.set_cons_zero, List.set_cons_succ, i64_w, i32_w]
        rfl
      refine last_ (i := 16) (N := some 33) #[true, true, true, true, true, true, true, true, true, true, true, true, true, true, true, true, true, false, false] rfl rfl (by kernel_rfl) (by decide) (fun K hK => ?_)
      refine Kd.R_append_step (Kd.raw 6) (w0 := Wd) (P + 1) (by rfl) (.tmp 18) (.tmp 32) 38 46 (.agg #[.slice none 0 0, .slice none 0 0, .int .i64 0, .slice none 0 0, .slice none 0 0, .int .i32 0]) 112 rfl Try.underlying38 info46 rfl (by decide) (by omega) (.slice Ab vs.length cb) (vs.map blkV) (blkV (A, row.length, c)) (blkV (A, row.length, c)) (fun _ => True) (fun _ => False) rfl rfl ⟨rfl, rfl, blkV_one _⟩ (fun _ hk => hk.elim) (fun _ _ => trivial) HOI.out.row (Below.refl _ _) (blk_lt HOI.out.blk) ?aL ?_
      (case aL => have := HLV.out; rw [List.length_map]; omega)
      intro v33 W33 ho hb hg hat
      obtain ⟨Ad, cd, rfl, hPd, hI⟩ := HOI.out.step ho hb
      have HI2 := Aside0.mk hI
      clear ho hb hg hat hI
      refine hK.out _ _ ?_
      clear hK K
      refine norm_ (a' := ?_) ?_ ?_
      rotate_left
      · show Act.put _ (some 33) _ = _
        simp only [Act.put, List.setIfInBounds_toArray, List.set_cons_zero, List.set_cons_succ, i64_w, i32_w]
        rfl
      refine pure_ (i := 17) (N := some 34) (v := ?_) (a' := ?_) #[true, true, true, true, true, true, true, true, true, true, true, true, true, true, true, true, true, true, false] rfl rfl (by kernel_rfl) (fun _ _ _ h => h) (Or.inl ⟨by rfl, ?_⟩) ?_ ?_
      rotate_left
      · intro w'
        go_simp
        with_reducible rfl
      rotate_left
      · simp only [Act.put, List.setIfInBounds_toArray, List.set_cons_zero, List.set_cons_succ, i64_w, i32_w]
        rfl
      have hPc := (blk_cell hPd 1)
      have hPf := (blk_frozen hPd 1)
      clear hPd
      refine last_ (i := 18) (N := none) #[true, true, true, true, true, true, true, true, true, true, true, true, true, true, true, true, true, true, true] rfl rfl (by kernel_rfl) (by decide) (fun K hK => ?_)
      refine skip_ (w1 := W33.setCell ⟨P, 1, none⟩ (.slice Ad (vs ++ [(A, row.length, c)]).length cd)) (by rfl) rfl ?_ ?_
      · go_simp
      refine hK.out _ _ ?_
      clear hK K hPc hPf
      refine done_ (by kernel_rfl) ?_
      go_wp2
      go_roundg k1
      case measure => omega
      case rel => exact ⟨wrap64 (x4 + 1), vs ++ [(A, row.length, c)], Ad, cd, rfl, ⟨by rw [HW.out]; have := HK.out; have := HC2.out; have := HC3.out; omega⟩, by simpa only [List.length_append, List.length_singleton] using HI2, ⟨by rw [HW.out]; exact HF2.out⟩⟩

    · by_cases c3 : x4 < (l0.length : Int)
      · have c4 : ¬ x4 < 12 := fun h => c2 ⟨c3, h⟩
        have HE : ¬ x4 < (l0.length : Int) ∨ ¬ x4 < 12 := .inr c4
        have c2b0 : decide (x4 < (l0.length : Int)) = true := decide_eq_true c3
        have c3b0 : decide (x4 < 12) = false := decide_eq_false c4
        clear c2 c3 c4
        have hF := HF.out
        rw [HEND.out HE] at hF
        obtain ⟨A9, c9, hv9, hl9, hC9⟩ := Kd.R_reads HOI.out.row
        rw [List.length_map] at hv9 hl9
        injection hv9 with e1 _ e3
        subst e1
        subst e3
        have hBl := hF.blocks hC9 HOI.out.below
        have hlen : vs.length = ((fewL l0).map blkS).length := by rw [hF.1, List.length_map]
        rw [hlen] at hl9
        have hP0 := blk_cell HOI.out.blk 0
        have hP1 := blk_cell HOI.out.blk 1
        rw [hlen] at hP1
        obtain ⟨bs, hbs⟩ : ∃ bs, (fewL l0).map blkS = bs := ⟨_, rfl⟩
        rw [hbs] at hBl hl9 hP1 HF1 HF2
        have HBl := Aside0.mk hBl
        have HL := Aside0.mk hl9
        have HB := Aside0.mk HOI.out.below
        have HP0 := Aside0.mk hP0
        have HP1 := Aside0.mk hP1
        clear hF hC9 hBl hlen hP0 hP1 hbs hl9 HF HEND HOI HE
        go_upto_region 7 with fail
        refine start_ (n := 9) (S := fun w' => w'.cell? ⟨P, 0, none⟩ = some (.int .i64 0) ∧ w'.cell? ⟨P, 1, none⟩ = some (.slice Ab bs.length cb) ∧ Below wr.heap.size wr w') (ds := []) #[false, false, false, false, false, false, false, false, false] (by kernel_rfl) rfl rfl ⟨HP0.out, HP1.out, below_drew1 (Below.refl _ _)⟩ (fun hHeld => ?_)
        generalize wr.drew = Wd at hHeld ⊢
        refine pure_ (i := 0) (N := some 35) (v := ?_) (a' := ?_) #[true, false, false, false, false, false, false, false, false] rfl rfl (by kernel_rfl) (fun _ _ _ h => h) (Or.inl ⟨by rfl, ?_⟩) ?_ ?_
        rotate_left
        · intro w'
          go_simp
          with_reducible rfl
        rotate_left
        · simp only [Act.put, List.setIfInBounds_toArray, List.set_cons_zero, List.set_cons_succ, i64_w, i32_w]
          rfl
        refine pure_ (i := 1) (N := some 36) (v := ?_) (a' := ?_) #[true, true, false, false, false, false, false, false, false] rfl rfl (by kernel_rfl) (fun _ _ _ h => h) (Or.inl ⟨by rfl, ?_⟩) ?_ ?_
        rotate_left
        · intro w'
          go_simp
          with_reducible rfl
        rotate_left
        · simp only [Act.put, List.setIfInBounds_toArray, List.set_cons_zero, List.set_cons_succ, i64_w, i32_w]
          rfl
        refine take_ (i := 2) (N := some 37) (v := ?_) (a' := ?_) #[true, true, true, false, false, false, false, false, false] rfl rfl (by kernel_rfl) (fun _ _ _ h => h) (Or.inl ⟨by rfl, ?_⟩) hHeld ?_ ?_
        rotate_left
        · rintro w' ⟨s0, s1, _⟩
          go_simp
          with_reducible rfl
        rotate_left
        · simp only [Act.put, List.setIfInBounds_toArray, List.set_cons_zero, List.set_cons_succ, i64_w, i32_w]
          rfl
        refine take_ (i := 4) (N := some 39) (v := ?_) (a' := ?_) #[true, true, true, false, true, false, false, false, false] rfl rfl (by kernel_rfl) (fun _ _ _ h => h) (Or.inl ⟨by rfl, ?_⟩) hHeld ?_ ?_
        rotate_left
        · rintro w' ⟨s0, s1, _⟩
          go_simp
          with_reducible rfl
        rotate_left
        · simp only [Act.put, List.setIfInBounds_toArray, List.set_cons_zero, List.set_cons_succ, i64_w, i32_w]
          rfl
        refine one_ (i := 3) (N := some 38) #[true, true, true, true, true, false, false, false, false] rfl rfl (by kernel_rfl) (by decide) (fun K hK => ?_)
        refine goes_ Try.func51 (by kernel_rfl) rfl #[.agg #[.int .i64 0, .slice Ab bs.length cb]] (by rfl) rfl rfl (by simp only [List.map_toArray, List.map_cons, List.map_nil]; rfl) ?_
        refine (graph_Of.calls k 0 _ _ bs r _ (Kd.C_below HBl.out hHeld.2.2) HL.out HF1.out).mono ?_
        rintro e W5 ⟨v5, rfl, ho5, hb5⟩
        obtain ⟨A5, c5, rfl, hl5, hC5⟩ := Kd.S_reads ho5
        clear ho5
        refine ⟨_, rfl, ?_⟩
        have hH5 := hHeld.2.2.trans (hb5.mono hHeld.2.2.size)
        refine hK.out _ _ ⟨(hb5.cell (World.block_lt_of_cell? _ _ hHeld.1)).trans hHeld.1, (hb5.cell (World.block_lt_of_cell? _ _ hHeld.2.1)).trans hHeld.2.1, hH5⟩ (fun hHeld5 => ?_)
        clear hHeld; clear hK K
        refine norm_ (a' := ?_) ?_ ?_
        rotate_left
        · show Act.put _ (some 38) _ = _
          simp only [Act.put, List.setIfInBounds_toArray, List.set_cons_zero, List.set_cons_succ, i64_w, i32_w]
          rfl
        refine one_ (i := 5) (N := some 40) #[true, true, true, true, true, true, false, false, false] rfl rfl (by kernel_rfl) (by decide) (fun K hK => ?_)
        refine goes_ Try.func52 (by kernel_rfl) rfl #[.agg #[.int .i64 0, .slice Ab bs.length cb]] (by rfl) rfl rfl (by simp only [List.map_toArray, List.map_cons, List.map_nil]; rfl) ?_
        refine (jacquardref02_Of.calls k 0 _ _ bs r _ (Kd.C_below HBl.out hHeld5.2.2) HL.out HF2.out).mono ?_
        rintro e W6 ⟨v6, rfl, ho6, hb6⟩
        obtain ⟨A6, c6, rfl, hl6, hC6⟩ := Kd.S_reads ho6
        clear ho6
        refine ⟨_, rfl, ?_⟩
        have hH6 := hHeld5.2.2.trans (hb6.mono hHeld5.2.2.size)
        refine hK.out _ _ ⟨(hb6.cell (World.block_lt_of_cell? _ _ hHeld5.1)).trans hHeld5.1, (hb6.cell (World.block_lt_of_cell? _ _ hHeld5.2.1)).trans hHeld5.2.1, hH6⟩ (fun hHeld6 => ?_)
        clear hHeld5
        replace hC5 := Kd.C_below hC5 hb6
        clear hK K
        refine norm_ (a' := ?_) ?_ ?_
        rotate_left
        · show Act.put _ (some 40) _ = _
          simp only [Act.put, List.setIfInBounds_toArray, List.set_cons_zero, List.set_cons_succ, i64_w, i32_w]
          rfl
        refine one_ (i := 6) (N := some 41) #[true, true, true, true, true, true, true, false, false] rfl rfl (by kernel_rfl) (by decide) (fun K hK => ?_)
        refine goes_ Try.func50 (by kernel_rfl) rfl #[.slice A5 r.length c5, .slice A6 r.length c6] (by rfl) rfl rfl (by simp only [List.map_toArray, List.map_cons, List.map_nil]; rfl) ?_
        refine (jacquardref02_Rows.calls k _ _ r _ _ r true _ hC5 hl5 hC6 hl6 HF3.out).mono ?_
        rintro e W7 ⟨rfl, hd7⟩
        have hb7 := hd7.below
        refine ⟨_, rfl, ?_⟩
        have hH7 := hHeld6.2.2.trans (hb7.mono hHeld6.2.2.size)
        refine hK.out _ _ ⟨(hb7.cell (World.block_lt_of_cell? _ _ hHeld6.1)).trans hHeld6.1, (hb7.cell (World.block_lt_of_cell? _ _ hHeld6.2.1)).trans hHeld6.2.1, hH7⟩ (fun hHeld7 => ?_)
        clear hHeld6; clear hK K
        refine norm_ (a' := ?_) ?_ ?_
        rotate_left
        · show Act.put _ (some 41) _ = _
          simp only [Act.put, List.setIfInBounds_toArray, List.set_cons_zero, List.set_cons_succ, i64_w, i32_w]
          rfl
        refine pure_ (i := 7) (N := some 42) (v := ?_) (a' := ?_) #[true, true, true, true, true, true, true, true, false] rfl rfl (by kernel_rfl) (fun _ _ _ h => h) (Or.inl ⟨by rfl, ?_⟩) ?_ ?_
        rotate_left
        · intro w'
          go_simp
          with_reducible rfl
        rotate_left
        · simp only [Act.put, List.setIfInBounds_toArray, List.set_cons_zero, List.set_cons_succ, i64_w, i32_w]
          rfl
        refine pure_ (i := 8) (N := some 2) (v := ?_) (a' := ?_) #[true, true, true, true, true, true, true, true, true] rfl rfl (by kernel_rfl) (fun _ _ _ h => h) (Or.inl ⟨by rfl, ?_⟩) ?_ ?_
        rotate_left
        · intro w'
          go_simp
          with_reducible rfl
        rotate_left
        · simp only [Act.put, List.setIfInBounds_toArray, List.set_cons_zero, List.set_cons_succ, i64_w, i32_w]
          rfl
        refine done_ (by kernel_rfl) ?_
        have HBF := Aside0.mk (HB.out.trans (hHeld7.2.2.mono HB.out.size))
        go_wp2
        go_ret
        exact ⟨rfl, HBF.out⟩
      · have HE : ¬ x4 < (l0.length : Int) ∨ ¬ x4 < 12 := .inl c3
        have c2b0 : decide (x4 < (l0.length : Int)) = false := decide_eq_false c3
        clear c2 c3
        have hF := HF.out
        rw [HEND.out HE] at hF
        obtain ⟨A9, c9, hv9, hl9, hC9⟩ := Kd.R_reads HOI.out.row
        rw [List.length_map] at hv9 hl9
        injection hv9 with e1 _ e3
        subst e1
        subst e3
        have hBl := hF.blocks hC9 HOI.out.below
        have hlen : vs.length = ((fewL l0).map blkS).length := by rw [hF.1, List.length_map]
        rw [hlen] at hl9
        have hP0 := blk_cell HOI.out.blk 0
        have hP1 := blk_cell HOI.out.blk 1
        rw [hlen] at hP1
        obtain ⟨bs, hbs⟩ : ∃ bs, (fewL l0).map blkS = bs := ⟨_, rfl⟩
        rw [hbs] at hBl hl9 hP1 HF1 HF2
        have HBl := Aside0.mk hBl
        have HL := Aside0.mk hl9
        have HB := Aside0.mk HOI.out.below
        have HP0 := Aside0.mk hP0
        have HP1 := Aside0.mk hP1
        clear hF hC9 hBl hlen hP0 hP1 hbs hl9 HF HEND HOI HE
        go_upto_region 7 with fail
        refine start_ (n := 9) (S := fun w' => w'.cell? ⟨P, 0, none⟩ = some (.int .i64 0) ∧ w'.cell? ⟨P, 1, none⟩ = some (.slice Ab bs.length cb) ∧ Below wr.heap.size wr w') (ds := []) #[false, false, false, false, false, false, false, false, false] (by kernel_rfl) rfl rfl ⟨HP0.out, HP1.out, below_drew1 (Below.refl _ _)⟩ (fun hHeld => ?_)
        generalize wr.drew = Wd at hHeld ⊢
        refine pure_ (i := 0) (N := some 35) (v := ?_) (a' := ?_) #[true, false, false, false, false, false, false, false, false] rfl rfl (by kernel_rfl) (fun _ _ _ h => h) (Or.inl ⟨by rfl, ?_⟩) ?_ ?_
        rotate_left
        · intro w'
          go_simp
          with_reducible rfl
        rotate_left
        · simp only [Act.put, List.setIfInBounds_toArray, List.set_cons_zero, List.set_cons_succ, i64_w, i32_w]
          rfl
        refine pure_ (i := 1) (N := some 36) (v := ?_) (a' := ?_) #[true, true, false, false, false, false, false, false, false] rfl rfl (by kernel_rfl) (fun _ _ _ h => h) (Or.inl ⟨by rfl, ?_⟩) ?_ ?_
        rotate_left
        · intro w'
          go_simp
          with_reducible rfl
        rotate_left
        · simp only [Act.put, List.setIfInBounds_toArray, List.set_cons_zero, List.set_cons_succ, i64_w, i32_w]
          rfl
        refine take_ (i := 2) (N := some 37) (v := ?_) (a' := ?_) #[true, true, true, false, false, false, false, false, false] rfl rfl (by kernel_rfl) (fun _ _ _ h => h) (Or.inl ⟨by rfl, ?_⟩) hHeld ?_ ?_
        rotate_left
        · rintro w' ⟨s0, s1, _⟩
          go_simp
          with_reducible rfl
        rotate_left
        · simp only [Act.put, List.setIfInBounds_toArray, List.set_cons_zero, List.set_cons_succ, i64_w, i32_w]
          rfl
        refine take_ (i := 4) (N := some 39) (v := ?_) (a' := ?_) #[true, true, true, false, true, false, false, false, false] rfl rfl (by kernel_rfl) (fun _ _ _ h => h) (Or.inl ⟨by rfl, ?_⟩) hHeld ?_ ?_
        rotate_left
        · rintro w' ⟨s0, s1, _⟩
          go_simp
          with_reducible rfl
        rotate_left
        · simp only [Act.put, List.setIfInBounds_toArray, List.set_cons_zero, List.set_cons_succ, i64_w, i32_w]
          rfl
        refine one_ (i := 3) (N := some 38) #[true, true, true, true, true, false, false, false, false] rfl rfl (by kernel_rfl) (by decide) (fun K hK => ?_)
        refine goes_ Try.func51 (by kernel_rfl) rfl #[.agg #[.int .i64 0, .slice Ab bs.length cb]] (by rfl) rfl rfl (by simp only [List.map_toArray, List.map_cons, List.map_nil]; rfl) ?_
        refine (graph_Of.calls k 0 _ _ bs r _ (Kd.C_below HBl.out hHeld.2.2) HL.out HF1.out).mono ?_
        rintro e W5 ⟨v5, rfl, ho5, hb5⟩
        obtain ⟨A5, c5, rfl, hl5, hC5⟩ := Kd.S_reads ho5
        clear ho5
        refine ⟨_, rfl, ?_⟩
        have hH5 := hHeld.2.2.trans (hb5.mono hHeld.2.2.size)
        refine hK.out _ _ ⟨(hb5.cell (World.block_lt_of_cell? _ _ hHeld.1)).trans hHeld.1, (hb5.cell (World.block_lt_of_cell? _ _ hHeld.2.1)).trans hHeld.2.1, hH5⟩ (fun hHeld5 => ?_)
        clear hHeld; clear hK K
        refine norm_ (a' := ?_) ?_ ?_
        rotate_left
        · show Act.put _ (some 38) _ = _
          simp only [Act.put, List.setIfInBounds_toArray, List.set_cons_zero, List.set_cons_succ, i64_w, i32_w]
          rfl
        refine one_ (i := 5) (N := some 40) #[true, true, true, true, true, true, false, false, false] rfl rfl (by kernel_rfl) (by decide) (fun K hK => ?_)
        refine goes_ Try.func52 (by kernel_rfl) rfl #[.agg #[.int .i64 0, .slice Ab bs.length cb]] (by rfl) rfl rfl (by simp only [List.map_toArray, List.map_cons, List.map_nil]; rfl) ?_
        refine (jacquardref02_Of.calls k 0 _ _ bs r _ (Kd.C_below HBl.out hHeld5.2.2) HL.out HF2.out).mono ?_
        rintro e W6 ⟨v6, rfl, ho6, hb6⟩
        obtain ⟨A6, c6, rfl, hl6, hC6⟩ := Kd.S_reads ho6
        clear ho6
        refine ⟨_, rfl, ?_⟩
        have hH6 := hHeld5.2.2.trans (hb6.mono hHeld5.2.2.size)
        refine hK.out _ _ ⟨(hb6.cell (World.block_lt_of_cell? _ _ hHeld5.1)).trans hHeld5.1, (hb6.cell (World.block_lt_of_cell? _ _ hHeld5.2.1)).trans hHeld5.2.1, hH6⟩ (fun hHeld6 => ?_)
        clear hHeld5
        replace hC5 := Kd.C_below hC5 hb6
        clear hK K
        refine norm_ (a' := ?_) ?_ ?_
        rotate_left
        · show Act.put _ (some 40) _ = _
          simp only [Act.put, List.setIfInBounds_toArray, List.set_cons_zero, List.set_cons_succ, i64_w, i32_w]
          rfl
        refine one_ (i := 6) (N := some 41) #[true, true, true, true, true, true, true, false, false] rfl rfl (by kernel_rfl) (by decide) (fun K hK => ?_)
        refine goes_ Try.func50 (by kernel_rfl) rfl #[.slice A5 r.length c5, .slice A6 r.length c6] (by rfl) rfl rfl (by simp only [List.map_toArray, List.map_cons, List.map_nil]; rfl) ?_
        refine (jacquardref02_Rows.calls k _ _ r _ _ r true _ hC5 hl5 hC6 hl6 HF3.out).mono ?_
        rintro e W7 ⟨rfl, hd7⟩
        have hb7 := hd7.below
        refine ⟨_, rfl, ?_⟩
        have hH7 := hHeld6.2.2.trans (hb7.mono hHeld6.2.2.size)
        refine hK.out _ _ ⟨(hb7.cell (World.block_lt_of_cell? _ _ hHeld6.1)).trans hHeld6.1, (hb7.cell (World.block_lt_of_cell? _ _ hHeld6.2.1)).trans hHeld6.2.1, hH7⟩ (fun hHeld7 => ?_)
        clear hHeld6; clear hK K
        refine norm_ (a' := ?_) ?_ ?_
        rotate_left
        · show Act.put _ (some 41) _ = _
          simp only [Act.put, List.setIfInBounds_toArray, List.set_cons_zero, List.set_cons_succ, i64_w, i32_w]
          rfl
        refine pure_ (i := 7) (N := some 42) (v := ?_) (a' := ?_) #[true, true, true, true, true, true, true, true, false] rfl rfl (by kernel_rfl) (fun _ _ _ h => h) (Or.inl ⟨by rfl, ?_⟩) ?_ ?_
        rotate_left
        · intro w'
          go_simp
          with_reducible rfl
        rotate_left
        · simp only [Act.put, List.setIfInBounds_toArray, List.set_cons_zero, List.set_cons_succ, i64_w, i32_w]
          rfl
        refine pure_ (i := 8) (N := some 2) (v := ?_) (a' := ?_) #[true, true, true, true, true, true, true, true, true] rfl rfl (by kernel_rfl) (fun _ _ _ h => h) (Or.inl ⟨by rfl, ?_⟩) ?_ ?_
        rotate_left
        · intro w'
          go_simp
          with_reducible rfl
        rotate_left
        · simp only [Act.put, List.setIfInBounds_toArray, List.set_cons_zero, List.set_cons_succ, i64_w, i32_w]
          rfl
        refine done_ (by kernel_rfl) ?_
        have HBF := Aside0.mk (HB.out.trans (hHeld7.2.2.mono HB.out.size))
        go_wp2
        go_ret
        exact ⟨rfl, HBF.out⟩
end Go.Proofs.Ytnmeomdjhjgnfaa.X
end
section
set_option linter.unusedSimpArgs false
set_option linter.unusedVariables false
namespace Go.Proofs.Ytnmeomdjhjgnfaa.Pure
open Go.RowKit Go.Proofs.Ytnmeomdjhjgnfaa.X Go.Proofs.YtnmeomdjhjgnfaaW.PrintWords Go.Proofs.YtnmeomdjhjgnfaaW.PrintLast

theorem of_all (l0 : List (List Int)) : ∃ k r, graph_Of.f k 0 ((fewL l0).map blkS) = some r ∧ jacquardref02_Of.f k 0 ((fewL l0).map blkS) = some r ∧ jacquardref02_Rows.f k r r = some true := by
  have hlen : (fewL l0).length ≤ 12 := by unfold fewL; rw [List.length_map, List.length_take]; omega
  have hrow : ∀ row ∈ fewL l0, row.length ≤ 5 := fun row hr => by
    unfold fewL at hr
    obtain ⟨r, _, rfl⟩ := List.mem_map.1 hr
    rw [List.length_take]; omega
  obtain ⟨bs, hbs⟩ : ∃ bs, (fewL l0).map blkS = bs := ⟨_, rfl⟩
  have hn : bs.length ≤ 12 := by rw [← hbs, List.length_map]; exact hlen
  have ht : ∀ a, 0 ≤ a → a < (bs.length : Int) → (toOf bs a).length ≤ 1000 := fun a h0 h1 => by
    have hlt : a.toNat < (fewL l0).length := by rw [← hbs, List.length_map] at h1; omega
    have e : toOf bs a = (fewL l0)[a.toNat] := by
      unfold toOf rd_T46
      rw [← hbs, List.getD_eq_getElem?_getD, List.getElem?_map, List.getElem?_eq_getElem hlt]
      rfl
    rw [e]
    have := hrow _ (List.getElem_mem hlt)
    omega
  rw [hbs]
  obtain ⟨k1, r1, h1, rfl⟩ := of_some (p := 0) (by omega) ht
  obtain ⟨k2, r2, h2, rfl⟩ := rof_some (p := 0) (by omega) ht
  have hok : okG (ofL bs) = true := by
    unfold okG
    rw [Bool.and_eq_true, decide_eq_true_eq, List.all_eq_true]
    refine ⟨by unfold ofL; rw [List.length_map]; omega, fun r hr => decide_eq_true ?_⟩
    unfold ofL at hr
    obtain ⟨b, _, rfl⟩ := List.mem_map.1 hr
    have := keptL_length b.f2.f2 (bs.length : Int)
    omega
  exact ⟨k1 + k2 + 2000003, ofL bs, X.up (f := fun k => graph_Of.f k 0 bs) (fun k => graph_Of.mono _ _ k) (by omega) h1, X.up (f := fun k => jacquardref02_Of.f k 0 bs) (fun k => jacquardref02_Of.mono _ _ k) (by omega) h2, rows_same _ hok (by omega)⟩
end Go.Proofs.Ytnmeomdjhjgnfaa.Pure
end
