-- written by a driver of this session (wip/xprint.py) over the kit's print, for this claim; Lean checks it
import Derived.Test.YtnmeomdjhjgnfaaX0
import Derived.Test.YtnmeomdjhjgnfaaGcommon
import Derived.Test.YtnmeomdjhjgnfaaGorder
import Derived.Test.YtnmeomdjhjgnfaaGpreds
namespace Go.Proofs.Ytnmeomdjhjgnfaa.X
open Go.RowKit Go.Proofs.YtnmeomdjhjgnfaaW.PrintWords Go.Proofs.YtnmeomdjhjgnfaaW.PrintLast Go.Proofs.YtnmeomdjhjgnfaaW.PrintMore
attribute [local go_sem] max2_int min2_int max_two min_two max_three min_three max_four min_four   -- for this text's walks alone
set_option linter.unusedVariables false
set_option linter.unusedSimpArgs false

/-! ### graph_Idom: function 30 -/
mutual
def graph_Idom.l0 : Nat → List (List Int) → List Int → List Int → List Int → Int → Int → Option (List Int)
  | 0, _, _, _, _, _, _ => none
  | k + 1, x0, x3, x4, x5, x25, x26 => if x26 < x25 then (if 0 ≤ x26 then (if x26 < (x4.length : Int) then (if x26 < (x5.length : Int) then (graph_Idom.l0 k x0 x3 (x4.set (x26 : Int).toNat (-1)) (x5.set (x26 : Int).toNat (-1)) x25 (wrap64 (x26 + 1))) else (none)) else (none)) else (none)) else (graph_Idom.l1 k x0 x3 x4 x5 x3 (x3.length : Int) 0)
def graph_Idom.l1 : Nat → List (List Int) → List Int → List Int → List Int → List Int → Int → Int → Option (List Int)
  | 0, _, _, _, _, _, _, _ => none
  | k + 1, x0, x3, x4, x5, x36, x37, x38 => if x38 < x37 then (if 0 ≤ x38 then (if x38 < (x36.length : Int) then (if 0 ≤ (rd x36 x38) then (if (rd x36 x38) < (x4.length : Int) then (graph_Idom.l1 k x0 x3 (x4.set ((rd x36 x38) : Int).toNat x38) x5 x36 x37 (wrap64 (x38 + 1))) else (none)) else (none)) else (none)) else (none)) else ((graph_Preds.f x0).bind fun t122 => (graph_Idom.l2 k x3 x4 x5 t122 true))
def graph_Idom.l2 : Nat → List Int → List Int → List Int → List (List Int) → Bool → Option (List Int)
  | 0, _, _, _, _, _ => none
  | k + 1, x3, x4, x5, x9, x10 => if x10 = true then (if 0 ≤ (mn 1 (x3.length : Int)) then (if (mn 1 (x3.length : Int)) ≤ (x3.length : Int) then ((some (x3.drop ((mn 1 (x3.length : Int)) : Int).toNat : List Int)).bind fun y125 => (graph_Idom.l3 k x3 x4 x5 x9 false y125 (y125.length : Int) 0)) else (none)) else (none)) else (some x5)
def graph_Idom.l3 : Nat → List Int → List Int → List Int → List (List Int) → Bool → List Int → Int → Int → Option (List Int)
  | 0, _, _, _, _, _, _, _, _ => none
  | k + 1, x3, x4, x5, x9, x10, x55, x56, x57 => if x57 < x56 then (if 0 ≤ x57 then (if x57 < (x55.length : Int) then (if 0 ≤ (rd x55 x57) then (if (rd x55 x57) < (x9.length : Int) then (graph_Idom.l4 k x3 x4 x5 x9 x10 (rd x55 x57) (-1) x55 x56 x57 (rd_L1 x9 (rd x55 x57)) ((rd_L1 x9 (rd x55 x57)).length : Int) 0) else (none)) else (none)) else (none)) else (none)) else (graph_Idom.l2 k x3 x4 x5 x9 x10)
def graph_Idom.l4 : Nat → List Int → List Int → List Int → List (List Int) → Bool → Int → Int → List Int → Int → Int → List Int → Int → Int → Option (List Int)
  | 0, _, _, _, _, _, _, _, _, _, _, _, _, _ => none
  | k + 1, x3, x4, x5, x9, x10, x12, x13, x55, x56, x57, x64, x65, x66 => if x66 < x65 then (if 0 ≤ x66 then (if x66 < (x64.length : Int) then (if 0 ≤ (rd x64 x66) then (if (rd x64 x66) < (x4.length : Int) then (if (rd x4 (rd x64 x66)) < 0 then (graph_Idom.j5 k x3 x4 x5 x9 x10 x12 x13 (rd x64 x66) x55 x56 x57 x64 x65 x66 true) else (if (rd x64 x66) = 0 then (graph_Idom.j5 k x3 x4 x5 x9 x10 x12 x13 (rd x64 x66) x55 x56 x57 x64 x65 x66 false) else (if (rd x64 x66) < (x5.length : Int) then (graph_Idom.j5 k x3 x4 x5 x9 x10 x12 x13 (rd x64 x66) x55 x56 x57 x64 x65 x66 (decide ((rd x5 (rd x64 x66)) < 0))) else (none)))) else (none)) else (none)) else (none)) else (none)) else (if 0 ≤ x12 then (if x12 < (x5.length : Int) then (if (rd x5 x12) = x13 then (graph_Idom.l3 k x3 x4 x5 x9 x10 x55 x56 (wrap64 (x57 + 1))) else (graph_Idom.l3 k x3 x4 (x5.set (x12 : Int).toNat x13) x9 true x55 x56 (wrap64 (x57 + 1)))) else (none)) else (none))
def graph_Idom.j5 : Nat → List Int → List Int → List Int → List (List Int) → Bool → Int → Int → Int → List Int → Int → Int → List Int → Int → Int → Bool → Option (List Int)
  | 0, _, _, _, _, _, _, _, _, _, _, _, _, _, _, _ => none
  | k + 1, x3, x4, x5, x9, x10, x12, x13, x15, x55, x56, x57, x64, x65, x66, x85 => if x85 = true then (graph_Idom.l4 k x3 x4 x5 x9 x10 x12 x13 x55 x56 x57 x64 x65 (wrap64 (x66 + 1))) else (if x13 < 0 then (graph_Idom.l4 k x3 x4 x5 x9 x10 x12 x15 x55 x56 x57 x64 x65 (wrap64 (x66 + 1))) else ((graph_common.f k x5 x4 x13 x15).bind fun t136 => (graph_Idom.l4 k x3 x4 x5 x9 x10 x12 t136 x55 x56 x57 x64 x65 (wrap64 (x66 + 1)))))
end
def graph_Idom.f (k : Nat) (l0 : List (List Int)) : Option (List Int) := (graph_Order.f k l0).bind fun t109 => (if 0 ≤ (l0.length : Int) then (if ((l0.length : Int) : Int).toNat ≤ 35184372088832 then (graph_Idom.l0 k l0 t109 (List.replicate ((l0.length : Int) : Int).toNat 0) (List.replicate ((l0.length : Int) : Int).toNat 0) (l0.length : Int) 0) else (none)) else (none))
theorem graph_Idom.mono_l : ∀ k, (∀ y0 y1 y2 y3 y4 y5, LeO (graph_Idom.l0 k y0 y1 y2 y3 y4 y5) (graph_Idom.l0 (k + 1) y0 y1 y2 y3 y4 y5)) ∧ (∀ y0 y1 y2 y3 y4 y5 y6, LeO (graph_Idom.l1 k y0 y1 y2 y3 y4 y5 y6) (graph_Idom.l1 (k + 1) y0 y1 y2 y3 y4 y5 y6)) ∧ (∀ y0 y1 y2 y3 y4, LeO (graph_Idom.l2 k y0 y1 y2 y3 y4) (graph_Idom.l2 (k + 1) y0 y1 y2 y3 y4)) ∧ (∀ y0 y1 y2 y3 y4 y5 y6 y7, LeO (graph_Idom.l3 k y0 y1 y2 y3 y4 y5 y6 y7) (graph_Idom.l3 (k + 1) y0 y1 y2 y3 y4 y5 y6 y7)) ∧ (∀ y0 y1 y2 y3 y4 y5 y6 y7 y8 y9 y10 y11 y12, LeO (graph_Idom.l4 k y0 y1 y2 y3 y4 y5 y6 y7 y8 y9 y10 y11 y12) (graph_Idom.l4 (k + 1) y0 y1 y2 y3 y4 y5 y6 y7 y8 y9 y10 y11 y12)) ∧ (∀ y0 y1 y2 y3 y4 y5 y6 y7 y8 y9 y10 y11 y12 y13 y14, LeO (graph_Idom.j5 k y0 y1 y2 y3 y4 y5 y6 y7 y8 y9 y10 y11 y12 y13 y14) (graph_Idom.j5 (k + 1) y0 y1 y2 y3 y4 y5 y6 y7 y8 y9 y10 y11 y12 y13 y14))
  | 0 => ⟨fun _ _ _ _ _ _ r h => by simp [graph_Idom.l0] at h, fun _ _ _ _ _ _ _ r h => by simp [graph_Idom.l1] at h, fun _ _ _ _ _ r h => by simp [graph_Idom.l2] at h, fun _ _ _ _ _ _ _ _ r h => by simp [graph_Idom.l3] at h, fun _ _ _ _ _ _ _ _ _ _ _ _ _ r h => by simp [graph_Idom.l4] at h, fun _ _ _ _ _ _ _ _ _ _ _ _ _ _ _ r h => by simp [graph_Idom.j5] at h⟩
  | k + 1 => by
    obtain ⟨ih0, ih1, ih2, ih3, ih4, ih5⟩ := graph_Idom.mono_l k
    refine ⟨?_, ?_, ?_, ?_, ?_, ?_⟩
    · intro y0 y1 y2 y3 y4 y5
      unfold graph_Idom.l0
      repeat' first
      | (with_reducible exact ih0 _ _ _ _ _ _)
      | (with_reducible exact ih1 _ _ _ _ _ _ _)
      | (with_reducible exact ih2 _ _ _ _ _)
      | (with_reducible exact ih3 _ _ _ _ _ _ _ _)
      | (with_reducible exact ih4 _ _ _ _ _ _ _ _ _ _ _ _ _)
      | (with_reducible exact ih5 _ _ _ _ _ _ _ _ _ _ _ _ _ _ _)
      | (with_reducible exact graph_Order.mono _ _)
      | (with_reducible exact graph_common.mono _ _ _ _ _)
      | (with_reducible exact LeO.refl _)
      | (with_reducible exact LeO.none _)
      | (with_reducible refine LeO.ite ?_ ?_)
      | (with_reducible refine LeO.bind ?_ (fun _ => ?_))
      | exact ih0 _ _ _ _ _ _
      | exact ih1 _ _ _ _ _ _ _
      | exact ih2 _ _ _ _ _
      | exact ih3 _ _ _ _ _ _ _ _
      | exact ih4 _ _ _ _ _ _ _ _ _ _ _ _ _
      | exact ih5 _ _ _ _ _ _ _ _ _ _ _ _ _ _ _
      | exact graph_Order.mono _ _
      | exact graph_common.mono _ _ _ _ _
      | exact LeO.none _
      | refine LeO.ite ?_ ?_
      | refine LeO.bind ?_ (fun _ => ?_)
    · intro y0 y1 y2 y3 y4 y5 y6
      unfold graph_Idom.l1
      repeat' first
      | (with_reducible exact ih0 _ _ _ _ _ _)
      | (with_reducible exact ih1 _ _ _ _ _ _ _)
      | (with_reducible exact ih2 _ _ _ _ _)
      | (with_reducible exact ih3 _ _ _ _ _ _ _ _)
      | (with_reducible exact ih4 _ _ _ _ _ _ _ _ _ _ _ _ _)
      | (with_reducible exact ih5 _ _ _ _ _ _ _ _ _ _ _ _ _ _ _)
      | (with_reducible exact graph_Order.mono _ _)
      | (with_reducible exact graph_common.mono _ _ _ _ _)
      | (with_reducible exact LeO.refl _)
      | (with_reducible exact LeO.none _)
      | (with_reducible refine LeO.ite ?_ ?_)
      | (with_reducible refine LeO.bind ?_ (fun _ => ?_))
      | exact ih0 _ _ _ _ _ _
      | exact ih1 _ _ _ _ _ _ _
      | exact ih2 _ _ _ _ _
      | exact ih3 _ _ _ _ _ _ _ _
      | exact ih4 _ _ _ _ _ _ _ _ _ _ _ _ _
      | exact ih5 _ _ _ _ _ _ _ _ _ _ _ _ _ _ _
      | exact graph_Order.mono _ _
      | exact graph_common.mono _ _ _ _ _
      | exact LeO.none _
      | refine LeO.ite ?_ ?_
      | refine LeO.bind ?_ (fun _ => ?_)
    · intro y0 y1 y2 y3 y4
      unfold graph_Idom.l2
      repeat' first
      | (with_reducible exact ih0 _ _ _ _ _ _)
      | (with_reducible exact ih1 _ _ _ _ _ _ _)
      | (with_reducible exact ih2 _ _ _ _ _)
      | (with_reducible exact ih3 _ _ _ _ _ _ _ _)
      | (with_reducible exact ih4 _ _ _ _ _ _ _ _ _ _ _ _ _)
      | (with_reducible exact ih5 _ _ _ _ _ _ _ _ _ _ _ _ _ _ _)
      | (with_reducible exact graph_Order.mono _ _)
      | (with_reducible exact graph_common.mono _ _ _ _ _)
      | (with_reducible exact LeO.refl _)
      | (with_reducible exact LeO.none _)
      | (with_reducible refine LeO.ite ?_ ?_)
      | (with_reducible refine LeO.bind ?_ (fun _ => ?_))
      | exact ih0 _ _ _ _ _ _
      | exact ih1 _ _ _ _ _ _ _
      | exact ih2 _ _ _ _ _
      | exact ih3 _ _ _ _ _ _ _ _
      | exact ih4 _ _ _ _ _ _ _ _ _ _ _ _ _
      | exact ih5 _ _ _ _ _ _ _ _ _ _ _ _ _ _ _
      | exact graph_Order.mono _ _
      | exact graph_common.mono _ _ _ _ _
      | exact LeO.none _
      | refine LeO.ite ?_ ?_
      | refine LeO.bind ?_ (fun _ => ?_)
    · intro y0 y1 y2 y3 y4 y5 y6 y7
      unfold graph_Idom.l3
      repeat' first
      | (with_reducible exact ih0 _ _ _ _ _ _)
      | (with_reducible exact ih1 _ _ _ _ _ _ _)
      | (with_reducible exact ih2 _ _ _ _ _)
      | (with_reducible exact ih3 _ _ _ _ _ _ _ _)
      | (with_reducible exact ih4 _ _ _ _ _ _ _ _ _ _ _ _ _)
      | (with_reducible exact ih5 _ _ _ _ _ _ _ _ _ _ _ _ _ _ _)
      | (with_reducible exact graph_Order.mono _ _)
      | (with_reducible exact graph_common.mono _ _ _ _ _)
      | (with_reducible exact LeO.refl _)
      | (with_reducible exact LeO.none _)
      | (with_reducible refine LeO.ite ?_ ?_)
      | (with_reducible refine LeO.bind ?_ (fun _ => ?_))
      | exact ih0 _ _ _ _ _ _
      | exact ih1 _ _ _ _ _ _ _
      | exact ih2 _ _ _ _ _
      | exact ih3 _ _ _ _ _ _ _ _
      | exact ih4 _ _ _ _ _ _ _ _ _ _ _ _ _
      | exact ih5 _ _ _ _ _ _ _ _ _ _ _ _ _ _ _
      | exact graph_Order.mono _ _
      | exact graph_common.mono _ _ _ _ _
      | exact LeO.none _
      | refine LeO.ite ?_ ?_
      | refine LeO.bind ?_ (fun _ => ?_)
    · intro y0 y1 y2 y3 y4 y5 y6 y7 y8 y9 y10 y11 y12
      unfold graph_Idom.l4
      repeat' first
      | (with_reducible exact ih0 _ _ _ _ _ _)
      | (with_reducible exact ih1 _ _ _ _ _ _ _)
      | (with_reducible exact ih2 _ _ _ _ _)
      | (with_reducible exact ih3 _ _ _ _ _ _ _ _)
      | (with_reducible exact ih4 _ _ _ _ _ _ _ _ _ _ _ _ _)
      | (with_reducible exact ih5 _ _ _ _ _ _ _ _ _ _ _ _ _ _ _)
      | (with_reducible exact graph_Order.mono _ _)
      | (with_reducible exact graph_common.mono _ _ _ _ _)
      | (with_reducible exact LeO.refl _)
      | (with_reducible exact LeO.none _)
      | (with_reducible refine LeO.ite ?_ ?_)
      | (with_reducible refine LeO.bind ?_ (fun _ => ?_))
      | exact ih0 _ _ _ _ _ _
      | exact ih1 _ _ _ _ _ _ _
      | exact ih2 _ _ _ _ _
      | exact ih3 _ _ _ _ _ _ _ _
      | exact ih4 _ _ _ _ _ _ _ _ _ _ _ _ _
      | exact ih5 _ _ _ _ _ _ _ _ _ _ _ _ _ _ _
      | exact graph_Order.mono _ _
      | exact graph_common.mono _ _ _ _ _
      | exact LeO.none _
      | refine LeO.ite ?_ ?_
      | refine LeO.bind ?_ (fun _ => ?_)
    · intro y0 y1 y2 y3 y4 y5 y6 y7 y8 y9 y10 y11 y12 y13 y14
      unfold graph_Idom.j5
      repeat' first
      | (with_reducible exact ih0 _ _ _ _ _ _)
      | (with_reducible exact ih1 _ _ _ _ _ _ _)
      | (with_reducible exact ih2 _ _ _ _ _)
      | (with_reducible exact ih3 _ _ _ _ _ _ _ _)
      | (with_reducible exact ih4 _ _ _ _ _ _ _ _ _ _ _ _ _)
      | (with_reducible exact ih5 _ _ _ _ _ _ _ _ _ _ _ _ _ _ _)
      | (with_reducible exact graph_Order.mono _ _)
      | (with_reducible exact graph_common.mono _ _ _ _ _)
      | (with_reducible exact LeO.refl _)
      | (with_reducible exact LeO.none _)
      | (with_reducible refine LeO.ite ?_ ?_)
      | (with_reducible refine LeO.bind ?_ (fun _ => ?_))
      | exact ih0 _ _ _ _ _ _
      | exact ih1 _ _ _ _ _ _ _
      | exact ih2 _ _ _ _ _
      | exact ih3 _ _ _ _ _ _ _ _
      | exact ih4 _ _ _ _ _ _ _ _ _ _ _ _ _
      | exact ih5 _ _ _ _ _ _ _ _ _ _ _ _ _ _ _
      | exact graph_Order.mono _ _
      | exact graph_common.mono _ _ _ _ _
      | exact LeO.none _
      | refine LeO.ite ?_ ?_
      | refine LeO.bind ?_ (fun _ => ?_)
theorem graph_Idom.mono : ∀ a0 k, LeO (graph_Idom.f k a0) (graph_Idom.f (k + 1) a0) := by
  intro a0 k
  obtain ⟨ih0, ih1, ih2, ih3, ih4, ih5⟩ := graph_Idom.mono_l k
  unfold graph_Idom.f
  repeat' first
      | (with_reducible exact ih0 _ _ _ _ _ _)
      | (with_reducible exact ih1 _ _ _ _ _ _ _)
      | (with_reducible exact ih2 _ _ _ _ _)
      | (with_reducible exact ih3 _ _ _ _ _ _ _ _)
      | (with_reducible exact ih4 _ _ _ _ _ _ _ _ _ _ _ _ _)
      | (with_reducible exact ih5 _ _ _ _ _ _ _ _ _ _ _ _ _ _ _)
      | (with_reducible exact graph_Order.mono _ _)
      | (with_reducible exact graph_common.mono _ _ _ _ _)
      | (with_reducible exact LeO.refl _)
      | (with_reducible exact LeO.none _)
      | (with_reducible refine LeO.ite ?_ ?_)
      | (with_reducible refine LeO.bind ?_ (fun _ => ?_))
      | exact ih0 _ _ _ _ _ _
      | exact ih1 _ _ _ _ _ _ _
      | exact ih2 _ _ _ _ _
      | exact ih3 _ _ _ _ _ _ _ _
      | exact ih4 _ _ _ _ _ _ _ _ _ _ _ _ _
      | exact ih5 _ _ _ _ _ _ _ _ _ _ _ _ _ _ _
      | exact graph_Order.mono _ _
      | exact graph_common.mono _ _ _ _ _
      | exact LeO.none _
      | refine LeO.ite ?_ ?_
      | refine LeO.bind ?_ (fun _ => ?_)
set_option maxHeartbeats 8000000 in
set_option maxRecDepth 100000 in
theorem graph_Idom.calls (k : Nat) (A0 : Option Addr) (c0 : Nat) (l0 : List (List Int)) (r : List Int) (w : World) (hr0 : Kd.C (Kd.slice 3 (Kd.int .i64)) w A0 l0.length l0) (hc0 : l0.length ≤ c0) (h : graph_Idom.f k l0 = some r) :
    Calls Try.prog 30 #[.slice A0 l0.length c0] w fun e w' => ∃ v0_ : Value, e = .returned (v0_) ∧ Kd.R (Kd.int .i64) 3 w' w.heap.size (fun _ => True) v0_ r ∧ Below w.heap.size w w' := by
  have HR0 := Aside0.mk hr0
  have HC0 := Aside0.mk hc0
  clear hr0 hc0
  have HB := Aside0.mk (Below.refl w.heap.size w)
  have H : ((graph_Order.f k l0).bind fun t109 => (if 0 ≤ (l0.length : Int) then (if ((l0.length : Int) : Int).toNat ≤ 35184372088832 then (graph_Idom.l0 k l0 t109 (List.replicate ((l0.length : Int) : Int).toNat 0) (List.replicate ((l0.length : Int) : Int).toNat 0) (l0.length : Int) 0) else (none)) else (none))) = some r := h
  clear h
  replace H := Option.bind_eq_some_iff.mp H
  obtain ⟨t109, A20, H⟩ := H
  replace H : (if 0 ≤ (l0.length : Int) then (if ((l0.length : Int) : Int).toNat ≤ 35184372088832 then (graph_Idom.l0 k l0 t109 (List.replicate ((l0.length : Int) : Int).toNat 0) (List.replicate ((l0.length : Int) : Int).toNat 0) (l0.length : Int) 0) else (none)) else (none)) = some r := H
  have A2 := Aside0.mk A20
  clear A20
  by_cases c3 : 0 ≤ (l0.length : Int)
  · rw [if_pos c3] at H
    have c3b0 := eq_true c3
    have c3b1 : decide (0 ≤ (l0.length : Int)) = true := decide_eq_true c3
    clear c3
    by_cases c4 : ((l0.length : Int) : Int).toNat ≤ 35184372088832
    · rw [if_pos c4] at H
      have c4b0 := eq_true c4
      have c4b1 : decide (((l0.length : Int) : Int).toNat ≤ 35184372088832) = true := decide_eq_true c4
      clear c4
      obtain ⟨y112, hy112⟩ : ∃ y_ : List Int, y_ = (List.replicate ((l0.length : Int) : Int).toNat 0) := ⟨_, rfl⟩
      replace H : (graph_Idom.l0 k l0 t109 y112 (List.replicate ((l0.length : Int) : Int).toNat 0) (l0.length : Int) 0) = some r := by first | (rw [hy112]; with_reducible exact H) | (have H2_ := (Option.bind_some _ _).symm.trans H; rw [hy112]; with_reducible exact H2_) | (have H2_ := (Option.bind_some _ _).symm.trans H; with_reducible exact H2_) | with_reducible exact H | (rw [hy112]; exact H) | exact H
      have Ny112 := Aside0.mk hy112
      clear hy112
      obtain ⟨y115, hy115⟩ : ∃ y_ : List Int, y_ = (List.replicate ((l0.length : Int) : Int).toNat 0) := ⟨_, rfl⟩
      replace H : (graph_Idom.l0 k l0 t109 y112 y115 (l0.length : Int) 0) = some r := by first | (rw [hy115]; with_reducible exact H) | (have H2_ := (Option.bind_some _ _).symm.trans H; rw [hy115]; with_reducible exact H2_) | (have H2_ := (Option.bind_some _ _).symm.trans H; with_reducible exact H2_) | with_reducible exact H | (rw [hy115]; exact H) | exact H
      have Ny115 := Aside0.mk hy115
      clear hy115
      have H' := Aside0.mk H
      clear H
      go_enter Try.func30, Try.ntmps30
      go_wp2_with (first | ((with_reducible refine gate_callee (f := 26) rfl ?_); refine goesL_ (some 17) rfl rfl Try.func26 (by kernel_rfl) rfl #[.slice A0 l0.length c0] rfl (by (try simp only [List.map_toArray, List.map_cons, List.map_nil]); first | done | rfl | (simp only [List.length_drop, List.length_take]; rfl)) ?_; (with_reducible refine (graph_Order.calls k _ _ l0 t109 _ ?side1 ?side2 A2.out).mono ?_); (case side1 => repeat (first | exact HR0.out | (with_reducible refine Kd.C_alloc ?_ _) | (with_reducible refine Kd.C_drewN ?_ _) | (with_reducible refine Kd.C_drew ?_))); (case side2 => exact HC0.out); rintro e w5 ⟨v110, rfl, ho0, hb⟩; refine ⟨_, rfl, ?_⟩; have n0_ := Aside0.mk (Kd.R_lower ho0 (below_size (by repeat (first | (with_reducible first | exact HB.out | apply below_alloc | apply pw_below_drewN | apply below_drew1) | exact HB.out)))); have n1_ := Aside0.mk (below_step (by repeat (first | (with_reducible first | exact HB.out | apply below_alloc | apply pw_below_drewN | apply below_drew1) | exact HB.out)) hb); clear HB; have HO111 := n0_; have HB := n1_; clear n0_ n1_; (try clear hb); (try clear hb2); (try clear hk); (try clear hi); (try clear ho0)) | ((with_reducible refine gate_dst (N := 20) rfl ?_); refine Kd.R_make (Kd.int .i64) _ 3 rfl (N := 20) rfl 23 _ _ rfl (l0.length : Int) rfl rfl Try.underlying23 (.int .i64 0) 8 info3 rfl (by decide) (by omega) 0 (ok := fun _ => True) (okp := fun _ => True) rfl (fun _ hk => hk) trivial (of_decide_eq_true (by first | (with_reducible assumption) | assumption)) (Nat.le_trans (Nat.mul_le_mul_right _ (of_decide_eq_true (by first | (with_reducible assumption) | assumption) : (l0.length : Int).toNat ≤ 35184372088832)) (by omega)) (Below.refl _ _) (Nat.le_refl _) ?_; intro v113 w6 ho7 hb hg_ hnew_; clear hg_ hnew_; (first | rw [← Ny112.out] at ho7 | (simp only [Int.reduceToNat] at ho7; rw [← Ny112.out] at ho7)); have n0_ := Aside0.mk (Kd.R_elder' (by (with_reducible repeat (first | apply Kd.R_alloc | apply Kd.R_drewN | apply Kd.R_drew)); exact HO111.out) (Kd.R_base ho7) hb); have n1_ := Aside0.mk (Kd.R_lower (Kd.R_new' ho7 (Kd.R_lt (by (with_reducible repeat (first | apply Kd.R_alloc | apply Kd.R_drewN | apply Kd.R_drew)); exact HO111.out))) (below_size (by repeat (first | (with_reducible first | exact HB.out | apply below_alloc | apply pw_below_drewN | apply below_drew1) | exact HB.out)))); have n2_ := Aside0.mk (below_step (by repeat (first | (with_reducible first | exact HB.out | apply below_alloc | apply pw_below_drewN | apply below_drew1) | exact HB.out)) hb); clear HO111; clear HB; have HO111 := n0_; have HO114 := n1_; have HB := n2_; clear n0_ n1_ n2_; clear hb ho7) | ((with_reducible refine gate_dst (N := 23) rfl ?_); refine Kd.R_make (Kd.int .i64) _ 3 rfl (N := 23) rfl 23 _ _ rfl (l0.length : Int) rfl rfl Try.underlying23 (.int .i64 0) 8 info3 rfl (by decide) (by omega) 0 (ok := fun _ => True) (okp := fun _ => True) rfl (fun _ hk => hk) trivial (of_decide_eq_true (by first | (with_reducible assumption) | assumption)) (Nat.le_trans (Nat.mul_le_mul_right _ (of_decide_eq_true (by first | (with_reducible assumption) | assumption) : (l0.length : Int).toNat ≤ 35184372088832)) (by omega)) (Below.refl _ _) (Nat.le_refl _) ?_; intro v116 w8 ho9 hb hg_ hnew_; clear hg_ hnew_; (first | rw [← Ny115.out] at ho9 | (simp only [Int.reduceToNat] at ho9; rw [← Ny115.out] at ho9)); have n0_ := Aside0.mk (Kd.R_elder' (by (with_reducible repeat (first | apply Kd.R_alloc | apply Kd.R_drewN | apply Kd.R_drew)); exact HO111.out) (Kd.R_base ho9) hb); have n1_ := Aside0.mk (Kd.R_elder' (by (with_reducible repeat (first | apply Kd.R_alloc | apply Kd.R_drewN | apply Kd.R_drew)); exact HO114.out) (Kd.R_base ho9) hb); have n2_ := Aside0.mk (Kd.R_lower (Kd.R_new' (Kd.R_new' ho9 (Kd.R_lt (by (with_reducible repeat (first | apply Kd.R_alloc | apply Kd.R_drewN | apply Kd.R_drew)); exact HO111.out))) (Kd.R_lt (by (with_reducible repeat (first | apply Kd.R_alloc | apply Kd.R_drewN | apply Kd.R_drew)); exact HO114.out))) (below_size (by repeat (first | (with_reducible first | exact HB.out | apply below_alloc | apply pw_below_drewN | apply below_drew1) | exact HB.out)))); have n3_ := Aside0.mk (below_step (by repeat (first | (with_reducible first | exact HB.out | apply below_alloc | apply pw_below_drewN | apply below_drew1) | exact HB.out)) hb); clear HO111; clear HO114; clear HB; have HO111 := n0_; have HO114 := n1_; have HO117 := n2_; have HB := n3_; clear n0_ n1_ n2_ n3_; clear hb ho9))
      go_loopg [26] k (fun kq v26 w' => ∃ (x4_1 : List Int) (x5_1 : List Int) (x26_1 : Int), v26 = .int .i64 x26_1 ∧ Aside0 (graph_Idom.l0 kq l0 t109 x4_1 x5_1 (l0.length : Int) x26_1 = some r) ∧ Aside0 (kq ≤ k) ∧ Aside0 (Kd.R (Kd.int .i64) 3 w' w.heap.size (fun k_ => some k_ ≠ (v113 : Value).ownBlock ∧ some k_ ≠ (v116 : Value).ownBlock) v110 t109) ∧ Aside0 (Kd.R (Kd.int .i64) 3 w' w.heap.size (fun k_ => some k_ ≠ (v110 : Value).ownBlock ∧ some k_ ≠ (v116 : Value).ownBlock) v113 x4_1) ∧ Aside0 (Kd.R (Kd.int .i64) 3 w' w.heap.size (fun k_ => some k_ ≠ (v110 : Value).ownBlock ∧ some k_ ≠ (v113 : Value).ownBlock) v116 x5_1) ∧ Aside0 (Below w.heap.size w w'))
      case atStart => exact ⟨(y112), (y115), (0), (by first | rfl | (simp; done) | (simp [*]; done)), H', ⟨Nat.le_refl _⟩, ⟨by (with_reducible repeat (first | apply Kd.R_alloc | apply Kd.R_drewN | apply Kd.R_drew)); exact Kd.R_mono HO111.out (fun _ hk => ⟨hk.1.2, hk.2⟩)⟩, ⟨by (with_reducible repeat (first | apply Kd.R_alloc | apply Kd.R_drewN | apply Kd.R_drew)); exact Kd.R_mono HO114.out (fun _ hk => ⟨hk.1.2, hk.2⟩)⟩, ⟨by (with_reducible repeat (first | apply Kd.R_alloc | apply Kd.R_drewN | apply Kd.R_drew)); exact Kd.R_mono HO117.out (fun _ hk => ⟨hk.1.2, hk.2⟩)⟩, ⟨by repeat (first | (with_reducible first | exact HB.out | apply below_alloc | apply pw_below_drewN | apply below_drew1) | exact HB.out)⟩⟩
      case round =>
        clear H'
        try clear c2
        try clear p2
        try clear c3
        try clear c3b0
        try clear c3b1
        try clear c4
        try clear c4b0
        try clear c4b1
        obtain ⟨x4_1, x5_1, x26_1, rfl, HA, HK1, HO_3, HO_4, HO_5, HB⟩ := hrel
        cases gk with
        | zero => exact absurd HA.out (by simp [graph_Idom.l0])
        | succ k1 =>
          have H := HA.out
          clear HA
          simp only [graph_Idom.l0] at H
          by_cases c10 : x26_1 < (l0.length : Int)
          · rw [if_pos c10] at H
            have c10b0 : decide (x26_1 < (l0.length : Int)) = true := decide_eq_true c10
            clear c10
            by_cases c11 : 0 ≤ x26_1
            · rw [if_pos c11] at H
              have c11b0 : decide (0 ≤ x26_1) = true := decide_eq_true c11
              clear c11
              by_cases c12 : x26_1 < (x4_1.length : Int)
              · rw [if_pos c12] at H
                have c12b0 : decide (x26_1 < (x4_1.length : Int)) = true := decide_eq_true c12
                clear c12
                obtain ⟨y118, hy118⟩ : ∃ y_ : List Int, y_ = (x4_1.set (x26_1 : Int).toNat (-1)) := ⟨_, rfl⟩
                replace H : (if x26_1 < (x5_1.length : Int) then (graph_Idom.l0 k1 l0 t109 y118 (x5_1.set (x26_1 : Int).toNat (-1)) (l0.length : Int) (wrap64 (x26_1 + 1))) else (none)) = some r := by first | (rw [hy118]; with_reducible exact H) | (have H2_ := (Option.bind_some _ _).symm.trans H; rw [hy118]; with_reducible exact H2_) | (have H2_ := (Option.bind_some _ _).symm.trans H; with_reducible exact H2_) | with_reducible exact H | (rw [hy118]; exact H) | exact H
                have Ny118 := Aside0.mk hy118
                clear hy118
                by_cases c14 : x26_1 < (x5_1.length : Int)
                · rw [if_pos c14] at H
                  have c14b0 : decide (x26_1 < (x5_1.length : Int)) = true := decide_eq_true c14
                  clear c14
                  obtain ⟨y119, hy119⟩ : ∃ y_ : List Int, y_ = (x5_1.set (x26_1 : Int).toNat (-1)) := ⟨_, rfl⟩
                  replace H : (graph_Idom.l0 k1 l0 t109 y118 y119 (l0.length : Int) (wrap64 (x26_1 + 1))) = some r := by first | (rw [hy119]; with_reducible exact H) | (have H2_ := (Option.bind_some _ _).symm.trans H; rw [hy119]; with_reducible exact H2_) | (have H2_ := (Option.bind_some _ _).symm.trans H; with_reducible exact H2_) | with_reducible exact H | (rw [hy119]; exact H) | exact H
                  have Ny119 := Aside0.mk hy119
                  clear hy119
                  have H' := Aside0.mk H
                  clear H
                  have p13 : 0 ≤ (x26_1 : Int) := of_decide_eq_true (by first | (with_reducible assumption) | assumption)
                  have q13 : (x26_1 : Int) < ((x4_1.length : Int) : Int) := of_decide_eq_true (by first | (with_reducible assumption) | assumption)
                  obtain ⟨go13, co13, eo13, gb13, gl13, cl13, HG13⟩ := Kd.R_form HO_4.out (by omega)
                  (first | cases eo13 | (injection eo13 with ea_ en_ ec_; (first | subst ea_ | (injection ea_ with ea_; subst ea_)); subst ec_; clear en_))
                  have GB13 := Aside0.mk gb13
                  have GG13 := Aside0.mk HG13
                  clear gb13 gl13 HG13
                  obtain ⟨hx13_0, hf13_0⟩ := Kd.R_celln 0 HO_4.out (x26_1 : Int) p13 q13
                  replace p13 := eq_true p13
                  replace q13 := eq_true q13
                  have HP16 := Kd.R_putg HO_4.out (x26_1 : Int) (-1)
                  go_wp2_with (first | ((with_reducible refine gate_store (t := 3) (p := 33) rfl ?_); refine store_event (t := 3) (p := 33) (v := ?vo_w17) (w1 := (wr.setCell ⟨go13, (x26_1 : Int).toNat, none⟩ (.int .i64 (-1)))) ?hg ?ho ?hn ?hr ?_; (case ho => rfl); (case hg => rfl); (case hn => rfl); (case hr => first | (go_simp; done) | (go_simp; rfl)); intro w17 hw; have hg : wr.grownBy w17 (some go13) := (by rw [hw]; exact HP16.2); have hp_ : Kd.R (Kd.int .i64) 3 w17 w.heap.size (fun k_ => some k_ ≠ (v110 : Value).ownBlock ∧ some k_ ≠ (v116 : Value).ownBlock) (.slice (some ⟨go13, 0, none⟩) x4_1.length co13) y118 := (by rw [hw, Ny118.out]; exact HP16.1); clear HP16; have n0_ := Aside0.mk (Kd.R_after (v := (.slice (some ⟨go13, 0, none⟩) x4_1.length co13)) (v1 := (.slice (some ⟨go13, 0, none⟩) x4_1.length co13)) (ok := (fun k_ => some k_ ≠ (v116 : Value).ownBlock)) (by (with_reducible repeat (first | apply Kd.R_alloc | apply Kd.R_drewN | apply Kd.R_drew)); exact Kd.R_mono HO_3.out (fun _ hk => ⟨hk.2, hk.1⟩)) hg (.inl rfl)); have n1_ := Aside0.mk (hp_); have n2_ := Aside0.mk (Kd.R_after (v := (.slice (some ⟨go13, 0, none⟩) x4_1.length co13)) (v1 := (.slice (some ⟨go13, 0, none⟩) x4_1.length co13)) (ok := (fun k_ => some k_ ≠ (v110 : Value).ownBlock)) (by (with_reducible repeat (first | apply Kd.R_alloc | apply Kd.R_drewN | apply Kd.R_drew)); exact HO_5.out) hg (.inl rfl)); have n3_ := Aside0.mk ((by rw [hw]; exact below_set (HB.out) GB13.out : Below w.heap.size w w17)); clear HO_3; clear HO_4; clear HO_5; clear HB; have HO_3 := n0_; have HO_4 := n1_; have HO_5 := n2_; have HB := n3_; clear n0_ n1_ n2_ n3_; clear hg hw hp_; have p15 : 0 ≤ (x26_1 : Int) := of_decide_eq_true (by first | (with_reducible assumption) | assumption); have q15 : (x26_1 : Int) < ((x5_1.length : Int) : Int) := of_decide_eq_true (by first | (with_reducible assumption) | assumption); obtain ⟨go15, co15, eo15, gb15, gl15, cl15, HG15⟩ := Kd.R_form HO_5.out (by omega); (first | cases eo15 | (injection eo15 with ea_ en_ ec_; (first | subst ea_ | (injection ea_ with ea_; subst ea_)); subst ec_; clear en_)); have GB15 := Aside0.mk gb15; have GG15 := Aside0.mk HG15; clear gb15 gl15 HG15; obtain ⟨hx15_0, hf15_0⟩ := Kd.R_celln 0 HO_5.out (x26_1 : Int) p15 q15; replace p15 := eq_true p15; replace q15 := eq_true q15; obtain ⟨hy18_, hz18_⟩ := Kd.R_celln 0 HO_5.out (x26_1 : Int) (of_decide_eq_true (by first | (with_reducible assumption) | assumption)) (of_decide_eq_true (by first | (with_reducible assumption) | assumption)); have HP18 := Kd.R_putg HO_5.out (x26_1 : Int) (-1)) | ((with_reducible refine gate_store (t := 3) (p := 34) rfl ?_); refine store_event (t := 3) (p := 34) (v := ?vo_w19) (w1 := (w17.setCell ⟨go15, (x26_1 : Int).toNat, none⟩ (.int .i64 (-1)))) ?hg ?ho ?hn ?hr ?_; (case ho => rfl); (case hg => rfl); (case hn => rfl); (case hr => first | (go_simp; done) | (go_simp; rfl)); intro w19 hw; have hg : w17.grownBy w19 (some go15) := (by rw [hw]; exact HP18.2); have hp_ : Kd.R (Kd.int .i64) 3 w19 w.heap.size (fun k_ => some k_ ≠ (v110 : Value).ownBlock ∧ some k_ ≠ (.slice (some ⟨go13, 0, none⟩) x4_1.length co13 : Value).ownBlock) (.slice (some ⟨go15, 0, none⟩) x5_1.length co15) y119 := (by rw [hw, Ny119.out]; exact HP18.1); clear HP18; have n0_ := Aside0.mk (Kd.R_after (v := (.slice (some ⟨go15, 0, none⟩) x5_1.length co15)) (v1 := (.slice (some ⟨go15, 0, none⟩) x5_1.length co15)) (ok := (fun k_ => some k_ ≠ (.slice (some ⟨go13, 0, none⟩) x4_1.length co13 : Value).ownBlock)) (by (with_reducible repeat (first | apply Kd.R_alloc | apply Kd.R_drewN | apply Kd.R_drew)); exact Kd.R_mono HO_3.out (fun _ hk => ⟨hk.2, hk.1⟩)) hg (.inl rfl)); have n1_ := Aside0.mk (Kd.R_after (v := (.slice (some ⟨go15, 0, none⟩) x5_1.length co15)) (v1 := (.slice (some ⟨go15, 0, none⟩) x5_1.length co15)) (ok := (fun k_ => some k_ ≠ (v110 : Value).ownBlock)) (by (with_reducible repeat (first | apply Kd.R_alloc | apply Kd.R_drewN | apply Kd.R_drew)); exact HO_4.out) hg (.inl rfl)); have n2_ := Aside0.mk (hp_); have n3_ := Aside0.mk ((by rw [hw]; exact below_set (HB.out) GB15.out : Below w.heap.size w w19)); clear HO_3; clear HO_4; clear HO_5; clear HB; have HO_3 := n0_; have HO_4 := n1_; have HO_5 := n2_; have HB := n3_; clear n0_ n1_ n2_ n3_; clear hg hw hp_))
                  go_roundg k1
                  case measure => have := HK1.out; omega
                  case rel => exact ⟨(y118), (y119), (wrap64 (x26_1 + 1)), (by first | rfl | (simp; done) | (simp [*]; done)), H', ⟨by have := HK1.out; omega⟩, ⟨by (with_reducible repeat (first | apply Kd.R_alloc | apply Kd.R_drewN | apply Kd.R_drew)); exact HO_3.out⟩, ⟨by (with_reducible repeat (first | apply Kd.R_alloc | apply Kd.R_drewN | apply Kd.R_drew)); exact HO_4.out⟩, ⟨by (with_reducible repeat (first | apply Kd.R_alloc | apply Kd.R_drewN | apply Kd.R_drew)); exact HO_5.out⟩, ⟨by repeat (first | (with_reducible first | exact HB.out | apply below_alloc | apply pw_below_drewN | apply below_drew1) | exact HB.out)⟩⟩
                · rw [if_neg c14] at H
                  exact absurd H (by simp)
              · rw [if_neg c12] at H
                exact absurd H (by simp)
            · rw [if_neg c11] at H
              exact absurd H (by simp)
          · rw [if_neg c10] at H
            have c10b0 : decide (x26_1 < (l0.length : Int)) = false := decide_eq_false c10
            clear c10
            have H' := Aside0.mk H
            clear H
            obtain ⟨Ao20, co20, eo20⟩ := Kd.R_slice HO_3.out
            subst eo20
            go_wp2
            go_loopg [38] k1 (fun kq v38 w' => ∃ (x4_2 : List Int) (x38_2 : Int), v38 = .int .i64 x38_2 ∧ Aside0 (graph_Idom.l1 kq l0 t109 x4_2 x5_1 t109 (t109.length : Int) x38_2 = some r) ∧ Aside0 (kq ≤ k1) ∧ Aside0 (Kd.R (Kd.int .i64) 3 w' w.heap.size (fun k_ => some k_ ≠ (v113 : Value).ownBlock ∧ some k_ ≠ (v116 : Value).ownBlock) (.slice Ao20 t109.length co20) t109) ∧ Aside0 (Kd.R (Kd.int .i64) 3 w' w.heap.size (fun k_ => some k_ ≠ ((.slice Ao20 t109.length co20) : Value).ownBlock ∧ some k_ ≠ (v116 : Value).ownBlock ∧ some k_ ≠ ((.slice Ao20 t109.length co20) : Value).ownBlock) v113 x4_2) ∧ Aside0 (Kd.R (Kd.int .i64) 3 w' w.heap.size (fun k_ => some k_ ≠ ((.slice Ao20 t109.length co20) : Value).ownBlock ∧ some k_ ≠ (v113 : Value).ownBlock ∧ some k_ ≠ ((.slice Ao20 t109.length co20) : Value).ownBlock) v116 x5_1) ∧ Aside0 (Kd.R (Kd.int .i64) 3 w' w.heap.size (fun k_ => some k_ ≠ (v113 : Value).ownBlock ∧ some k_ ≠ (v116 : Value).ownBlock) (.slice Ao20 t109.length co20) t109) ∧ Aside0 (Below w.heap.size w w'))
            case atStart => exact ⟨(x4_1), (0), (by first | rfl | (simp; done) | (simp [*]; done)), H', ⟨Nat.le_refl _⟩, ⟨by (with_reducible repeat (first | apply Kd.R_alloc | apply Kd.R_drewN | apply Kd.R_drew)); exact HO_3.out⟩, ⟨by (with_reducible repeat (first | apply Kd.R_alloc | apply Kd.R_drewN | apply Kd.R_drew)); exact Kd.R_mono HO_4.out (fun _ hk => ⟨hk.1, ⟨hk.2, hk.1⟩⟩)⟩, ⟨by (with_reducible repeat (first | apply Kd.R_alloc | apply Kd.R_drewN | apply Kd.R_drew)); exact Kd.R_mono HO_5.out (fun _ hk => ⟨hk.1, ⟨hk.2, hk.1⟩⟩)⟩, ⟨by (with_reducible repeat (first | apply Kd.R_alloc | apply Kd.R_drewN | apply Kd.R_drew)); exact HO_3.out⟩, ⟨by repeat (first | (with_reducible first | exact HB.out | apply below_alloc | apply pw_below_drewN | apply below_drew1) | exact HB.out)⟩⟩
            case round =>
              clear H'
              try clear c1
              try clear p1
              try clear q1
              try clear hx1
              try clear hf1
              try clear c2
              try clear p2
              try clear c3
              try clear c3b0
              try clear c3b1
              try clear c4
              try clear c4b0
              try clear c4b1
              try clear p6
              try clear c10
              try clear c10b0
              try clear c11
              try clear c11b0
              try clear c12
              try clear c12b0
              try clear p13
              try clear q13
              try clear hx13
              try clear hf13
              try clear c14
              try clear c14b0
              try clear p15
              try clear q15
              try clear hx15
              try clear hf15
              try clear hx13_0
              try clear hx15_0
              try clear p13
              try clear p15
              try clear p2
              try clear q13
              try clear q15
              obtain ⟨x4_2, x38_2, rfl, HA, HK2, HO_3, HO_4, HO_5, HO_36, HB⟩ := hrel
              cases gk with
              | zero => exact absurd HA.out (by simp [graph_Idom.l1])
              | succ k2 =>
                have H := HA.out
                clear HA
                simp only [graph_Idom.l1] at H
                by_cases c21 : x38_2 < (t109.length : Int)
                · rw [if_pos c21] at H
                  have c21b0 : decide (x38_2 < (t109.length : Int)) = true := decide_eq_true c21
                  clear c21
                  by_cases c22 : 0 ≤ x38_2
                  · rw [if_pos c22] at H
                    have c22b0 : decide (0 ≤ x38_2) = true := decide_eq_true c22
                    clear c22
                    by_cases c23 : x38_2 < (t109.length : Int)
                    · rw [if_pos c23] at H
                      have c23b0 : decide (x38_2 < (t109.length : Int)) = true := decide_eq_true c23
                      clear c23
                      by_cases c24 : 0 ≤ (rd t109 x38_2)
                      · rw [if_pos c24] at H
                        have c24b0 : decide (0 ≤ (rd t109 x38_2)) = true := decide_eq_true c24
                        clear c24
                        by_cases c25 : (rd t109 x38_2) < (x4_2.length : Int)
                        · rw [if_pos c25] at H
                          have c25b0 : decide ((rd t109 x38_2) < (x4_2.length : Int)) = true := decide_eq_true c25
                          clear c25
                          obtain ⟨y121, hy121⟩ : ∃ y_ : List Int, y_ = (x4_2.set ((rd t109 x38_2) : Int).toNat x38_2) := ⟨_, rfl⟩
                          replace H : (graph_Idom.l1 k2 l0 t109 y121 x5_1 t109 (t109.length : Int) (wrap64 (x38_2 + 1))) = some r := by first | (rw [hy121]; with_reducible exact H) | (have H2_ := (Option.bind_some _ _).symm.trans H; rw [hy121]; with_reducible exact H2_) | (have H2_ := (Option.bind_some _ _).symm.trans H; with_reducible exact H2_) | with_reducible exact H | (rw [hy121]; exact H) | exact H
                          have Ny121 := Aside0.mk hy121
                          clear hy121
                          have H' := Aside0.mk H
                          clear H
                          have p120 : 0 ≤ (x38_2 : Int) := of_decide_eq_true (by first | (with_reducible assumption) | assumption)
                          have q120 : x38_2 < (t109.length : Int) := of_decide_eq_true (by first | (with_reducible assumption) | assumption)
                          obtain ⟨ad120, e120, hx120_0⟩ := Kd.at_int (Kd.R_reads' HO_36.out).2.2 x38_2 p120 q120
                          cases e120
                          replace p120 := eq_true p120
                          replace q120 := eq_true q120
                          have p26 : 0 ≤ ((rd t109 x38_2) : Int) := of_decide_eq_true (by first | (with_reducible assumption) | assumption)
                          have q26 : ((rd t109 x38_2) : Int) < ((x4_2.length : Int) : Int) := of_decide_eq_true (by first | (with_reducible assumption) | assumption)
                          obtain ⟨go26, co26, eo26, gb26, gl26, cl26, HG26⟩ := Kd.R_form HO_4.out (by omega)
                          (first | cases eo26 | (injection eo26 with ea_ en_ ec_; (first | subst ea_ | (injection ea_ with ea_; subst ea_)); subst ec_; clear en_))
                          have GB26 := Aside0.mk gb26
                          have GG26 := Aside0.mk HG26
                          clear gb26 gl26 HG26
                          obtain ⟨hx26_0, hf26_0⟩ := Kd.R_celln 0 HO_4.out ((rd t109 x38_2) : Int) p26 q26
                          replace p26 := eq_true p26
                          replace q26 := eq_true q26
                          have HP27 := Kd.R_putg HO_4.out ((rd t109 x38_2) : Int) x38_2
                          go_wp2_with (first | ((with_reducible refine gate_store (t := 3) (p := 46) rfl ?_); refine store_event (t := 3) (p := 46) (v := ?vo_w28) (w1 := (wr.setCell ⟨go26, ((rd t109 x38_2) : Int).toNat, none⟩ (.int .i64 x38_2))) ?hg ?ho ?hn ?hr ?_; (case ho => rfl); (case hg => rfl); (case hn => rfl); (case hr => first | (go_simp; done) | (go_simp; rfl)); intro w28 hw; have hg : wr.grownBy w28 (some go26) := (by rw [hw]; exact HP27.2); have hp_ : Kd.R (Kd.int .i64) 3 w28 w.heap.size (fun k_ => some k_ ≠ (.slice (some ad120) t109.length co20 : Value).ownBlock ∧ some k_ ≠ (v116 : Value).ownBlock ∧ some k_ ≠ (.slice (some ad120) t109.length co20 : Value).ownBlock) (.slice (some ⟨go26, 0, none⟩) x4_2.length co26) y121 := (by rw [hw, Ny121.out]; exact HP27.1); clear HP27; have n0_ := Aside0.mk (Kd.R_after (v := (.slice (some ⟨go26, 0, none⟩) x4_2.length co26)) (v1 := (.slice (some ⟨go26, 0, none⟩) x4_2.length co26)) (ok := (fun k_ => some k_ ≠ (v116 : Value).ownBlock)) (by (with_reducible repeat (first | apply Kd.R_alloc | apply Kd.R_drewN | apply Kd.R_drew)); exact Kd.R_mono HO_3.out (fun _ hk => ⟨hk.2, hk.1⟩)) hg (.inl rfl)); have n1_ := Aside0.mk (hp_); have n2_ := Aside0.mk (Kd.R_after (v := (.slice (some ⟨go26, 0, none⟩) x4_2.length co26)) (v1 := (.slice (some ⟨go26, 0, none⟩) x4_2.length co26)) (ok := (fun k_ => some k_ ≠ (.slice (some ad120) t109.length co20 : Value).ownBlock ∧ some k_ ≠ (.slice (some ad120) t109.length co20 : Value).ownBlock)) (by (with_reducible repeat (first | apply Kd.R_alloc | apply Kd.R_drewN | apply Kd.R_drew)); exact Kd.R_mono HO_5.out (fun _ hk => ⟨⟨hk.1, hk.2.2⟩, hk.2.1⟩)) hg (.inl rfl)); have n3_ := Aside0.mk (Kd.R_after (v := (.slice (some ⟨go26, 0, none⟩) x4_2.length co26)) (v1 := (.slice (some ⟨go26, 0, none⟩) x4_2.length co26)) (ok := (fun k_ => some k_ ≠ (v116 : Value).ownBlock)) (by (with_reducible repeat (first | apply Kd.R_alloc | apply Kd.R_drewN | apply Kd.R_drew)); exact Kd.R_mono HO_36.out (fun _ hk => ⟨hk.2, hk.1⟩)) hg (.inl rfl)); have n4_ := Aside0.mk ((by rw [hw]; exact below_set (HB.out) GB26.out : Below w.heap.size w w28)); clear HO_3; clear HO_4; clear HO_5; clear HO_36; clear HB; have HO_3 := n0_; have HO_4 := n1_; have HO_5 := n2_; have HO_36 := n3_; have HB := n4_; clear n0_ n1_ n2_ n3_ n4_; clear hg hw hp_))
                          go_roundg k2
                          case measure => have := HK1.out; have := HK2.out; omega
                          case rel => exact ⟨(y121), (wrap64 (x38_2 + 1)), (by first | rfl | (simp; done) | (simp [*]; done)), H', ⟨by have := HK1.out; have := HK2.out; omega⟩, ⟨by (with_reducible repeat (first | apply Kd.R_alloc | apply Kd.R_drewN | apply Kd.R_drew)); exact Kd.R_mono HO_3.out (fun _ hk => ⟨hk.2, hk.1⟩)⟩, ⟨by (with_reducible repeat (first | apply Kd.R_alloc | apply Kd.R_drewN | apply Kd.R_drew)); exact HO_4.out⟩, ⟨by (with_reducible repeat (first | apply Kd.R_alloc | apply Kd.R_drewN | apply Kd.R_drew)); exact Kd.R_mono HO_5.out (fun _ hk => ⟨hk.1.1, ⟨hk.2, hk.1.2⟩⟩)⟩, ⟨by (with_reducible repeat (first | apply Kd.R_alloc | apply Kd.R_drewN | apply Kd.R_drew)); exact Kd.R_mono HO_36.out (fun _ hk => ⟨hk.2, hk.1⟩)⟩, ⟨by repeat (first | (with_reducible first | exact HB.out | apply below_alloc | apply pw_below_drewN | apply below_drew1) | exact HB.out)⟩⟩
                        · rw [if_neg c25] at H
                          exact absurd H (by simp)
                      · rw [if_neg c24] at H
                        exact absurd H (by simp)
                    · rw [if_neg c23] at H
                      exact absurd H (by simp)
                  · rw [if_neg c22] at H
                    exact absurd H (by simp)
                · rw [if_neg c21] at H
                  have c21b0 : decide (x38_2 < (t109.length : Int)) = false := decide_eq_false c21
                  clear c21
                  replace H := Option.bind_eq_some_iff.mp H
                  obtain ⟨t122, A290, H⟩ := H
                  replace H : (graph_Idom.l2 k2 t109 x4_2 x5_1 t122 true) = some r := H
                  have A29 := Aside0.mk A290
                  clear A290
                  have H' := Aside0.mk H
                  clear H
                  go_wp2_with (first | ((with_reducible refine gate_callee (f := 47) rfl ?_); refine goesL_ (some 49) rfl rfl Try.func47 (by kernel_rfl) rfl #[.slice A0 l0.length c0] rfl (by (try simp only [List.map_toArray, List.map_cons, List.map_nil]); first | done | rfl | (simp only [List.length_drop, List.length_take]; rfl)) ?_; (with_reducible refine (graph_Preds.calls _ _ l0 t122 _ ?side1 ?side2 A29.out).mono ?_); (case side1 => repeat (first | exact (Kd.C_below HR0.out HB.out) | (with_reducible refine Kd.C_alloc ?_ _) | (with_reducible refine Kd.C_drewN ?_ _) | (with_reducible refine Kd.C_drew ?_))); (case side2 => exact HC0.out); rintro e w30 ⟨v123, rfl, ho0, hb⟩; refine ⟨_, rfl, ?_⟩; have n0_ := Aside0.mk (Kd.R_below (by (with_reducible repeat (first | apply Kd.R_alloc | apply Kd.R_drewN | apply Kd.R_drew)); exact HO_3.out) hb); have n1_ := Aside0.mk (Kd.R_below (by (with_reducible repeat (first | apply Kd.R_alloc | apply Kd.R_drewN | apply Kd.R_drew)); exact HO_4.out) hb); have n2_ := Aside0.mk (Kd.R_below (by (with_reducible repeat (first | apply Kd.R_alloc | apply Kd.R_drewN | apply Kd.R_drew)); exact HO_5.out) hb); have n3_ := Aside0.mk (Kd.R_below (by (with_reducible repeat (first | apply Kd.R_alloc | apply Kd.R_drewN | apply Kd.R_drew)); exact HO_36.out) hb); have n4_ := Aside0.mk (Kd.S_lower (Kd.S_new' (Kd.S_new' (Kd.S_new' (Kd.S_new' ho0 (Kd.R_lt (by (with_reducible repeat (first | apply Kd.R_alloc | apply Kd.R_drewN | apply Kd.R_drew)); exact HO_3.out))) (Kd.R_lt (by (with_reducible repeat (first | apply Kd.R_alloc | apply Kd.R_drewN | apply Kd.R_drew)); exact HO_4.out))) (Kd.R_lt (by (with_reducible repeat (first | apply Kd.R_alloc | apply Kd.R_drewN | apply Kd.R_drew)); exact HO_5.out))) (Kd.R_lt (by (with_reducible repeat (first | apply Kd.R_alloc | apply Kd.R_drewN | apply Kd.R_drew)); exact HO_36.out))) (below_size (by repeat (first | (with_reducible first | exact HB.out | apply below_alloc | apply pw_below_drewN | apply below_drew1) | exact HB.out)))); have n5_ := Aside0.mk (below_step (by repeat (first | (with_reducible first | exact HB.out | apply below_alloc | apply pw_below_drewN | apply below_drew1) | exact HB.out)) hb); clear HO_3; clear HO_4; clear HO_5; clear HO_36; clear HB; have HO_3 := n0_; have HO_4 := n1_; have HO_5 := n2_; have HO_36 := n3_; have HO124 := n4_; have HB := n5_; clear n0_ n1_ n2_ n3_ n4_ n5_; (try clear hb); (try clear hb2); (try clear hk); (try clear hi); (try clear ho0)))
                  go_loopg [10] k2 (fun kq v10 w' => ∃ (x5_3 : List Int) (x10_3 : Bool), v10 = .bool x10_3 ∧ Aside0 (graph_Idom.l2 kq t109 x4_2 x5_3 t122 x10_3 = some r) ∧ Aside0 (kq ≤ k2) ∧ Aside0 (Kd.R (Kd.int .i64) 3 w' w.heap.size (fun k_ => some k_ ≠ (v113 : Value).ownBlock ∧ some k_ ≠ (v116 : Value).ownBlock) (.slice Ao20 t109.length co20) t109) ∧ Aside0 (Kd.R (Kd.int .i64) 3 w' w.heap.size (fun k_ => some k_ ≠ ((.slice Ao20 t109.length co20) : Value).ownBlock ∧ some k_ ≠ (v116 : Value).ownBlock) v113 x4_2) ∧ Aside0 (Kd.R (Kd.int .i64) 3 w' w.heap.size (fun k_ => some k_ ≠ ((.slice Ao20 t109.length co20) : Value).ownBlock ∧ some k_ ≠ (v113 : Value).ownBlock) v116 x5_3) ∧ Aside0 (Kd.S (Kd.slice 3 (Kd.int .i64)) 23 w' w.heap.size (fun k_ => some k_ ≠ ((.slice Ao20 t109.length co20) : Value).ownBlock ∧ some k_ ≠ (v113 : Value).ownBlock ∧ some k_ ≠ (v116 : Value).ownBlock) v123 t122) ∧ Aside0 (Below w.heap.size w w'))
                  case atStart => exact ⟨(x5_1), (true), (by first | rfl | (simp; done) | (simp [*]; done)), H', ⟨Nat.le_refl _⟩, ⟨by (with_reducible repeat (first | apply Kd.R_alloc | apply Kd.R_drewN | apply Kd.R_drew)); exact HO_3.out⟩, ⟨by (with_reducible repeat (first | apply Kd.R_alloc | apply Kd.R_drewN | apply Kd.R_drew)); exact Kd.R_mono HO_4.out (fun _ hk => ⟨hk.1, hk.2.1⟩)⟩, ⟨by (with_reducible repeat (first | apply Kd.R_alloc | apply Kd.R_drewN | apply Kd.R_drew)); exact Kd.R_mono HO_5.out (fun _ hk => ⟨hk.1, hk.2.1⟩)⟩, ⟨by (with_reducible repeat (first | apply Kd.S_alloc | apply Kd.S_drewN | apply Kd.S_drew)); exact Kd.S_mono HO124.out (fun _ hk => ⟨hk.1.1.1.2, ⟨hk.1.1.2, hk.1.2⟩⟩)⟩, ⟨by repeat (first | (with_reducible first | exact HB.out | apply below_alloc | apply pw_below_drewN | apply below_drew1) | exact HB.out)⟩⟩
                  case round =>
                    clear H'
                    try clear c1
                    try clear p1
                    try clear q1
                    try clear hx1
                    try clear hf1
                    try clear c2
                    try clear p2
                    try clear q2
                    try clear hx2
                    try clear hf2
                    try clear c3
                    try clear c3b0
                    try clear c3b1
                    try clear c4
                    try clear c4b0
                    try clear c4b1
                    try clear p6
                    try clear c10
                    try clear c10b0
                    try clear c11
                    try clear c11b0
                    try clear c12
                    try clear c12b0
                    try clear p12
                    try clear q12
                    try clear hx12
                    try clear p13
                    try clear q13
                    try clear hx13
                    try clear hf13
                    try clear c14
                    try clear c14b0
                    try clear p15
                    try clear q15
                    try clear hx15
                    try clear hf15
                    try clear c21
                    try clear c21b0
                    try clear c22
                    try clear c22b0
                    try clear c23
                    try clear c23b0
                    try clear c24
                    try clear c24b0
                    try clear c25
                    try clear c25b0
                    try clear c26
                    try clear p26
                    try clear q26
                    try clear hx26
                    try clear hf26
                    try clear c30
                    try clear hx120_0
                    try clear hx13_0
                    try clear hx15_0
                    try clear hx26_0
                    try clear p1
                    try clear p120
                    try clear p13
                    try clear p15
                    try clear p2
                    try clear p26
                    try clear p6
                    try clear q1
                    try clear q120
                    try clear q13
                    try clear q15
                    try clear q26
                    obtain ⟨x5_3, x10_3, rfl, HA, HK3, HO_3, HO_4, HO_5, HO_9, HB⟩ := hrel
                    cases gk with
                    | zero => exact absurd HA.out (by simp [graph_Idom.l2])
                    | succ k3 =>
                      have H := HA.out
                      clear HA
                      simp only [graph_Idom.l2] at H
                      by_cases c31 : x10_3 = true
                      · subst c31
                        have H1 : (if 0 ≤ (mn 1 (t109.length : Int)) then (if (mn 1 (t109.length : Int)) ≤ (t109.length : Int) then ((some (t109.drop ((mn 1 (t109.length : Int)) : Int).toNat : List Int)).bind fun y125 => (graph_Idom.l3 k3 t109 x4_2 x5_3 t122 false y125 (y125.length : Int) 0)) else (none)) else (none)) = some r := by rw [if_pos rfl] at H; exact H
                        clear H
                        have H := H1
                        clear H1
                        obtain ⟨ji32, hji32⟩ : ∃ j_ : Int, (mn 1 (t109.length : Int)) = j_ := ⟨_, rfl⟩
                        replace H : (if 0 ≤ (ji32) then (if (ji32) ≤ (t109.length : Int) then ((some (t109.drop ((ji32) : Int).toNat : List Int)).bind fun y125 => (graph_Idom.l3 k3 t109 x4_2 x5_3 t122 false y125 (y125.length : Int) 0)) else (none)) else (none)) = some r := by first | (rw [hji32] at H; exact H) | (simp only [hji32] at H ⊢; exact H)
                        have hji32_ : (if (t109.length : Int) < 1 then (t109.length : Int) else 1) = ji32 := hji32
                        by_cases c33 : 0 ≤ (ji32)
                        · rw [if_pos c33] at H
                          have c33b0 := eq_true c33
                          have c33b1 : decide (0 ≤ (ji32)) = true := decide_eq_true c33
                          clear c33
                          by_cases c34 : (ji32) ≤ (t109.length : Int)
                          · rw [if_pos c34] at H
                            have c34b0 := eq_true c34
                            have c34b1 : decide ((ji32) ≤ (t109.length : Int)) = true := decide_eq_true c34
                            clear c34
                            obtain ⟨y125, hy125⟩ : ∃ y_ : List Int, y_ = (t109.drop ((ji32) : Int).toNat) := ⟨_, rfl⟩
                            replace H : (graph_Idom.l3 k3 t109 x4_2 x5_3 t122 false y125 (y125.length : Int) 0) = some r := by first | (rw [hy125]; with_reducible exact H) | (have H2_ := (Option.bind_some _ _).symm.trans H; rw [hy125]; with_reducible exact H2_) | (have H2_ := (Option.bind_some _ _).symm.trans H; with_reducible exact H2_) | with_reducible exact H | (rw [hy125]; exact H) | exact H
                            have Ny125 := Aside0.mk hy125
                            clear hy125
                            have H' := Aside0.mk H
                            clear H
                            have q35 : ((ji32) : Int) ≤ ((t109.length : Int) : Int) := of_decide_eq_true (by first | (with_reducible assumption) | assumption)
                            obtain ⟨i035, hi035, _, hsz35, _⟩ := info_parts info3
                            have hroom35 : t109.length ≤ co20 := (Kd.R_reads' HO_3.out).2.1
                            have hC35 : Kd.C (Kd.int .i64) _ Ao20 t109.length t109 := (Kd.R_reads' HO_3.out).2.2
                            have q035 : (0 : Int) ≤ ((ji32) : Int) := of_decide_eq_true (by first | (with_reducible assumption) | assumption)
                            have hcut35 := cut_from (P := Try.prog) 23 3 .i64 Try.underlying23 hi035 1 hsz35 Ao20 t109.length co20 (ji32) q035 q35
                            have hr35 := Kd.C_drop (m := ((ji32) : Int).toNat) (c := co20) hC35 (by omega) hroom35
                            obtain ⟨A35, hA35⟩ : ∃ A1, A1 = (if co20 = ((ji32) : Int).toNat then Ao20 else (Ao20 : Option Addr).map (·.add (((ji32) : Int).toNat * 1))) := ⟨_, rfl⟩
                            obtain ⟨c35, hc35⟩ : ∃ c1, c1 = co20 - ((ji32) : Int).toNat := ⟨_, rfl⟩
                            have hy35 : y125.length = t109.length - ((ji32) : Int).toNat := (by rw [Ny125.out, List.length_drop] <;> omega)
                            rw [show (t109).drop ((ji32) : Int).toNat = y125 from Ny125.out.symm] at hr35
                            replace hr35 : Kd.C (Kd.int .i64) _ A35 y125.length y125 := (by rw [hA35]; exact hr35)
                            rw [← hy35, ← hA35, ← hc35] at hcut35
                            have HR128 := Aside0.mk hr35
                            have HC128 := Aside0.mk (show y125.length ≤ c35 from by rw [hy35, hc35]; exact Nat.sub_le_sub_right hroom35 _)
                            clear hr35 hC35 hroom35 hi035 hsz35 hc35
                            have KY35 := Aside0.mk hy35
                            have KA35 := Aside0.mk hA35
                            clear hy35 hA35
                            have KL35 := Aside0.mk (show ((ji32) : Int).toNat ≤ t109.length from by omega)
                            replace q35 := eq_true q35
                            go_wp2
                            go_loopg [10, 57] k3 (fun kq v10 v57 w' => ∃ (x5_4 : List Int) (x10_4 : Bool) (x57_4 : Int), v10 = .bool x10_4 ∧ v57 = .int .i64 x57_4 ∧ Aside0 (graph_Idom.l3 kq t109 x4_2 x5_4 t122 x10_4 y125 (y125.length : Int) x57_4 = some r) ∧ Aside0 (kq ≤ k3) ∧ Aside0 (Kd.R (Kd.int .i64) 3 w' w.heap.size (fun k_ => some k_ ≠ (v113 : Value).ownBlock ∧ some k_ ≠ (v116 : Value).ownBlock) (.slice Ao20 t109.length co20) t109) ∧ Aside0 (Kd.R (Kd.int .i64) 3 w' w.heap.size (fun k_ => some k_ ≠ ((.slice Ao20 t109.length co20) : Value).ownBlock ∧ some k_ ≠ (v116 : Value).ownBlock) v113 x4_2) ∧ Aside0 (Kd.R (Kd.int .i64) 3 w' w.heap.size (fun k_ => some k_ ≠ ((.slice Ao20 t109.length co20) : Value).ownBlock ∧ some k_ ≠ (v113 : Value).ownBlock) v116 x5_4) ∧ Aside0 (Kd.S (Kd.slice 3 (Kd.int .i64)) 23 w' w.heap.size (fun k_ => some k_ ≠ ((.slice Ao20 t109.length co20) : Value).ownBlock ∧ some k_ ≠ (v113 : Value).ownBlock ∧ some k_ ≠ (v116 : Value).ownBlock) v123 t122) ∧ Aside0 (Kd.C (Kd.int .i64) w' A35 y125.length y125) ∧ Aside0 (Below w.heap.size w w'))
                            case atStart => exact ⟨(x5_3), (false), (0), (by first | rfl | (simp; done) | (simp [*]; done)), (by first | rfl | (simp; done) | (simp [*]; done)), H', ⟨Nat.le_refl _⟩, ⟨by (with_reducible repeat (first | apply Kd.R_alloc | apply Kd.R_drewN | apply Kd.R_drew)); exact HO_3.out⟩, ⟨by (with_reducible repeat (first | apply Kd.R_alloc | apply Kd.R_drewN | apply Kd.R_drew)); exact HO_4.out⟩, ⟨by (with_reducible repeat (first | apply Kd.R_alloc | apply Kd.R_drewN | apply Kd.R_drew)); exact HO_5.out⟩, ⟨by (with_reducible repeat (first | apply Kd.S_alloc | apply Kd.S_drewN | apply Kd.S_drew)); exact HO_9.out⟩, ⟨by repeat (first | (with_reducible exact HR128.out) | (with_reducible refine Kd.C_alloc ?_ _) | (with_reducible refine Kd.C_drewN ?_ _) | (with_reducible refine Kd.C_drew ?_) | exact HR128.out)⟩, ⟨by repeat (first | (with_reducible first | exact HB.out | apply below_alloc | apply pw_below_drewN | apply below_drew1) | exact HB.out)⟩⟩
                            case round =>
                              clear H'
                              try clear c1
                              try clear p1
                              try clear q1
                              try clear hx1
                              try clear hf1
                              try clear c2
                              try clear p2
                              try clear q2
                              try clear hx2
                              try clear hf2
                              try clear c3
                              try clear c3b0
                              try clear c3b1
                              try clear q3
                              try clear c4
                              try clear c4b0
                              try clear c4b1
                              try clear p6
                              try clear c10
                              try clear c10b0
                              try clear c11
                              try clear c11b0
                              try clear c12
                              try clear c12b0
                              try clear p12
                              try clear q12
                              try clear hx12
                              try clear p13
                              try clear q13
                              try clear hx13
                              try clear hf13
                              try clear c14
                              try clear c14b0
                              try clear p15
                              try clear q15
                              try clear hx15
                              try clear hf15
                              try clear c21
                              try clear c21b0
                              try clear c22
                              try clear c22b0
                              try clear c23
                              try clear c23b0
                              try clear c24
                              try clear c24b0
                              try clear c25
                              try clear c25b0
                              try clear c26
                              try clear p26
                              try clear q26
                              try clear hx26
                              try clear hf26
                              try clear c30
                              try clear c31
                              try clear c33
                              try clear c33b0
                              try clear c33b1
                              try clear c34
                              try clear c34b0
                              try clear c34b1
                              try clear c35
                              try clear q35
                              try clear hx120_0
                              try clear hx13_0
                              try clear hx15_0
                              try clear hx26_0
                              try clear p1
                              try clear p12
                              try clear p120
                              try clear p13
                              try clear p15
                              try clear p2
                              try clear p26
                              try clear p6
                              try clear q035
                              try clear q1
                              try clear q12
                              try clear q120
                              try clear q13
                              try clear q15
                              try clear q2
                              try clear q26
                              try clear q35
                              obtain ⟨x5_4, x10_4, x57_4, rfl, rfl, HA, HK4, HO_3, HO_4, HO_5, HO_9, HR128, HB⟩ := hrel
                              cases gk with
                              | zero => exact absurd HA.out (by simp [graph_Idom.l3])
                              | succ k4 =>
                                have H := HA.out
                                clear HA
                                simp only [graph_Idom.l3] at H
                                by_cases c36 : x57_4 < (y125.length : Int)
                                · rw [if_pos c36] at H
                                  have c36b0 : decide (x57_4 < (y125.length : Int)) = true := decide_eq_true c36
                                  clear c36
                                  by_cases c37 : 0 ≤ x57_4
                                  · rw [if_pos c37] at H
                                    have c37b0 : decide (0 ≤ x57_4) = true := decide_eq_true c37
                                    clear c37
                                    by_cases c38 : x57_4 < (y125.length : Int)
                                    · rw [if_pos c38] at H
                                      have c38b0 : decide (x57_4 < (y125.length : Int)) = true := decide_eq_true c38
                                      clear c38
                                      by_cases c39 : 0 ≤ (rd y125 x57_4)
                                      · rw [if_pos c39] at H
                                        have c39b0 : decide (0 ≤ (rd y125 x57_4)) = true := decide_eq_true c39
                                        clear c39
                                        by_cases c40 : (rd y125 x57_4) < (t122.length : Int)
                                        · rw [if_pos c40] at H
                                          have c40b0 : decide ((rd y125 x57_4) < (t122.length : Int)) = true := decide_eq_true c40
                                          clear c40
                                          have H' := Aside0.mk H
                                          clear H
                                          have p129 : 0 ≤ (x57_4 : Int) := of_decide_eq_true (by first | (with_reducible assumption) | assumption)
                                          have q129 : x57_4 < (y125.length : Int) := of_decide_eq_true (by first | (with_reducible assumption) | assumption)
                                          obtain ⟨ad129, e129, hx129_0⟩ := Kd.at_int HR128.out x57_4 p129 q129
                                          cases e129
                                          try replace hx129_0 := (HB.out.cell (World.block_lt_of_cell? w _ hx129_0)).trans hx129_0
                                          replace p129 := eq_true p129
                                          replace q129 := eq_true q129
                                          obtain ⟨Ao41, co41, eo41⟩ := Kd.S_slice HO_9.out
                                          subst eo41
                                          have p130 : 0 ≤ ((rd y125 x57_4) : Int) := of_decide_eq_true (by first | (with_reducible assumption) | assumption)
                                          have q130 : (rd y125 x57_4) < (t122.length : Int) := of_decide_eq_true (by first | (with_reducible assumption) | assumption)
                                          obtain ⟨ad130, A130_0, c130_0, e130, hx130_0, hl130_0, hi130_0⟩ := at_L1 (Kd.S_reads' HO_9.out).2.2 (rd y125 x57_4) p130 q130
                                          cases e130
                                          obtain ⟨ce130, hce130, hMe130, hcc130⟩ := Kd.S_get HO_9.out [] (rd y125 x57_4) p130 (by first | exact q130 | exact of_decide_eq_true (by first | (with_reducible assumption) | assumption) | (have e_ := (Kd.S_reads' HO_9.out).1; omega))
                                          obtain ⟨ve130_0, rfl, ge130_0⟩ := hMe130
                                          have hv130_0 := hcc130 0 _ rfl
                                          rw [Nat.add_zero, show ((Kd.slice 3 (Kd.int .i64))).sz = 1 from rfl, Nat.mul_one] at hv130_0
                                          replace hv130_0 := Option.some.inj (hv130_0.symm.trans hx130_0)
                                          rw [hv130_0] at ge130_0
                                          have HL130_0 := Aside0.mk (show Kd.R (Kd.int .i64) 3 _ _ _ _ (rd_L1 t122 (rd y125 x57_4)) from ge130_0)
                                          clear hv130_0 ge130_0
                                          clear hcc130 hce130
                                          have HR130_0 := Aside0.mk hi130_0
                                          have HC130_0 := Aside0.mk hl130_0
                                          clear hi130_0 hl130_0
                                          replace p130 := eq_true p130
                                          replace q130 := eq_true q130
                                          go_wp2
                                          go_loopg [13, 66] k4 (fun kq v13 v66 w' => ∃ (x13_5 : Int) (x66_5 : Int), v13 = .int .i64 x13_5 ∧ v66 = .int .i64 x66_5 ∧ Aside0 (graph_Idom.l4 kq t109 x4_2 x5_4 t122 x10_4 (rd y125 x57_4) x13_5 y125 (y125.length : Int) x57_4 (rd_L1 t122 (rd y125 x57_4)) ((rd_L1 t122 (rd y125 x57_4)).length : Int) x66_5 = some r) ∧ Aside0 (kq ≤ k4) ∧ Aside0 (Kd.R (Kd.int .i64) 3 w' w.heap.size (fun k_ => some k_ ≠ (v113 : Value).ownBlock ∧ some k_ ≠ (v116 : Value).ownBlock) (.slice Ao20 t109.length co20) t109) ∧ Aside0 (Kd.R (Kd.int .i64) 3 w' w.heap.size (fun k_ => some k_ ≠ ((.slice Ao20 t109.length co20) : Value).ownBlock ∧ some k_ ≠ (v116 : Value).ownBlock) v113 x4_2) ∧ Aside0 (Kd.R (Kd.int .i64) 3 w' w.heap.size (fun k_ => some k_ ≠ ((.slice Ao20 t109.length co20) : Value).ownBlock ∧ some k_ ≠ (v113 : Value).ownBlock) v116 x5_4) ∧ Aside0 (Kd.S (Kd.slice 3 (Kd.int .i64)) 23 w' w.heap.size (fun k_ => some k_ ≠ ((.slice Ao20 t109.length co20) : Value).ownBlock ∧ some k_ ≠ (v113 : Value).ownBlock ∧ some k_ ≠ (v116 : Value).ownBlock) (.slice (some ad130) t122.length co41) t122) ∧ Aside0 (Kd.C (Kd.int .i64) w' (some ad129) y125.length y125) ∧ Aside0 (Kd.C (Kd.int .i64) w' A130_0 (rd_L1 t122 (rd y125 x57_4)).length (rd_L1 t122 (rd y125 x57_4))) ∧ Aside0 (Below w.heap.size w w'))
                                          case atStart => exact ⟨((-1)), (0), (by first | rfl | (simp; done) | (simp [*]; done)), (by first | rfl | (simp; done) | (simp [*]; done)), H', ⟨Nat.le_refl _⟩, ⟨by (with_reducible repeat (first | apply Kd.R_alloc | apply Kd.R_drewN | apply Kd.R_drew)); exact HO_3.out⟩, ⟨by (with_reducible repeat (first | apply Kd.R_alloc | apply Kd.R_drewN | apply Kd.R_drew)); exact HO_4.out⟩, ⟨by (with_reducible repeat (first | apply Kd.R_alloc | apply Kd.R_drewN | apply Kd.R_drew)); exact HO_5.out⟩, ⟨by (with_reducible repeat (first | apply Kd.S_alloc | apply Kd.S_drewN | apply Kd.S_drew)); exact HO_9.out⟩, ⟨by repeat (first | (with_reducible exact HR128.out) | (with_reducible refine Kd.C_alloc ?_ _) | (with_reducible refine Kd.C_drewN ?_ _) | (with_reducible refine Kd.C_drew ?_) | exact HR128.out)⟩, ⟨by repeat (first | (with_reducible exact HR130_0.out) | (with_reducible refine Kd.C_alloc ?_ _) | (with_reducible refine Kd.C_drewN ?_ _) | (with_reducible refine Kd.C_drew ?_) | exact HR130_0.out)⟩, ⟨by repeat (first | (with_reducible first | exact HB.out | apply below_alloc | apply pw_below_drewN | apply below_drew1) | exact HB.out)⟩⟩
                                          case round =>
                                            clear H'
                                            try clear c1
                                            try clear p1
                                            try clear q1
                                            try clear hx1
                                            try clear hf1
                                            try clear c2
                                            try clear p2
                                            try clear q2
                                            try clear hx2
                                            try clear hf2
                                            try clear c3
                                            try clear c3b0
                                            try clear c3b1
                                            try clear q3
                                            try clear c4
                                            try clear c4b0
                                            try clear c4b1
                                            try clear p6
                                            try clear c10
                                            try clear c10b0
                                            try clear c11
                                            try clear c11b0
                                            try clear c12
                                            try clear c12b0
                                            try clear p12
                                            try clear q12
                                            try clear hx12
                                            try clear c13
                                            try clear p13
                                            try clear q13
                                            try clear hx13
                                            try clear hf13
                                            try clear c14
                                            try clear c14b0
                                            try clear p15
                                            try clear q15
                                            try clear hx15
                                            try clear hf15
                                            try clear c21
                                            try clear c21b0
                                            try clear c22
                                            try clear c22b0
                                            try clear c23
                                            try clear c23b0
                                            try clear c24
                                            try clear c24b0
                                            try clear c25
                                            try clear c25b0
                                            try clear c26
                                            try clear p26
                                            try clear q26
                                            try clear hx26
                                            try clear hf26
                                            try clear c30
                                            try clear c31
                                            try clear c33
                                            try clear c33b0
                                            try clear c33b1
                                            try clear c34
                                            try clear c34b0
                                            try clear c34b1
                                            try clear c35
                                            try clear q35
                                            try clear c36
                                            try clear c36b0
                                            try clear c37
                                            try clear c37b0
                                            try clear c38
                                            try clear c38b0
                                            try clear c39
                                            try clear c39b0
                                            try clear c40
                                            try clear c40b0
                                            try clear hx120_0
                                            try clear hx129_0
                                            try clear hx130_0
                                            try clear hx13_0
                                            try clear hx15_0
                                            try clear hx26_0
                                            try clear p1
                                            try clear p12
                                            try clear p120
                                            try clear p129
                                            try clear p13
                                            try clear p130
                                            try clear p15
                                            try clear p2
                                            try clear p26
                                            try clear p6
                                            try clear q035
                                            try clear q1
                                            try clear q12
                                            try clear q120
                                            try clear q129
                                            try clear q13
                                            try clear q130
                                            try clear q15
                                            try clear q2
                                            try clear q26
                                            try clear q3
                                            try clear q35
                                            obtain ⟨x13_5, x66_5, rfl, rfl, HA, HK5, HO_3, HO_4, HO_5, HO_9, HR128, HR130_0, HB⟩ := hrel
                                            cases gk with
                                            | zero => exact absurd HA.out (by simp [graph_Idom.l4])
                                            | succ k5 =>
                                              have H := HA.out
                                              clear HA
                                              simp only [graph_Idom.l4] at H
                                              by_cases c42 : x66_5 < ((rd_L1 t122 (rd y125 x57_4)).length : Int)
                                              · rw [if_pos c42] at H
                                                have c42b0 : decide (x66_5 < ((rd_L1 t122 (rd y125 x57_4)).length : Int)) = true := decide_eq_true c42
                                                clear c42
                                                by_cases c43 : 0 ≤ x66_5
                                                · rw [if_pos c43] at H
                                                  have c43b0 : decide (0 ≤ x66_5) = true := decide_eq_true c43
                                                  clear c43
                                                  by_cases c44 : x66_5 < ((rd_L1 t122 (rd y125 x57_4)).length : Int)
                                                  · rw [if_pos c44] at H
                                                    have c44b0 : decide (x66_5 < ((rd_L1 t122 (rd y125 x57_4)).length : Int)) = true := decide_eq_true c44
                                                    clear c44
                                                    have HC45 := Aside0.mk H
                                                    clear H
                                                    have p133 : 0 ≤ (x66_5 : Int) := of_decide_eq_true (by first | (with_reducible assumption) | assumption)
                                                    have q133 : x66_5 < ((rd_L1 t122 (rd y125 x57_4)).length : Int) := of_decide_eq_true (by first | (with_reducible assumption) | assumption)
                                                    obtain ⟨ad133, e133, hx133_0⟩ := Kd.at_int HR130_0.out x66_5 p133 q133
                                                    cases e133
                                                    try replace hx133_0 := (HB.out.cell (World.block_lt_of_cell? w _ hx133_0)).trans hx133_0
                                                    replace p133 := eq_true p133
                                                    replace q133 := eq_true q133
                                                    go_upto_region 25 with (fail)
                                                    go_cut [85] (fun v85 wc => ∃ (kq : Nat) (x85_44 : Bool), v85 = .bool x85_44 ∧ Aside0 (graph_Idom.j5 kq t109 x4_2 x5_4 t122 x10_4 (rd y125 x57_4) x13_5 (rd (rd_L1 t122 (rd y125 x57_4)) x66_5) y125 (y125.length : Int) x57_4 (rd_L1 t122 (rd y125 x57_4)) ((rd_L1 t122 (rd y125 x57_4)).length : Int) x66_5 x85_44 = some r) ∧ Aside0 (kq ≤ k5) ∧ Aside0 (Kd.R (Kd.int .i64) 3 wc w.heap.size (fun k_ => some k_ ≠ (v113 : Value).ownBlock ∧ some k_ ≠ (v116 : Value).ownBlock) (.slice Ao20 t109.length co20) t109) ∧ Aside0 (Kd.R (Kd.int .i64) 3 wc w.heap.size (fun k_ => some k_ ≠ ((.slice Ao20 t109.length co20) : Value).ownBlock ∧ some k_ ≠ (v116 : Value).ownBlock) v113 x4_2) ∧ Aside0 (Kd.R (Kd.int .i64) 3 wc w.heap.size (fun k_ => some k_ ≠ ((.slice Ao20 t109.length co20) : Value).ownBlock ∧ some k_ ≠ (v113 : Value).ownBlock) v116 x5_4) ∧ Aside0 (Kd.S (Kd.slice 3 (Kd.int .i64)) 23 wc w.heap.size (fun k_ => some k_ ≠ ((.slice Ao20 t109.length co20) : Value).ownBlock ∧ some k_ ≠ (v113 : Value).ownBlock ∧ some k_ ≠ (v116 : Value).ownBlock) (.slice (some ad130) t122.length co41) t122) ∧ Aside0 (Kd.C (Kd.int .i64) wc (some ad129) y125.length y125) ∧ Aside0 (Kd.C (Kd.int .i64) wc (some ad133) (rd_L1 t122 (rd y125 x57_4)).length (rd_L1 t122 (rd y125 x57_4))) ∧ Aside0 (Below w.heap.size w wc))
                                                    case first =>
                                                      have H := HC45.out
                                                      clear HC45
                                                      by_cases c46 : 0 ≤ (rd (rd_L1 t122 (rd y125 x57_4)) x66_5)
                                                      · rw [if_pos c46] at H
                                                        have c46b0 : decide (0 ≤ (rd (rd_L1 t122 (rd y125 x57_4)) x66_5)) = true := decide_eq_true c46
                                                        clear c46
                                                        (first | rw [c46b0] | (simp only [i64_w, i32_w]; rw [c46b0]) | skip)
                                                        by_cases c47 : (rd (rd_L1 t122 (rd y125 x57_4)) x66_5) < (x4_2.length : Int)
                                                        · rw [if_pos c47] at H
                                                          have c47b0 : decide ((rd (rd_L1 t122 (rd y125 x57_4)) x66_5) < (x4_2.length : Int)) = true := decide_eq_true c47
                                                          clear c47
                                                          by_cases c48 : (rd x4_2 (rd (rd_L1 t122 (rd y125 x57_4)) x66_5)) < 0
                                                          · rw [if_pos c48] at H
                                                            have c48b0 : decide ((rd x4_2 (rd (rd_L1 t122 (rd y125 x57_4)) x66_5)) < 0) = true := decide_eq_true c48
                                                            clear c48
                                                            have H' := Aside0.mk H
                                                            clear H
                                                            obtain ⟨Ao49, co49, eo49⟩ := Kd.R_slice HO_4.out
                                                            subst eo49
                                                            have p134 : 0 ≤ ((rd (rd_L1 t122 (rd y125 x57_4)) x66_5) : Int) := of_decide_eq_true (by first | (with_reducible assumption) | assumption)
                                                            have q134 : (rd (rd_L1 t122 (rd y125 x57_4)) x66_5) < (x4_2.length : Int) := of_decide_eq_true (by first | (with_reducible assumption) | assumption)
                                                            obtain ⟨ad134, e134, hx134_0⟩ := Kd.at_int (Kd.R_reads' HO_4.out).2.2 (rd (rd_L1 t122 (rd y125 x57_4)) x66_5) p134 q134
                                                            cases e134
                                                            replace p134 := eq_true p134
                                                            replace q134 := eq_true q134
                                                            go_wp2
                                                            go_meet
                                                            case rel => exact ⟨_, (true), (by first | rfl | (simp; done) | (simp [*]; done)), H', ⟨by have := HK1.out; have := HK2.out; have := HK3.out; have := HK4.out; have := HK5.out; first | omega | exact Nat.le_refl _⟩, ⟨by (with_reducible repeat (first | apply Kd.R_alloc | apply Kd.R_drewN | apply Kd.R_drew)); exact HO_3.out⟩, ⟨by (with_reducible repeat (first | apply Kd.R_alloc | apply Kd.R_drewN | apply Kd.R_drew)); exact HO_4.out⟩, ⟨by (with_reducible repeat (first | apply Kd.R_alloc | apply Kd.R_drewN | apply Kd.R_drew)); exact HO_5.out⟩, ⟨by (with_reducible repeat (first | apply Kd.S_alloc | apply Kd.S_drewN | apply Kd.S_drew)); exact HO_9.out⟩, ⟨by repeat (first | (with_reducible exact HR128.out) | (with_reducible refine Kd.C_alloc ?_ _) | (with_reducible refine Kd.C_drewN ?_ _) | (with_reducible refine Kd.C_drew ?_) | exact HR128.out)⟩, ⟨by repeat (first | (with_reducible exact HR130_0.out) | (with_reducible refine Kd.C_alloc ?_ _) | (with_reducible refine Kd.C_drewN ?_ _) | (with_reducible refine Kd.C_drew ?_) | exact HR130_0.out)⟩, ⟨by repeat (first | (with_reducible first | exact HB.out | apply below_alloc | apply pw_below_drewN | apply below_drew1) | exact HB.out)⟩⟩
                                                          · rw [if_neg c48] at H
                                                            have c48b0 : decide ((rd x4_2 (rd (rd_L1 t122 (rd y125 x57_4)) x66_5)) < 0) = false := decide_eq_false c48
                                                            clear c48
                                                            by_cases c50 : (rd (rd_L1 t122 (rd y125 x57_4)) x66_5) = 0
                                                            · rw [if_pos c50] at H
                                                              have c50b0 : ((rd (rd_L1 t122 (rd y125 x57_4)) x66_5) == 0) = true := beq_iff_eq.mpr c50
                                                              have c50b1 : ((rd (rd_L1 t122 (rd y125 x57_4)) x66_5) != 0) = false := bne_eq_false_iff_eq.mpr c50
                                                              clear c50
                                                              have H' := Aside0.mk H
                                                              clear H
                                                              obtain ⟨Ao51, co51, eo51⟩ := Kd.R_slice HO_4.out
                                                              subst eo51
                                                              have p134 : 0 ≤ ((rd (rd_L1 t122 (rd y125 x57_4)) x66_5) : Int) := of_decide_eq_true (by first | (with_reducible assumption) | assumption)
                                                              have q134 : (rd (rd_L1 t122 (rd y125 x57_4)) x66_5) < (x4_2.length : Int) := of_decide_eq_true (by first | (with_reducible assumption) | assumption)
                                                              obtain ⟨ad134, e134, hx134_0⟩ := Kd.at_int (Kd.R_reads' HO_4.out).2.2 (rd (rd_L1 t122 (rd y125 x57_4)) x66_5) p134 q134
                                                              cases e134
                                                              replace p134 := eq_true p134
                                                              replace q134 := eq_true q134
                                                              go_wp2
                                                              go_meet
                                                              case rel => exact ⟨_, (false), (by first | rfl | (simp; done) | (simp [*]; done)), H', ⟨by have := HK1.out; have := HK2.out; have := HK3.out; have := HK4.out; have := HK5.out; first | omega | exact Nat.le_refl _⟩, ⟨by (with_reducible repeat (first | apply Kd.R_alloc | apply Kd.R_drewN | apply Kd.R_drew)); exact HO_3.out⟩, ⟨by (with_reducible repeat (first | apply Kd.R_alloc | apply Kd.R_drewN | apply Kd.R_drew)); exact HO_4.out⟩, ⟨by (with_reducible repeat (first | apply Kd.R_alloc | apply Kd.R_drewN | apply Kd.R_drew)); exact HO_5.out⟩, ⟨by (with_reducible repeat (first | apply Kd.S_alloc | apply Kd.S_drewN | apply Kd.S_drew)); exact HO_9.out⟩, ⟨by repeat (first | (with_reducible exact HR128.out) | (with_reducible refine Kd.C_alloc ?_ _) | (with_reducible refine Kd.C_drewN ?_ _) | (with_reducible refine Kd.C_drew ?_) | exact HR128.out)⟩, ⟨by repeat (first | (with_reducible exact HR130_0.out) | (with_reducible refine Kd.C_alloc ?_ _) | (with_reducible refine Kd.C_drewN ?_ _) | (with_reducible refine Kd.C_drew ?_) | exact HR130_0.out)⟩, ⟨by repeat (first | (with_reducible first | exact HB.out | apply below_alloc | apply pw_below_drewN | apply below_drew1) | exact HB.out)⟩⟩
                                                            · rw [if_neg c50] at H
                                                              have c50b0 : ((rd (rd_L1 t122 (rd y125 x57_4)) x66_5) == 0) = false := beq_eq_false_iff_ne.mpr c50
                                                              have c50b1 : ((rd (rd_L1 t122 (rd y125 x57_4)) x66_5) != 0) = true := bne_iff_ne.mpr c50
                                                              by_cases c52 : (rd (rd_L1 t122 (rd y125 x57_4)) x66_5) < (x5_4.length : Int)
                                                              · rw [if_pos c52] at H
                                                                have c52b0 : decide ((rd (rd_L1 t122 (rd y125 x57_4)) x66_5) < (x5_4.length : Int)) = true := decide_eq_true c52
                                                                clear c52
                                                                have H' := Aside0.mk H
                                                                clear H
                                                                obtain ⟨Ao53, co53, eo53⟩ := Kd.R_slice HO_4.out
                                                                subst eo53
                                                                have p134 : 0 ≤ ((rd (rd_L1 t122 (rd y125 x57_4)) x66_5) : Int) := of_decide_eq_true (by first | (with_reducible assumption) | assumption)
                                                                have q134 : (rd (rd_L1 t122 (rd y125 x57_4)) x66_5) < (x4_2.length : Int) := of_decide_eq_true (by first | (with_reducible assumption) | assumption)
                                                                obtain ⟨ad134, e134, hx134_0⟩ := Kd.at_int (Kd.R_reads' HO_4.out).2.2 (rd (rd_L1 t122 (rd y125 x57_4)) x66_5) p134 q134
                                                                cases e134
                                                                replace p134 := eq_true p134
                                                                replace q134 := eq_true q134
                                                                obtain ⟨Ao54, co54, eo54⟩ := Kd.R_slice HO_5.out
                                                                subst eo54
                                                                have p135 : 0 ≤ ((rd (rd_L1 t122 (rd y125 x57_4)) x66_5) : Int) := of_decide_eq_true (by first | (with_reducible assumption) | assumption)
                                                                have q135 : (rd (rd_L1 t122 (rd y125 x57_4)) x66_5) < (x5_4.length : Int) := of_decide_eq_true (by first | (with_reducible assumption) | assumption)
                                                                obtain ⟨ad135, e135, hx135_0⟩ := Kd.at_int (Kd.R_reads' HO_5.out).2.2 (rd (rd_L1 t122 (rd y125 x57_4)) x66_5) p135 q135
                                                                cases e135
                                                                replace p135 := eq_true p135
                                                                replace q135 := eq_true q135
                                                                go_wp2
                                                                go_meet
                                                                case rel => exact ⟨_, (decide ((rd x5_4 (rd (rd_L1 t122 (rd y125 x57_4)) x66_5)) < 0)), (by first | rfl | (simp; done) | (simp [*]; done)), H', ⟨by have := HK1.out; have := HK2.out; have := HK3.out; have := HK4.out; have := HK5.out; first | omega | exact Nat.le_refl _⟩, ⟨by (with_reducible repeat (first | apply Kd.R_alloc | apply Kd.R_drewN | apply Kd.R_drew)); exact HO_3.out⟩, ⟨by (with_reducible repeat (first | apply Kd.R_alloc | apply Kd.R_drewN | apply Kd.R_drew)); exact HO_4.out⟩, ⟨by (with_reducible repeat (first | apply Kd.R_alloc | apply Kd.R_drewN | apply Kd.R_drew)); exact HO_5.out⟩, ⟨by (with_reducible repeat (first | apply Kd.S_alloc | apply Kd.S_drewN | apply Kd.S_drew)); exact HO_9.out⟩, ⟨by repeat (first | (with_reducible exact HR128.out) | (with_reducible refine Kd.C_alloc ?_ _) | (with_reducible refine Kd.C_drewN ?_ _) | (with_reducible refine Kd.C_drew ?_) | exact HR128.out)⟩, ⟨by repeat (first | (with_reducible exact HR130_0.out) | (with_reducible refine Kd.C_alloc ?_ _) | (with_reducible refine Kd.C_drewN ?_ _) | (with_reducible refine Kd.C_drew ?_) | exact HR130_0.out)⟩, ⟨by repeat (first | (with_reducible first | exact HB.out | apply below_alloc | apply pw_below_drewN | apply below_drew1) | exact HB.out)⟩⟩
                                                              · rw [if_neg c52] at H
                                                                exact absurd H (by simp)
                                                        · rw [if_neg c47] at H
                                                          exact absurd H (by simp)
                                                      · rw [if_neg c46] at H
                                                        exact absurd H (by simp)
                                                    case rest =>
                                                      clear HC45
                                                      try clear c1
                                                      try clear p1
                                                      try clear q1
                                                      try clear hx1
                                                      try clear hf1
                                                      try clear c2
                                                      try clear p2
                                                      try clear q2
                                                      try clear hx2
                                                      try clear hf2
                                                      try clear c3
                                                      try clear c3b0
                                                      try clear c3b1
                                                      try clear q3
                                                      try clear c4
                                                      try clear c4b0
                                                      try clear c4b1
                                                      try clear c5
                                                      try clear p6
                                                      try clear c10
                                                      try clear c10b0
                                                      try clear c11
                                                      try clear c11b0
                                                      try clear c12
                                                      try clear c12b0
                                                      try clear p12
                                                      try clear q12
                                                      try clear hx12
                                                      try clear c13
                                                      try clear p13
                                                      try clear q13
                                                      try clear hx13
                                                      try clear hf13
                                                      try clear c14
                                                      try clear c14b0
                                                      try clear p15
                                                      try clear q15
                                                      try clear hx15
                                                      try clear hf15
                                                      try clear c21
                                                      try clear c21b0
                                                      try clear c22
                                                      try clear c22b0
                                                      try clear c23
                                                      try clear c23b0
                                                      try clear c24
                                                      try clear c24b0
                                                      try clear c25
                                                      try clear c25b0
                                                      try clear c26
                                                      try clear p26
                                                      try clear q26
                                                      try clear hx26
                                                      try clear hf26
                                                      try clear c30
                                                      try clear c31
                                                      try clear c33
                                                      try clear c33b0
                                                      try clear c33b1
                                                      try clear c34
                                                      try clear c34b0
                                                      try clear c34b1
                                                      try clear c35
                                                      try clear q35
                                                      try clear c36
                                                      try clear c36b0
                                                      try clear c37
                                                      try clear c37b0
                                                      try clear c38
                                                      try clear c38b0
                                                      try clear c39
                                                      try clear c39b0
                                                      try clear c40
                                                      try clear c40b0
                                                      try clear c42
                                                      try clear c42b0
                                                      try clear c43
                                                      try clear c43b0
                                                      try clear c44
                                                      try clear c44b0
                                                      try clear c46
                                                      try clear c46b0
                                                      try clear c47
                                                      try clear c47b0
                                                      try clear c48
                                                      try clear c48b0
                                                      try clear c50
                                                      try clear c50b0
                                                      try clear c50b1
                                                      try clear c52
                                                      try clear c52b0
                                                      try clear hx120_0
                                                      try clear hx129_0
                                                      try clear hx130_0
                                                      try clear hx133_0
                                                      try clear hx134_0
                                                      try clear hx135_0
                                                      try clear hx13_0
                                                      try clear hx15_0
                                                      try clear hx26_0
                                                      try clear p1
                                                      try clear p12
                                                      try clear p120
                                                      try clear p129
                                                      try clear p13
                                                      try clear p130
                                                      try clear p133
                                                      try clear p134
                                                      try clear p135
                                                      try clear p15
                                                      try clear p2
                                                      try clear p26
                                                      try clear p6
                                                      try clear q035
                                                      try clear q1
                                                      try clear q12
                                                      try clear q120
                                                      try clear q129
                                                      try clear q13
                                                      try clear q130
                                                      try clear q133
                                                      try clear q134
                                                      try clear q135
                                                      try clear q15
                                                      try clear q2
                                                      try clear q26
                                                      try clear q3
                                                      try clear q35
                                                      obtain ⟨kq, x85_44, rfl, HA, HJ44, HO_3, HO_4, HO_5, HO_9, HR128, HR130_0, HB⟩ := hcut
                                                      cases kq with
                                                      | zero => exact absurd HA.out (by simp [graph_Idom.j5])
                                                      | succ kj44 =>
                                                        have H := HA.out
                                                        clear HA
                                                        simp only [graph_Idom.j5] at H
                                                        by_cases c55 : x85_44 = true
                                                        · subst c55
                                                          have H1 : (graph_Idom.l4 kj44 t109 x4_2 x5_4 t122 x10_4 (rd y125 x57_4) x13_5 y125 (y125.length : Int) x57_4 (rd_L1 t122 (rd y125 x57_4)) ((rd_L1 t122 (rd y125 x57_4)).length : Int) (wrap64 (x66_5 + 1))) = some r := by rw [if_pos rfl] at H; exact H
                                                          clear H
                                                          have H := H1
                                                          clear H1
                                                          have H' := Aside0.mk H
                                                          clear H
                                                          go_wp2
                                                          go_roundg kj44
                                                          case measure => have := HK1.out; have := HK2.out; have := HK3.out; have := HK4.out; have := HK5.out; have := HJ44.out; omega
                                                          case rel => exact ⟨(x13_5), (wrap64 (x66_5 + 1)), (by first | rfl | (simp; done) | (simp [*]; done)), (by first | rfl | (simp; done) | (simp [*]; done)), H', ⟨by have := HK1.out; have := HK2.out; have := HK3.out; have := HK4.out; have := HK5.out; have := HJ44.out; omega⟩, ⟨by (with_reducible repeat (first | apply Kd.R_alloc | apply Kd.R_drewN | apply Kd.R_drew)); exact HO_3.out⟩, ⟨by (with_reducible repeat (first | apply Kd.R_alloc | apply Kd.R_drewN | apply Kd.R_drew)); exact HO_4.out⟩, ⟨by (with_reducible repeat (first | apply Kd.R_alloc | apply Kd.R_drewN | apply Kd.R_drew)); exact HO_5.out⟩, ⟨by (with_reducible repeat (first | apply Kd.S_alloc | apply Kd.S_drewN | apply Kd.S_drew)); exact HO_9.out⟩, ⟨by repeat (first | (with_reducible exact HR128.out) | (with_reducible refine Kd.C_alloc ?_ _) | (with_reducible refine Kd.C_drewN ?_ _) | (with_reducible refine Kd.C_drew ?_) | exact HR128.out)⟩, ⟨by repeat (first | (with_reducible exact HR130_0.out) | (with_reducible refine Kd.C_alloc ?_ _) | (with_reducible refine Kd.C_drewN ?_ _) | (with_reducible refine Kd.C_drew ?_) | exact HR130_0.out)⟩, ⟨by repeat (first | (with_reducible first | exact HB.out | apply below_alloc | apply pw_below_drewN | apply below_drew1) | exact HB.out)⟩⟩
                                                        · replace c55 := Bool.eq_false_iff.mpr c55
                                                          subst c55
                                                          have H1 : (if x13_5 < 0 then (graph_Idom.l4 kj44 t109 x4_2 x5_4 t122 x10_4 (rd y125 x57_4) (rd (rd_L1 t122 (rd y125 x57_4)) x66_5) y125 (y125.length : Int) x57_4 (rd_L1 t122 (rd y125 x57_4)) ((rd_L1 t122 (rd y125 x57_4)).length : Int) (wrap64 (x66_5 + 1))) else ((graph_common.f kj44 x5_4 x4_2 x13_5 (rd (rd_L1 t122 (rd y125 x57_4)) x66_5)).bind fun t136 => (graph_Idom.l4 kj44 t109 x4_2 x5_4 t122 x10_4 (rd y125 x57_4) t136 y125 (y125.length : Int) x57_4 (rd_L1 t122 (rd y125 x57_4)) ((rd_L1 t122 (rd y125 x57_4)).length : Int) (wrap64 (x66_5 + 1))))) = some r := by rw [if_neg (show ¬ (false = true) by decide)] at H; exact H
                                                          clear H
                                                          have H := H1
                                                          clear H1
                                                          by_cases c56 : x13_5 < 0
                                                          · rw [if_pos c56] at H
                                                            have c56b0 : decide (x13_5 < 0) = true := decide_eq_true c56
                                                            clear c56
                                                            have H' := Aside0.mk H
                                                            clear H
                                                            go_wp2
                                                            go_roundg kj44
                                                            case measure => have := HK1.out; have := HK2.out; have := HK3.out; have := HK4.out; have := HK5.out; have := HJ44.out; omega
                                                            case rel => exact ⟨((rd (rd_L1 t122 (rd y125 x57_4)) x66_5)), (wrap64 (x66_5 + 1)), (by first | rfl | (simp; done) | (simp [*]; done)), (by first | rfl | (simp; done) | (simp [*]; done)), H', ⟨by have := HK1.out; have := HK2.out; have := HK3.out; have := HK4.out; have := HK5.out; have := HJ44.out; omega⟩, ⟨by (with_reducible repeat (first | apply Kd.R_alloc | apply Kd.R_drewN | apply Kd.R_drew)); exact HO_3.out⟩, ⟨by (with_reducible repeat (first | apply Kd.R_alloc | apply Kd.R_drewN | apply Kd.R_drew)); exact HO_4.out⟩, ⟨by (with_reducible repeat (first | apply Kd.R_alloc | apply Kd.R_drewN | apply Kd.R_drew)); exact HO_5.out⟩, ⟨by (with_reducible repeat (first | apply Kd.S_alloc | apply Kd.S_drewN | apply Kd.S_drew)); exact HO_9.out⟩, ⟨by repeat (first | (with_reducible exact HR128.out) | (with_reducible refine Kd.C_alloc ?_ _) | (with_reducible refine Kd.C_drewN ?_ _) | (with_reducible refine Kd.C_drew ?_) | exact HR128.out)⟩, ⟨by repeat (first | (with_reducible exact HR130_0.out) | (with_reducible refine Kd.C_alloc ?_ _) | (with_reducible refine Kd.C_drewN ?_ _) | (with_reducible refine Kd.C_drew ?_) | exact HR130_0.out)⟩, ⟨by repeat (first | (with_reducible first | exact HB.out | apply below_alloc | apply pw_below_drewN | apply below_drew1) | exact HB.out)⟩⟩
                                                          · rw [if_neg c56] at H
                                                            have c56b0 : decide (x13_5 < 0) = false := decide_eq_false c56
                                                            clear c56
                                                            replace H := Option.bind_eq_some_iff.mp H
                                                            obtain ⟨t136, A570, H⟩ := H
                                                            replace H : (graph_Idom.l4 kj44 t109 x4_2 x5_4 t122 x10_4 (rd y125 x57_4) t136 y125 (y125.length : Int) x57_4 (rd_L1 t122 (rd y125 x57_4)) ((rd_L1 t122 (rd y125 x57_4)).length : Int) (wrap64 (x66_5 + 1))) = some r := H
                                                            have A57 := Aside0.mk A570
                                                            clear A570
                                                            have H' := Aside0.mk H
                                                            clear H
                                                            obtain ⟨Ao58, co58, eo58⟩ := Kd.R_slice HO_5.out
                                                            subst eo58
                                                            obtain ⟨Ao59, co59, eo59⟩ := Kd.R_slice HO_4.out
                                                            subst eo59
                                                            go_wp2_with (first | ((with_reducible refine gate_callee (f := 73) rfl ?_); refine goesL_ (some 93) rfl rfl Try.func73 (by kernel_rfl) rfl #[.slice Ao58 x5_4.length co58, .slice Ao59 x4_2.length co59, .int .i64 x13_5, .int .i64 (rd (rd_L1 t122 (rd y125 x57_4)) x66_5)] rfl (by (try simp only [List.map_toArray, List.map_cons, List.map_nil]); first | done | rfl | (simp only [List.length_drop, List.length_take]; rfl)) ?_; (with_reducible refine (graph_common.calls kj44 _ _ x5_4 _ _ x4_2 x13_5 (rd (rd_L1 t122 (rd y125 x57_4)) x66_5) t136 _ ?side1 ?side2 ?side3 ?side4 A57.out).mono ?_); (case side1 => repeat (first | exact (Kd.R_reads' HO_5.out).2.2 | (with_reducible refine Kd.C_alloc ?_ _) | (with_reducible refine Kd.C_drewN ?_ _) | (with_reducible refine Kd.C_drew ?_))); (case side2 => exact (Kd.R_reads' HO_5.out).2.1); (case side3 => repeat (first | exact (Kd.R_reads' HO_4.out).2.2 | (with_reducible refine Kd.C_alloc ?_ _) | (with_reducible refine Kd.C_drewN ?_ _) | (with_reducible refine Kd.C_drew ?_))); (case side4 => exact (Kd.R_reads' HO_4.out).2.1); rintro e w' ⟨rfl, ⟨nd, rfl⟩⟩; refine ⟨_, rfl, ?_⟩))
                                                            go_roundg kj44
                                                            case measure => have := HK1.out; have := HK2.out; have := HK3.out; have := HK4.out; have := HK5.out; have := HJ44.out; omega
                                                            case rel => exact ⟨(t136), (wrap64 (x66_5 + 1)), (by first | rfl | (simp; done) | (simp [*]; done)), (by first | rfl | (simp; done) | (simp [*]; done)), H', ⟨by have := HK1.out; have := HK2.out; have := HK3.out; have := HK4.out; have := HK5.out; have := HJ44.out; omega⟩, ⟨by (with_reducible repeat (first | apply Kd.R_alloc | apply Kd.R_drewN | apply Kd.R_drew)); exact HO_3.out⟩, ⟨by (with_reducible repeat (first | apply Kd.R_alloc | apply Kd.R_drewN | apply Kd.R_drew)); exact HO_4.out⟩, ⟨by (with_reducible repeat (first | apply Kd.R_alloc | apply Kd.R_drewN | apply Kd.R_drew)); exact HO_5.out⟩, ⟨by (with_reducible repeat (first | apply Kd.S_alloc | apply Kd.S_drewN | apply Kd.S_drew)); exact HO_9.out⟩, ⟨by repeat (first | (with_reducible exact HR128.out) | (with_reducible refine Kd.C_alloc ?_ _) | (with_reducible refine Kd.C_drewN ?_ _) | (with_reducible refine Kd.C_drew ?_) | exact HR128.out)⟩, ⟨by repeat (first | (with_reducible exact HR130_0.out) | (with_reducible refine Kd.C_alloc ?_ _) | (with_reducible refine Kd.C_drewN ?_ _) | (with_reducible refine Kd.C_drew ?_) | exact HR130_0.out)⟩, ⟨by repeat (first | (with_reducible first | exact HB.out | apply below_alloc | apply pw_below_drewN | apply below_drew1) | exact HB.out)⟩⟩
                                                  · rw [if_neg c44] at H
                                                    exact absurd H (by simp)
                                                · rw [if_neg c43] at H
                                                  exact absurd H (by simp)
                                              · rw [if_neg c42] at H
                                                have c42b0 : decide (x66_5 < ((rd_L1 t122 (rd y125 x57_4)).length : Int)) = false := decide_eq_false c42
                                                clear c42
                                                by_cases c60 : 0 ≤ (rd y125 x57_4)
                                                · rw [if_pos c60] at H
                                                  have c60b0 : decide (0 ≤ (rd y125 x57_4)) = true := decide_eq_true c60
                                                  clear c60
                                                  by_cases c61 : (rd y125 x57_4) < (x5_4.length : Int)
                                                  · rw [if_pos c61] at H
                                                    have c61b0 : decide ((rd y125 x57_4) < (x5_4.length : Int)) = true := decide_eq_true c61
                                                    clear c61
                                                    by_cases c62 : (rd x5_4 (rd y125 x57_4)) = x13_5
                                                    · rw [if_pos c62] at H
                                                      have c62b0 : ((rd x5_4 (rd y125 x57_4)) == x13_5) = true := beq_iff_eq.mpr c62
                                                      have c62b1 : ((rd x5_4 (rd y125 x57_4)) != x13_5) = false := bne_eq_false_iff_eq.mpr c62
                                                      clear c62
                                                      have H' := Aside0.mk H
                                                      clear H
                                                      obtain ⟨Ao63, co63, eo63⟩ := Kd.R_slice HO_5.out
                                                      subst eo63
                                                      have p131 : 0 ≤ ((rd y125 x57_4) : Int) := of_decide_eq_true (by first | (with_reducible assumption) | assumption)
                                                      have q131 : (rd y125 x57_4) < (x5_4.length : Int) := of_decide_eq_true (by first | (with_reducible assumption) | assumption)
                                                      obtain ⟨ad131, e131, hx131_0⟩ := Kd.at_int (Kd.R_reads' HO_5.out).2.2 (rd y125 x57_4) p131 q131
                                                      cases e131
                                                      replace p131 := eq_true p131
                                                      replace q131 := eq_true q131
                                                      go_wp2
                                                      go_roundg k5
                                                      case measure => have := HK1.out; have := HK2.out; have := HK3.out; have := HK4.out; have := HK5.out; omega
                                                      case rel => exact ⟨(x5_4), (x10_4), (wrap64 (x57_4 + 1)), (by first | rfl | (simp; done) | (simp [*]; done)), (by first | rfl | (simp; done) | (simp [*]; done)), H', ⟨by have := HK1.out; have := HK2.out; have := HK3.out; have := HK4.out; have := HK5.out; omega⟩, ⟨by (with_reducible repeat (first | apply Kd.R_alloc | apply Kd.R_drewN | apply Kd.R_drew)); exact HO_3.out⟩, ⟨by (with_reducible repeat (first | apply Kd.R_alloc | apply Kd.R_drewN | apply Kd.R_drew)); exact HO_4.out⟩, ⟨by (with_reducible repeat (first | apply Kd.R_alloc | apply Kd.R_drewN | apply Kd.R_drew)); exact HO_5.out⟩, ⟨by (with_reducible repeat (first | apply Kd.S_alloc | apply Kd.S_drewN | apply Kd.S_drew)); exact HO_9.out⟩, ⟨by repeat (first | (with_reducible exact HR128.out) | (with_reducible refine Kd.C_alloc ?_ _) | (with_reducible refine Kd.C_drewN ?_ _) | (with_reducible refine Kd.C_drew ?_) | exact HR128.out)⟩, ⟨by repeat (first | (with_reducible first | exact HB.out | apply below_alloc | apply pw_below_drewN | apply below_drew1) | exact HB.out)⟩⟩
                                                    · rw [if_neg c62] at H
                                                      have c62b0 : ((rd x5_4 (rd y125 x57_4)) == x13_5) = false := beq_eq_false_iff_ne.mpr c62
                                                      have c62b1 : ((rd x5_4 (rd y125 x57_4)) != x13_5) = true := bne_iff_ne.mpr c62
                                                      obtain ⟨y132, hy132⟩ : ∃ y_ : List Int, y_ = (x5_4.set ((rd y125 x57_4) : Int).toNat x13_5) := ⟨_, rfl⟩
                                                      replace H : (graph_Idom.l3 k5 t109 x4_2 y132 t122 true y125 (y125.length : Int) (wrap64 (x57_4 + 1))) = some r := by first | (rw [hy132]; with_reducible exact H) | (have H2_ := (Option.bind_some _ _).symm.trans H; rw [hy132]; with_reducible exact H2_) | (have H2_ := (Option.bind_some _ _).symm.trans H; with_reducible exact H2_) | with_reducible exact H | (rw [hy132]; exact H) | exact H
                                                      have Ny132 := Aside0.mk hy132
                                                      clear hy132
                                                      have H' := Aside0.mk H
                                                      clear H
                                                      obtain ⟨Ao65, co65, eo65⟩ := Kd.R_slice HO_5.out
                                                      subst eo65
                                                      have p131 : 0 ≤ ((rd y125 x57_4) : Int) := of_decide_eq_true (by first | (with_reducible assumption) | assumption)
                                                      have q131 : (rd y125 x57_4) < (x5_4.length : Int) := of_decide_eq_true (by first | (with_reducible assumption) | assumption)
                                                      obtain ⟨ad131, e131, hx131_0⟩ := Kd.at_int (Kd.R_reads' HO_5.out).2.2 (rd y125 x57_4) p131 q131
                                                      cases e131
                                                      replace p131 := eq_true p131
                                                      replace q131 := eq_true q131
                                                      have p64 : 0 ≤ ((rd y125 x57_4) : Int) := of_decide_eq_true (by first | (with_reducible assumption) | assumption)
                                                      have q64 : ((rd y125 x57_4) : Int) < ((x5_4.length : Int) : Int) := of_decide_eq_true (by first | (with_reducible assumption) | assumption)
                                                      obtain ⟨go64, co64, eo64, gb64, gl64, cl64, HG64⟩ := Kd.R_form HO_5.out (by omega)
                                                      (first | cases eo64 | (injection eo64 with ea_ en_ ec_; (first | subst ea_ | (injection ea_ with ea_; subst ea_)); subst ec_; clear en_))
                                                      have GB64 := Aside0.mk gb64
                                                      have GG64 := Aside0.mk HG64
                                                      clear gb64 gl64 HG64
                                                      (first | simp only [add_plain] at hx131_0 | skip)
                                                      obtain ⟨hx64_0, hf64_0⟩ := Kd.R_celln 0 HO_5.out ((rd y125 x57_4) : Int) p64 q64
                                                      replace p64 := eq_true p64
                                                      replace q64 := eq_true q64
                                                      have HP66 := Kd.R_putg HO_5.out ((rd y125 x57_4) : Int) x13_5
                                                      go_wp2_with (first | ((with_reducible refine gate_store (t := 3) (p := 104) rfl ?_); refine store_event (t := 3) (p := 104) (v := ?vo_w67) (w1 := (wr.setCell ⟨go64, ((rd y125 x57_4) : Int).toNat, none⟩ (.int .i64 x13_5))) ?hg ?ho ?hn ?hr ?_; (case ho => rfl); (case hg => rfl); (case hn => rfl); (case hr => first | (go_simp; done) | (go_simp; rfl)); intro w67 hw; have hg : wr.grownBy w67 (some go64) := (by rw [hw]; exact HP66.2); have hp_ : Kd.R (Kd.int .i64) 3 w67 w.heap.size (fun k_ => some k_ ≠ (.slice Ao20 t109.length co20 : Value).ownBlock ∧ some k_ ≠ (v113 : Value).ownBlock) (.slice (some ⟨go64, 0, none⟩) x5_4.length co65) y132 := (by rw [hw, Ny132.out]; exact HP66.1); clear HP66; have n0_ := Aside0.mk (Kd.R_after (v := (.slice (some ⟨go64, 0, none⟩) x5_4.length co65)) (v1 := (.slice (some ⟨go64, 0, none⟩) x5_4.length co65)) (ok := (fun k_ => some k_ ≠ (v113 : Value).ownBlock)) (by (with_reducible repeat (first | apply Kd.R_alloc | apply Kd.R_drewN | apply Kd.R_drew)); exact HO_3.out) hg (.inl rfl)); have n1_ := Aside0.mk (Kd.R_after (v := (.slice (some ⟨go64, 0, none⟩) x5_4.length co65)) (v1 := (.slice (some ⟨go64, 0, none⟩) x5_4.length co65)) (ok := (fun k_ => some k_ ≠ (.slice Ao20 t109.length co20 : Value).ownBlock)) (by (with_reducible repeat (first | apply Kd.R_alloc | apply Kd.R_drewN | apply Kd.R_drew)); exact HO_4.out) hg (.inl rfl)); have n2_ := Aside0.mk (hp_); have n3_ := Aside0.mk (Kd.S_after (v := (.slice (some ⟨go64, 0, none⟩) x5_4.length co65)) (v1 := (.slice (some ⟨go64, 0, none⟩) x5_4.length co65)) (ok := (fun k_ => some k_ ≠ (.slice Ao20 t109.length co20 : Value).ownBlock ∧ some k_ ≠ (v113 : Value).ownBlock)) (by (with_reducible repeat (first | apply Kd.S_alloc | apply Kd.S_drewN | apply Kd.S_drew)); exact Kd.S_mono HO_9.out (fun _ hk => ⟨⟨hk.1, hk.2.1⟩, hk.2.2⟩)) hg (.inl rfl)); have n4_ := Aside0.mk ((by rw [hw]; exact below_set (HB.out) GB64.out : Below w.heap.size w w67)); have n5_ := Aside0.mk ((show Kd.C (Kd.int .i64) w67 (some ad129) y125.length y125 from by rw [Ny125.out, KA35.out]; exact Kd.C_drop (m := ((ji32) : Int).toNat) (c := co20) ((Kd.R_reads' (Kd.R_after (v := (.slice (some ⟨go64, 0, none⟩) x5_4.length co65)) (v1 := (.slice (some ⟨go64, 0, none⟩) x5_4.length co65)) (ok := (fun k_ => some k_ ≠ (v113 : Value).ownBlock)) (by (with_reducible repeat (first | apply Kd.R_alloc | apply Kd.R_drewN | apply Kd.R_drew)); exact HO_3.out) hg (.inl rfl))).2.2) KL35.out ((Kd.R_reads' (Kd.R_after (v := (.slice (some ⟨go64, 0, none⟩) x5_4.length co65)) (v1 := (.slice (some ⟨go64, 0, none⟩) x5_4.length co65)) (ok := (fun k_ => some k_ ≠ (v113 : Value).ownBlock)) (by (with_reducible repeat (first | apply Kd.R_alloc | apply Kd.R_drewN | apply Kd.R_drew)); exact HO_3.out) hg (.inl rfl))).2.1))); clear HO_3; clear HO_4; clear HO_5; clear HO_9; clear HB; clear HR128; have HO_3 := n0_; have HO_4 := n1_; have HO_5 := n2_; have HO_9 := n3_; have HB := n4_; have HR128 := n5_; clear n0_ n1_ n2_ n3_ n4_ n5_; clear hg hw hp_))
                                                      go_roundg k5
                                                      case measure => have := HK1.out; have := HK2.out; have := HK3.out; have := HK4.out; have := HK5.out; omega
                                                      case rel => exact ⟨(y132), (true), (wrap64 (x57_4 + 1)), (by first | rfl | (simp; done) | (simp [*]; done)), (by first | rfl | (simp; done) | (simp [*]; done)), H', ⟨by have := HK1.out; have := HK2.out; have := HK3.out; have := HK4.out; have := HK5.out; omega⟩, ⟨by (with_reducible repeat (first | apply Kd.R_alloc | apply Kd.R_drewN | apply Kd.R_drew)); exact HO_3.out⟩, ⟨by (with_reducible repeat (first | apply Kd.R_alloc | apply Kd.R_drewN | apply Kd.R_drew)); exact HO_4.out⟩, ⟨by (with_reducible repeat (first | apply Kd.R_alloc | apply Kd.R_drewN | apply Kd.R_drew)); exact HO_5.out⟩, ⟨by (with_reducible repeat (first | apply Kd.S_alloc | apply Kd.S_drewN | apply Kd.S_drew)); exact Kd.S_mono HO_9.out (fun _ hk => ⟨hk.1.1, ⟨hk.1.2, hk.2⟩⟩)⟩, ⟨by repeat (first | (with_reducible exact HR128.out) | (with_reducible refine Kd.C_alloc ?_ _) | (with_reducible refine Kd.C_drewN ?_ _) | (with_reducible refine Kd.C_drew ?_) | exact HR128.out)⟩, ⟨by repeat (first | (with_reducible first | exact HB.out | apply below_alloc | apply pw_below_drewN | apply below_drew1) | exact HB.out)⟩⟩
                                                  · rw [if_neg c61] at H
                                                    exact absurd H (by simp)
                                                · rw [if_neg c60] at H
                                                  exact absurd H (by simp)
                                        · rw [if_neg c40] at H
                                          exact absurd H (by simp)
                                      · rw [if_neg c39] at H
                                        exact absurd H (by simp)
                                    · rw [if_neg c38] at H
                                      exact absurd H (by simp)
                                  · rw [if_neg c37] at H
                                    exact absurd H (by simp)
                                · rw [if_neg c36] at H
                                  have c36b0 : decide (x57_4 < (y125.length : Int)) = false := decide_eq_false c36
                                  clear c36
                                  have H' := Aside0.mk H
                                  clear H
                                  go_wp2
                                  go_roundg k4
                                  case measure => have := HK1.out; have := HK2.out; have := HK3.out; have := HK4.out; omega
                                  case rel => exact ⟨(x5_4), (x10_4), (by first | rfl | (simp; done) | (simp [*]; done)), H', ⟨by have := HK1.out; have := HK2.out; have := HK3.out; have := HK4.out; omega⟩, ⟨by (with_reducible repeat (first | apply Kd.R_alloc | apply Kd.R_drewN | apply Kd.R_drew)); exact HO_3.out⟩, ⟨by (with_reducible repeat (first | apply Kd.R_alloc | apply Kd.R_drewN | apply Kd.R_drew)); exact HO_4.out⟩, ⟨by (with_reducible repeat (first | apply Kd.R_alloc | apply Kd.R_drewN | apply Kd.R_drew)); exact HO_5.out⟩, ⟨by (with_reducible repeat (first | apply Kd.S_alloc | apply Kd.S_drewN | apply Kd.S_drew)); exact HO_9.out⟩, ⟨by repeat (first | (with_reducible first | exact HB.out | apply below_alloc | apply pw_below_drewN | apply below_drew1) | exact HB.out)⟩⟩
                          · rw [if_neg c34] at H
                            exact absurd H (by simp)
                        · rw [if_neg c33] at H
                          exact absurd H (by simp)
                      · replace c31 := Bool.eq_false_iff.mpr c31
                        subst c31
                        have H1 : (some x5_3) = some r := by rw [if_neg (show ¬ (false = true) by decide)] at H; exact H
                        clear H
                        have H := H1
                        clear H1
                        obtain rfl := Option.some.inj H
                        go_wp2
                        go_ret
                        exact ⟨_, by first | rfl | (simp [errW_none, errW_some] <;> rfl) | (simp [*, errW_none, errW_some] <;> rfl), by (with_reducible repeat (first | apply Kd.R_alloc | apply Kd.R_drewN | apply Kd.R_drew)); exact Kd.R_mono HO_5.out (fun _ hk => trivial), by repeat (first | (with_reducible first | exact HB.out | apply below_alloc | apply pw_below_drewN | apply below_drew1) | exact HB.out)⟩
    · rw [if_neg c4] at H
      exact absurd H (by simp)
  · rw [if_neg c3] at H
    exact absurd H (by simp)

end Go.Proofs.Ytnmeomdjhjgnfaa.X
