/- Parts of the proof of GraphPut: X25, Pdfs, Pord, Pidom. -/
import Derived.Test.YtnmeomdjhjgnfaaB1
import Derived.Test.YtnmeomdjhjgnfaaB2
section
-- written by a driver of this session (wip/xprint.py) over the kit's print, for this claim; Lean checks it
namespace Go.Proofs.Ytnmeomdjhjgnfaa.X
open Go.RowKit Go.Proofs.YtnmeomdjhjgnfaaW.PrintWords Go.Proofs.YtnmeomdjhjgnfaaW.PrintLast Go.Proofs.YtnmeomdjhjgnfaaW.PrintMore
attribute [local go_sem] max2_int min2_int max_two min_two max_three min_three max_four min_four   -- for this text's walks alone
set_option linter.unusedVariables false
set_option linter.unusedSimpArgs false

/-! ### jacquardlaw02_GraphPut: function 11 -/
mutual
def jacquardlaw02_GraphPut.l0 : Nat → Bool → List (List Int) → Int → Int → Int → List (List Int) → Int → Option (Bool)
  | 0, _, _, _, _, _, _, _ => none
  | k + 1, x5, x6, x7, x8, x9, x10, x11 => if x11 < x9 then (jacquardlaw02_GraphPut.l1 k x5 x6 x7 x8 x9 x10 x11 ([] : List Int) 0) else (if x10.length < 5864062014805 then ((some (x10 ++ [(([x8] : List Int))] : List (List Int))).bind fun y462 => ((graph_Idom.f k x6).bind fun t465 => ((graph_Idom.f k y462).bind fun t468 => (if (t468.length : Int) = (wrap64 (x9 + 1)) then (jacquardlaw02_GraphPut.j2 k x5 x6 x9 y462 t465 t468 ((t465.length : Int) != x9)) else (jacquardlaw02_GraphPut.j2 k x5 x6 x9 y462 t465 t468 true))))) else (none))
def jacquardlaw02_GraphPut.l1 : Nat → Bool → List (List Int) → Int → Int → Int → List (List Int) → Int → List Int → Int → Option (Bool)
  | 0, _, _, _, _, _, _, _, _, _ => none
  | k + 1, x5, x6, x7, x8, x9, x10, x11, x12, x13 => if 0 ≤ x11 then (if x11 < (x6.length : Int) then (if x13 < ((rd_L1 x6 x11).length : Int) then (if x11 = x7 then (if 0 ≤ x13 then (if (rd (rd_L1 x6 x11) x13) = x8 then (if x12.length < 17592186044416 then (jacquardlaw02_GraphPut.l1 k x5 x6 x7 x8 x9 x10 x11 (x12 ++ [x9]) (wrap64 (x13 + 1))) else (none)) else (if x12.length < 17592186044416 then (jacquardlaw02_GraphPut.l1 k x5 x6 x7 x8 x9 x10 x11 (x12 ++ [rd (rd_L1 x6 x11) x13]) (wrap64 (x13 + 1))) else (none))) else (none)) else (if 0 ≤ x13 then (if x12.length < 17592186044416 then (jacquardlaw02_GraphPut.l1 k x5 x6 x7 x8 x9 x10 x11 (x12 ++ [rd (rd_L1 x6 x11) x13]) (wrap64 (x13 + 1))) else (none)) else (none))) else (if x10.length < 5864062014805 then (jacquardlaw02_GraphPut.l0 k x5 x6 x7 x8 x9 (x10 ++ [x12]) (wrap64 (x11 + 1))) else (none))) else (none)) else (none)
def jacquardlaw02_GraphPut.j2 : Nat → Bool → List (List Int) → Int → List (List Int) → List Int → List Int → Bool → Option (Bool)
  | 0, _, _, _, _, _, _, _ => none
  | k + 1, x5, x6, x9, x10, x14, x15, x116 => if x116 = true then (some false) else (jacquardlaw02_GraphPut.l2 k x5 x6 x9 x10 x14 x15 0)
def jacquardlaw02_GraphPut.l2 : Nat → Bool → List (List Int) → Int → List (List Int) → List Int → List Int → Int → Option (Bool)
  | 0, _, _, _, _, _, _, _ => none
  | k + 1, x5, x6, x9, x10, x14, x15, x16 => if x16 < x9 then (jacquardlaw02_GraphPut.l3 k x5 x6 x9 x10 x14 x15 x16 0) else ((graph_Critical.f x10).bind fun t473 => (jacquardlaw02_GraphPut.l4 k x5 x6 x9 x10 t473 0))
def jacquardlaw02_GraphPut.l3 : Nat → Bool → List (List Int) → Int → List (List Int) → List Int → List Int → Int → Int → Option (Bool)
  | 0, _, _, _, _, _, _, _, _ => none
  | k + 1, x5, x6, x9, x10, x14, x15, x16, x17 => if x17 < x9 then ((graph_Dominates.f x14 x16 x17).bind fun t471 => ((graph_Dominates.f x15 x16 x17).bind fun t472 => (if (t471 != t472) = true then (some false) else (jacquardlaw02_GraphPut.l3 k x5 x6 x9 x10 x14 x15 x16 (wrap64 (x17 + 1)))))) else (jacquardlaw02_GraphPut.l2 k x5 x6 x9 x10 x14 x15 (wrap64 (x16 + 1)))
def jacquardlaw02_GraphPut.l4 : Nat → Bool → List (List Int) → Int → List (List Int) → List (S73) → Int → Option (Bool)
  | 0, _, _, _, _, _, _ => none
  | k + 1, x5, x6, x9, x10, x18, x19 => if x19 < (x18.length : Int) then (if 0 ≤ x19 then (if ((rd_T73 x18 x19).f0) = x9 then (some false) else (if ((rd_T73 x18 x19).f1) = x9 then (some false) else (jacquardlaw02_GraphPut.l4 k x5 x6 x9 x10 x18 (wrap64 (x19 + 1))))) else (none)) else (if x5 = true then ((graph_Reducible.f k x6).bind fun t478 => ((graph_Reducible.f k x10).bind fun t479 => (some (t478 == t479)))) else (some false))
end
def jacquardlaw02_GraphPut.f (k : Nat) (l0 : List Int) (a1_0 : Int) (a1_1 : Int) : Option (Bool) := (jacquardlaw02_awake.f).bind fun t430 => ((jacquardref02_Made.f k l0).bind fun t431 => ((jacquardlaw02_rest.f a1_0 (t431.length : Int)).bind fun t434 => (if 0 ≤ t434 then (if t434 < (t431.length : Int) then (if ((rd_L1 t431 t434).length : Int) = 0 then (some t430) else ((jacquardlaw02_rest.f a1_1 ((rd_L1 t431 t434).length : Int)).bind fun t438 => (if 0 ≤ t438 then (if t438 < ((rd_L1 t431 t434).length : Int) then (jacquardlaw02_GraphPut.l0 k t430 t431 t434 (rd (rd_L1 t431 t434) t438) (t431.length : Int) ([] : List (List Int)) 0) else (none)) else (none)))) else (none)) else (none))))
theorem jacquardlaw02_GraphPut.mono_l : ∀ k, (∀ y0 y1 y2 y3 y4 y5 y6, LeO (jacquardlaw02_GraphPut.l0 k y0 y1 y2 y3 y4 y5 y6) (jacquardlaw02_GraphPut.l0 (k + 1) y0 y1 y2 y3 y4 y5 y6)) ∧ (∀ y0 y1 y2 y3 y4 y5 y6 y7 y8, LeO (jacquardlaw02_GraphPut.l1 k y0 y1 y2 y3 y4 y5 y6 y7 y8) (jacquardlaw02_GraphPut.l1 (k + 1) y0 y1 y2 y3 y4 y5 y6 y7 y8)) ∧ (∀ y0 y1 y2 y3 y4 y5 y6, LeO (jacquardlaw02_GraphPut.j2 k y0 y1 y2 y3 y4 y5 y6) (jacquardlaw02_GraphPut.j2 (k + 1) y0 y1 y2 y3 y4 y5 y6)) ∧ (∀ y0 y1 y2 y3 y4 y5 y6, LeO (jacquardlaw02_GraphPut.l2 k y0 y1 y2 y3 y4 y5 y6) (jacquardlaw02_GraphPut.l2 (k + 1) y0 y1 y2 y3 y4 y5 y6)) ∧ (∀ y0 y1 y2 y3 y4 y5 y6 y7, LeO (jacquardlaw02_GraphPut.l3 k y0 y1 y2 y3 y4 y5 y6 y7) (jacquardlaw02_GraphPut.l3 (k + 1) y0 y1 y2 y3 y4 y5 y6 y7)) ∧ (∀ y0 y1 y2 y3 y4 y5, LeO (jacquardlaw02_GraphPut.l4 k y0 y1 y2 y3 y4 y5) (jacquardlaw02_GraphPut.l4 (k + 1) y0 y1 y2 y3 y4 y5))
  | 0 => ⟨fun _ _ _ _ _ _ _ r h => by simp [jacquardlaw02_GraphPut.l0] at h, fun _ _ _ _ _ _ _ _ _ r h => by simp [jacquardlaw02_GraphPut.l1] at h, fun _ _ _ _ _ _ _ r h => by simp [jacquardlaw02_GraphPut.j2] at h, fun _ _ _ _ _ _ _ r h => by simp [jacquardlaw02_GraphPut.l2] at h, fun _ _ _ _ _ _ _ _ r h => by simp [jacquardlaw02_GraphPut.l3] at h, fun _ _ _ _ _ _ r h => by simp [jacquardlaw02_GraphPut.l4] at h⟩
  | k + 1 => by
    obtain ⟨ih0, ih1, ih2, ih3, ih4, ih5⟩ := jacquardlaw02_GraphPut.mono_l k
    refine ⟨?_, ?_, ?_, ?_, ?_, ?_⟩
    · intro y0 y1 y2 y3 y4 y5 y6
      unfold jacquardlaw02_GraphPut.l0
      repeat' first
      | (with_reducible exact ih0 _ _ _ _ _ _ _)
      | (with_reducible exact ih1 _ _ _ _ _ _ _ _ _)
      | (with_reducible exact ih2 _ _ _ _ _ _ _)
      | (with_reducible exact ih3 _ _ _ _ _ _ _)
      | (with_reducible exact ih4 _ _ _ _ _ _ _ _)
      | (with_reducible exact ih5 _ _ _ _ _ _)
      | (with_reducible exact graph_Idom.mono _ _)
      | (with_reducible exact graph_Reducible.mono _ _)
      | (with_reducible exact jacquardref02_Made.mono _ _)
      | (with_reducible exact LeO.refl _)
      | (with_reducible exact LeO.none _)
      | (with_reducible refine LeO.ite ?_ ?_)
      | (with_reducible refine LeO.bind ?_ (fun _ => ?_))
      | exact ih0 _ _ _ _ _ _ _
      | exact ih1 _ _ _ _ _ _ _ _ _
      | exact ih2 _ _ _ _ _ _ _
      | exact ih3 _ _ _ _ _ _ _
      | exact ih4 _ _ _ _ _ _ _ _
      | exact ih5 _ _ _ _ _ _
      | exact graph_Idom.mono _ _
      | exact graph_Reducible.mono _ _
      | exact jacquardref02_Made.mono _ _
      | exact LeO.none _
      | refine LeO.ite ?_ ?_
      | refine LeO.bind ?_ (fun _ => ?_)
    · intro y0 y1 y2 y3 y4 y5 y6 y7 y8
      unfold jacquardlaw02_GraphPut.l1
      repeat' first
      | (with_reducible exact ih0 _ _ _ _ _ _ _)
      | (with_reducible exact ih1 _ _ _ _ _ _ _ _ _)
      | (with_reducible exact ih2 _ _ _ _ _ _ _)
      | (with_reducible exact ih3 _ _ _ _ _ _ _)
      | (with_reducible exact ih4 _ _ _ _ _ _ _ _)
      | (with_reducible exact ih5 _ _ _ _ _ _)
      | (with_reducible exact graph_Idom.mono _ _)
      | (with_reducible exact graph_Reducible.mono _ _)
      | (with_reducible exact jacquardref02_Made.mono _ _)
      | (with_reducible exact LeO.refl _)
      | (with_reducible exact LeO.none _)
      | (with_reducible refine LeO.ite ?_ ?_)
      | (with_reducible refine LeO.bind ?_ (fun _ => ?_))
      | exact ih0 _ _ _ _ _ _ _
      | exact ih1 _ _ _ _ _ _ _ _ _
      | exact ih2 _ _ _ _ _ _ _
      | exact ih3 _ _ _ _ _ _ _
      | exact ih4 _ _ _ _ _ _ _ _
      | exact ih5 _ _ _ _ _ _
      | exact graph_Idom.mono _ _
      | exact graph_Reducible.mono _ _
      | exact jacquardref02_Made.mono _ _
      | exact LeO.none _
      | refine LeO.ite ?_ ?_
      | refine LeO.bind ?_ (fun _ => ?_)
    · intro y0 y1 y2 y3 y4 y5 y6
      unfold jacquardlaw02_GraphPut.j2
      repeat' first
      | (with_reducible exact ih0 _ _ _ _ _ _ _)
      | (with_reducible exact ih1 _ _ _ _ _ _ _ _ _)
      | (with_reducible exact ih2 _ _ _ _ _ _ _)
      | (with_reducible exact ih3 _ _ _ _ _ _ _)
      | (with_reducible exact ih4 _ _ _ _ _ _ _ _)
      | (with_reducible exact ih5 _ _ _ _ _ _)
      | (with_reducible exact graph_Idom.mono _ _)
      | (with_reducible exact graph_Reducible.mono _ _)
      | (with_reducible exact jacquardref02_Made.mono _ _)
      | (with_reducible exact LeO.refl _)
      | (with_reducible exact LeO.none _)
      | (with_reducible refine LeO.ite ?_ ?_)
      | (with_reducible refine LeO.bind ?_ (fun _ => ?_))
      | exact ih0 _ _ _ _ _ _ _
      | exact ih1 _ _ _ _ _ _ _ _ _
      | exact ih2 _ _ _ _ _ _ _
      | exact ih3 _ _ _ _ _ _ _
      | exact ih4 _ _ _ _ _ _ _ _
      | exact ih5 _ _ _ _ _ _
      | exact graph_Idom.mono _ _
      | exact graph_Reducible.mono _ _
      | exact jacquardref02_Made.mono _ _
      | exact LeO.none _
      | refine LeO.ite ?_ ?_
      | refine LeO.bind ?_ (fun _ => ?_)
    · intro y0 y1 y2 y3 y4 y5 y6
      unfold jacquardlaw02_GraphPut.l2
      repeat' first
      | (with_reducible exact ih0 _ _ _ _ _ _ _)
      | (with_reducible exact ih1 _ _ _ _ _ _ _ _ _)
      | (with_reducible exact ih2 _ _ _ _ _ _ _)
      | (with_reducible exact ih3 _ _ _ _ _ _ _)
      | (with_reducible exact ih4 _ _ _ _ _ _ _ _)
      | (with_reducible exact ih5 _ _ _ _ _ _)
      | (with_reducible exact graph_Idom.mono _ _)
      | (with_reducible exact graph_Reducible.mono _ _)
      | (with_reducible exact jacquardref02_Made.mono _ _)
      | (with_reducible exact LeO.refl _)
      | (with_reducible exact LeO.none _)
      | (with_reducible refine LeO.ite ?_ ?_)
      | (with_reducible refine LeO.bind ?_ (fun _ => ?_))
      | exact ih0 _ _ _ _ _ _ _
      | exact ih1 _ _ _ _ _ _ _ _ _
      | exact ih2 _ _ _ _ _ _ _
      | exact ih3 _ _ _ _ _ _ _
      | exact ih4 _ _ _ _ _ _ _ _
      | exact ih5 _ _ _ _ _ _
      | exact graph_Idom.mono _ _
      | exact graph_Reducible.mono _ _
      | exact jacquardref02_Made.mono _ _
      | exact LeO.none _
      | refine LeO.ite ?_ ?_
      | refine LeO.bind ?_ (fun _ => ?_)
    · intro y0 y1 y2 y3 y4 y5 y6 y7
      unfold jacquardlaw02_GraphPut.l3
      repeat' first
      | (with_reducible exact ih0 _ _ _ _ _ _ _)
      | (with_reducible exact ih1 _ _ _ _ _ _ _ _ _)
      | (with_reducible exact ih2 _ _ _ _ _ _ _)
      | (with_reducible exact ih3 _ _ _ _ _ _ _)
      | (with_reducible exact ih4 _ _ _ _ _ _ _ _)
      | (with_reducible exact ih5 _ _ _ _ _ _)
      | (with_reducible exact graph_Idom.mono _ _)
      | (with_reducible exact graph_Reducible.mono _ _)
      | (with_reducible exact jacquardref02_Made.mono _ _)
      | (with_reducible exact LeO.refl _)
      | (with_reducible exact LeO.none _)
      | (with_reducible refine LeO.ite ?_ ?_)
      | (with_reducible refine LeO.bind ?_ (fun _ => ?_))
      | exact ih0 _ _ _ _ _ _ _
      | exact ih1 _ _ _ _ _ _ _ _ _
      | exact ih2 _ _ _ _ _ _ _
      | exact ih3 _ _ _ _ _ _ _
      | exact ih4 _ _ _ _ _ _ _ _
      | exact ih5 _ _ _ _ _ _
      | exact graph_Idom.mono _ _
      | exact graph_Reducible.mono _ _
      | exact jacquardref02_Made.mono _ _
      | exact LeO.none _
      | refine LeO.ite ?_ ?_
      | refine LeO.bind ?_ (fun _ => ?_)
    · intro y0 y1 y2 y3 y4 y5
      unfold jacquardlaw02_GraphPut.l4
      repeat' first
      | (with_reducible exact ih0 _ _ _ _ _ _ _)
      | (with_reducible exact ih1 _ _ _ _ _ _ _ _ _)
      | (with_reducible exact ih2 _ _ _ _ _ _ _)
      | (with_reducible exact ih3 _ _ _ _ _ _ _)
      | (with_reducible exact ih4 _ _ _ _ _ _ _ _)
      | (with_reducible exact ih5 _ _ _ _ _ _)
      | (with_reducible exact graph_Idom.mono _ _)
      | (with_reducible exact graph_Reducible.mono _ _)
      | (with_reducible exact jacquardref02_Made.mono _ _)
      | (with_reducible exact LeO.refl _)
      | (with_reducible exact LeO.none _)
      | (with_reducible refine LeO.ite ?_ ?_)
      | (with_reducible refine LeO.bind ?_ (fun _ => ?_))
      | exact ih0 _ _ _ _ _ _ _
      | exact ih1 _ _ _ _ _ _ _ _ _
      | exact ih2 _ _ _ _ _ _ _
      | exact ih3 _ _ _ _ _ _ _
      | exact ih4 _ _ _ _ _ _ _ _
      | exact ih5 _ _ _ _ _ _
      | exact graph_Idom.mono _ _
      | exact graph_Reducible.mono _ _
      | exact jacquardref02_Made.mono _ _
      | exact LeO.none _
      | refine LeO.ite ?_ ?_
      | refine LeO.bind ?_ (fun _ => ?_)
theorem jacquardlaw02_GraphPut.mono : ∀ a0 a1 a2 k, LeO (jacquardlaw02_GraphPut.f k a0 a1 a2) (jacquardlaw02_GraphPut.f (k + 1) a0 a1 a2) := by
  intro a0 a1 a2 k
  obtain ⟨ih0, ih1, ih2, ih3, ih4, ih5⟩ := jacquardlaw02_GraphPut.mono_l k
  unfold jacquardlaw02_GraphPut.f
  repeat' first
      | (with_reducible exact ih0 _ _ _ _ _ _ _)
      | (with_reducible exact ih1 _ _ _ _ _ _ _ _ _)
      | (with_reducible exact ih2 _ _ _ _ _ _ _)
      | (with_reducible exact ih3 _ _ _ _ _ _ _)
      | (with_reducible exact ih4 _ _ _ _ _ _ _ _)
      | (with_reducible exact ih5 _ _ _ _ _ _)
      | (with_reducible exact graph_Idom.mono _ _)
      | (with_reducible exact graph_Reducible.mono _ _)
      | (with_reducible exact jacquardref02_Made.mono _ _)
      | (with_reducible exact LeO.refl _)
      | (with_reducible exact LeO.none _)
      | (with_reducible refine LeO.ite ?_ ?_)
      | (with_reducible refine LeO.bind ?_ (fun _ => ?_))
      | exact ih0 _ _ _ _ _ _ _
      | exact ih1 _ _ _ _ _ _ _ _ _
      | exact ih2 _ _ _ _ _ _ _
      | exact ih3 _ _ _ _ _ _ _
      | exact ih4 _ _ _ _ _ _ _ _
      | exact ih5 _ _ _ _ _ _
      | exact graph_Idom.mono _ _
      | exact graph_Reducible.mono _ _
      | exact jacquardref02_Made.mono _ _
      | exact LeO.none _
      | refine LeO.ite ?_ ?_
      | refine LeO.bind ?_ (fun _ => ?_)
set_option maxHeartbeats 8000000 in
set_option maxRecDepth 100000 in
theorem jacquardlaw02_GraphPut.calls (k : Nat) (A0 : Option Addr) (c0 : Nat) (l0 : List Int) (a1_0 : Int) (a1_1 : Int) (r : Bool) (w : World) (hr0 : Kd.C (Kd.int .i64) w A0 l0.length l0) (hc0 : l0.length ≤ c0) (h : jacquardlaw02_GraphPut.f k l0 a1_0 a1_1 = some r) :
    Calls Try.prog 11 #[.slice A0 l0.length c0, .agg #[.int .i64 a1_0, .int .i64 a1_1]] w fun e w' => e = .returned (.bool r) ∧ Below w.heap.size w w' := by
  have hu73 := Try.underlying73
  have HR0 := Aside0.mk hr0
  have HC0 := Aside0.mk hc0
  clear hr0 hc0
  have HB := Aside0.mk (Below.refl w.heap.size w)
  have H : ((jacquardlaw02_awake.f).bind fun t430 => ((jacquardref02_Made.f k l0).bind fun t431 => ((jacquardlaw02_rest.f a1_0 (t431.length : Int)).bind fun t434 => (if 0 ≤ t434 then (if t434 < (t431.length : Int) then (if ((rd_L1 t431 t434).length : Int) = 0 then (some t430) else ((jacquardlaw02_rest.f a1_1 ((rd_L1 t431 t434).length : Int)).bind fun t438 => (if 0 ≤ t438 then (if t438 < ((rd_L1 t431 t434).length : Int) then (jacquardlaw02_GraphPut.l0 k t430 t431 t434 (rd (rd_L1 t431 t434) t438) (t431.length : Int) ([] : List (List Int)) 0) else (none)) else (none)))) else (none)) else (none))))) = some r := h
  clear h
  replace H := Option.bind_eq_some_iff.mp H
  obtain ⟨t430, A30, H⟩ := H
  replace H : ((jacquardref02_Made.f k l0).bind fun t431 => ((jacquardlaw02_rest.f a1_0 (t431.length : Int)).bind fun t434 => (if 0 ≤ t434 then (if t434 < (t431.length : Int) then (if ((rd_L1 t431 t434).length : Int) = 0 then (some t430) else ((jacquardlaw02_rest.f a1_1 ((rd_L1 t431 t434).length : Int)).bind fun t438 => (if 0 ≤ t438 then (if t438 < ((rd_L1 t431 t434).length : Int) then (jacquardlaw02_GraphPut.l0 k t430 t431 t434 (rd (rd_L1 t431 t434) t438) (t431.length : Int) ([] : List (List Int)) 0) else (none)) else (none)))) else (none)) else (none)))) = some r := H
  have A3 := Aside0.mk A30
  clear A30
  replace H := Option.bind_eq_some_iff.mp H
  obtain ⟨t431, A40, H⟩ := H
  replace H : ((jacquardlaw02_rest.f a1_0 (t431.length : Int)).bind fun t434 => (if 0 ≤ t434 then (if t434 < (t431.length : Int) then (if ((rd_L1 t431 t434).length : Int) = 0 then (some t430) else ((jacquardlaw02_rest.f a1_1 ((rd_L1 t431 t434).length : Int)).bind fun t438 => (if 0 ≤ t438 then (if t438 < ((rd_L1 t431 t434).length : Int) then (jacquardlaw02_GraphPut.l0 k t430 t431 t434 (rd (rd_L1 t431 t434) t438) (t431.length : Int) ([] : List (List Int)) 0) else (none)) else (none)))) else (none)) else (none))) = some r := H
  have A4 := Aside0.mk A40
  clear A40
  replace H := Option.bind_eq_some_iff.mp H
  obtain ⟨t434, A50, H⟩ := H
  replace H : (if 0 ≤ t434 then (if t434 < (t431.length : Int) then (if ((rd_L1 t431 t434).length : Int) = 0 then (some t430) else ((jacquardlaw02_rest.f a1_1 ((rd_L1 t431 t434).length : Int)).bind fun t438 => (if 0 ≤ t438 then (if t438 < ((rd_L1 t431 t434).length : Int) then (jacquardlaw02_GraphPut.l0 k t430 t431 t434 (rd (rd_L1 t431 t434) t438) (t431.length : Int) ([] : List (List Int)) 0) else (none)) else (none)))) else (none)) else (none)) = some r := H
  have A5 := Aside0.mk A50
  clear A50
  by_cases c6 : 0 ≤ t434
  · rw [if_pos c6] at H
    have c6b0 : decide (0 ≤ t434) = true := decide_eq_true c6
    clear c6
    by_cases c7 : t434 < (t431.length : Int)
    · rw [if_pos c7] at H
      have c7b0 : decide (t434 < (t431.length : Int)) = true := decide_eq_true c7
      clear c7
      by_cases c8 : ((rd_L1 t431 t434).length : Int) = 0
      · rw [if_pos c8] at H
        have c8b0 : (((rd_L1 t431 t434).length : Int) == 0) = true := beq_iff_eq.mpr c8
        have c8b1 : (((rd_L1 t431 t434).length : Int) != 0) = false := bne_eq_false_iff_eq.mpr c8
        clear c8
        obtain rfl := Option.some.inj H
        go_enter Try.func11, Try.ntmps11
        go_wp2_with (first | ((with_reducible refine gate_dst (N := 3) rfl ?_); (try (refine gate_guard (by rfl) ?_; dsimp only)); refine box_event ?hg (N := 3) ?hd (cs := #[.int .i64 a1_0, .int .i64 a1_1]) (t := 73) ?hr ?_; (case hd => rfl); (case hg => rfl); (case hr => first | (go_simp; done) | (go_simp; rfl)); intro gb429 hg w9 hbox hb; have n0_ := Aside0.mk (below_step (by repeat (first | (with_reducible first | exact HB.out | apply below_alloc | apply pw_below_drewN | apply below_drew1) | exact HB.out)) hb); have n1_ := Aside0.mk (hbox); have n2_ := Aside0.mk ((by rw [hg]; exact (below_size (by repeat (first | (with_reducible first | exact HB.out | apply below_alloc | apply pw_below_drewN | apply below_drew1) | exact HB.out))) : w.heap.size ≤ gb429)); have n3_ := Aside0.mk ((by rw [hg]; exact (below_size (by repeat (first | (with_reducible first | exact HB.out | apply below_alloc | apply pw_below_drewN | apply below_drew1) | exact HB.out))) : w.heap.size ≤ gb429)); clear HB; have HB := n0_; have BK429 := n1_; have GW429 := n2_; have GE429 := n3_; clear n0_ n1_ n2_ n3_; clear hb hbox hg) | (go_at_call 22; (with_reducible refine (jacquardlaw02_awake.calls  t430 _ A3.out).mono ?_); rintro e w10 ⟨rfl, hb⟩; have n0_ := Aside0.mk (blk_below (g := gb429) (o := .cells #[.int .i64 a1_0, .int .i64 a1_1] 73 (0, 0)) (by (with_reducible repeat (first | refine blk_drewN ?_ _ | refine blk_drew ?_ | refine blk_alloc ?_ _)); exact BK429.out) hb); have n1_ := Aside0.mk (below_step (by repeat (first | (with_reducible first | exact HB.out | apply below_alloc | apply pw_below_drewN | apply below_drew1 | refine below_set ?_ GE429.out) | exact HB.out)) hb); clear BK429; clear HB; have BK429 := n0_; have HB := n1_; clear n0_ n1_; (try clear hb); (try clear hb2); (try clear hk); (try clear hi)) | (go_at_call 25; (with_reducible refine (jacquardref02_Made.calls k _ _ l0 t431 _ ?side1 ?side2 A4.out).mono ?_); (case side1 => repeat (first | exact (Kd.C_below HR0.out HB.out) | (with_reducible refine Kd.C_alloc ?_ _) | (with_reducible refine Kd.C_drewN ?_ _) | (with_reducible refine Kd.C_drew ?_))); (case side2 => exact HC0.out); rintro e w11 ⟨v432, rfl, ho0, hb⟩; have n0_ := Aside0.mk (Kd.S_lower ho0 (below_size (by repeat (first | (with_reducible first | exact HB.out | apply below_alloc | apply pw_below_drewN | apply below_drew1 | refine below_set ?_ GE429.out) | exact HB.out)))); have n1_ := Aside0.mk (blk_below (g := gb429) (o := .cells #[.int .i64 a1_0, .int .i64 a1_1] 73 (0, 0)) (by (with_reducible repeat (first | refine blk_drewN ?_ _ | refine blk_drew ?_ | refine blk_alloc ?_ _)); exact BK429.out) hb); have n2_ := Aside0.mk (below_step (by repeat (first | (with_reducible first | exact HB.out | apply below_alloc | apply pw_below_drewN | apply below_drew1 | refine below_set ?_ GE429.out) | exact HB.out)) hb); clear BK429; clear HB; have HO433 := n0_; have BK429 := n1_; have HB := n2_; clear n0_ n1_ n2_; (try clear hb); (try clear hb2); (try clear hk); (try clear hi); (try clear ho0); have hcz12_0 : w11.cell? ⟨gb429, 0, none⟩ = some (.int .i64 a1_0) := (blk_cell BK429.out 0).trans rfl; have hcz12_1 : w11.cell? ⟨gb429, 1, none⟩ = some (.int .i64 a1_1) := (blk_cell BK429.out 1).trans rfl; have hfz12_0 := blk_frozen BK429.out 0; have hfz12_1 := blk_frozen BK429.out 1; obtain ⟨Ao13, co13, eo13⟩ := Kd.S_slice HO433.out; subst eo13) | (go_at_call 31; (with_reducible refine (jacquardlaw02_rest.calls a1_0 (t431.length : Int) t434 _ A5.out).mono ?_); rintro e w' ⟨rfl, ⟨nd, rfl⟩⟩; (try first | exact ⟨rfl, _, World.drewN_drewN _ _ _⟩ | exact ⟨rfl, _, Eq.trans (World.drewN_drewN _ _ _) (congrArg (World.drewN _) (Nat.add_assoc _ _ _))⟩); have p435 : 0 ≤ (t434 : Int) := of_decide_eq_true (by first | (with_reducible assumption) | assumption); have q435 : t434 < (t431.length : Int) := of_decide_eq_true (by first | (with_reducible assumption) | assumption); obtain ⟨ad435, A435_0, c435_0, e435, hx435_0, hl435_0, hi435_0⟩ := at_L1 (Kd.S_reads' HO433.out).2.2 t434 p435 q435; cases e435; obtain ⟨ce435, hce435, hMe435, hcc435⟩ := Kd.S_get HO433.out [] t434 p435 (by first | exact q435 | exact of_decide_eq_true (by first | (with_reducible assumption) | assumption) | (have e_ := (Kd.S_reads' HO433.out).1; omega)); obtain ⟨ve435_0, rfl, ge435_0⟩ := hMe435; have hv435_0 := hcc435 0 _ rfl; rw [Nat.add_zero, show ((Kd.slice 3 (Kd.int .i64))).sz = 1 from rfl, Nat.mul_one] at hv435_0; replace hv435_0 := Option.some.inj (hv435_0.symm.trans hx435_0); rw [hv435_0] at ge435_0; have HL435_0 := Aside0.mk (show Kd.R (Kd.int .i64) 3 _ _ _ _ (rd_L1 t431 t434) from ge435_0); clear hv435_0 ge435_0; clear hcc435 hce435; have HR435_0 := Aside0.mk hi435_0; have HC435_0 := Aside0.mk hl435_0; clear hi435_0 hl435_0; replace p435 := eq_true p435; replace q435 := eq_true q435))
        repeat (go_quiet (first | ((with_reducible refine gate_dst (N := 3) rfl ?_); (try (refine gate_guard (by rfl) ?_; dsimp only)); refine box_event ?hg (N := 3) ?hd (cs := #[.int .i64 a1_0, .int .i64 a1_1]) (t := 73) ?hr ?_; (case hd => rfl); (case hg => rfl); (case hr => first | (go_simp; done) | (go_simp; rfl)); intro gb429 hg w9 hbox hb; have n0_ := Aside0.mk (below_step (by repeat (first | (with_reducible first | exact HB.out | apply below_alloc | apply pw_below_drewN | apply below_drew1) | exact HB.out)) hb); have n1_ := Aside0.mk (hbox); have n2_ := Aside0.mk ((by rw [hg]; exact (below_size (by repeat (first | (with_reducible first | exact HB.out | apply below_alloc | apply pw_below_drewN | apply below_drew1) | exact HB.out))) : w.heap.size ≤ gb429)); have n3_ := Aside0.mk ((by rw [hg]; exact (below_size (by repeat (first | (with_reducible first | exact HB.out | apply below_alloc | apply pw_below_drewN | apply below_drew1) | exact HB.out))) : w.heap.size ≤ gb429)); clear HB; have HB := n0_; have BK429 := n1_; have GW429 := n2_; have GE429 := n3_; clear n0_ n1_ n2_ n3_; clear hb hbox hg) | (go_at_call 22; (with_reducible refine (jacquardlaw02_awake.calls  t430 _ A3.out).mono ?_); rintro e w10 ⟨rfl, hb⟩; have n0_ := Aside0.mk (blk_below (g := gb429) (o := .cells #[.int .i64 a1_0, .int .i64 a1_1] 73 (0, 0)) (by (with_reducible repeat (first | refine blk_drewN ?_ _ | refine blk_drew ?_ | refine blk_alloc ?_ _)); exact BK429.out) hb); have n1_ := Aside0.mk (below_step (by repeat (first | (with_reducible first | exact HB.out | apply below_alloc | apply pw_below_drewN | apply below_drew1 | refine below_set ?_ GE429.out) | exact HB.out)) hb); clear BK429; clear HB; have BK429 := n0_; have HB := n1_; clear n0_ n1_; (try clear hb); (try clear hb2); (try clear hk); (try clear hi)) | (go_at_call 25; (with_reducible refine (jacquardref02_Made.calls k _ _ l0 t431 _ ?side1 ?side2 A4.out).mono ?_); (case side1 => repeat (first | exact (Kd.C_below HR0.out HB.out) | (with_reducible refine Kd.C_alloc ?_ _) | (with_reducible refine Kd.C_drewN ?_ _) | (with_reducible refine Kd.C_drew ?_))); (case side2 => exact HC0.out); rintro e w11 ⟨v432, rfl, ho0, hb⟩; have n0_ := Aside0.mk (Kd.S_lower ho0 (below_size (by repeat (first | (with_reducible first | exact HB.out | apply below_alloc | apply pw_below_drewN | apply below_drew1 | refine below_set ?_ GE429.out) | exact HB.out)))); have n1_ := Aside0.mk (blk_below (g := gb429) (o := .cells #[.int .i64 a1_0, .int .i64 a1_1] 73 (0, 0)) (by (with_reducible repeat (first | refine blk_drewN ?_ _ | refine blk_drew ?_ | refine blk_alloc ?_ _)); exact BK429.out) hb); have n2_ := Aside0.mk (below_step (by repeat (first | (with_reducible first | exact HB.out | apply below_alloc | apply pw_below_drewN | apply below_drew1 | refine below_set ?_ GE429.out) | exact HB.out)) hb); clear BK429; clear HB; have HO433 := n0_; have BK429 := n1_; have HB := n2_; clear n0_ n1_ n2_; (try clear hb); (try clear hb2); (try clear hk); (try clear hi); (try clear ho0); have hcz12_0 : w11.cell? ⟨gb429, 0, none⟩ = some (.int .i64 a1_0) := (blk_cell BK429.out 0).trans rfl; have hcz12_1 : w11.cell? ⟨gb429, 1, none⟩ = some (.int .i64 a1_1) := (blk_cell BK429.out 1).trans rfl; have hfz12_0 := blk_frozen BK429.out 0; have hfz12_1 := blk_frozen BK429.out 1; obtain ⟨Ao13, co13, eo13⟩ := Kd.S_slice HO433.out; subst eo13) | (go_at_call 31; (with_reducible refine (jacquardlaw02_rest.calls a1_0 (t431.length : Int) t434 _ A5.out).mono ?_); rintro e w' ⟨rfl, ⟨nd, rfl⟩⟩; (try first | exact ⟨rfl, _, World.drewN_drewN _ _ _⟩ | exact ⟨rfl, _, Eq.trans (World.drewN_drewN _ _ _) (congrArg (World.drewN _) (Nat.add_assoc _ _ _))⟩); have p435 : 0 ≤ (t434 : Int) := of_decide_eq_true (by first | (with_reducible assumption) | assumption); have q435 : t434 < (t431.length : Int) := of_decide_eq_true (by first | (with_reducible assumption) | assumption); obtain ⟨ad435, A435_0, c435_0, e435, hx435_0, hl435_0, hi435_0⟩ := at_L1 (Kd.S_reads' HO433.out).2.2 t434 p435 q435; cases e435; obtain ⟨ce435, hce435, hMe435, hcc435⟩ := Kd.S_get HO433.out [] t434 p435 (by first | exact q435 | exact of_decide_eq_true (by first | (with_reducible assumption) | assumption) | (have e_ := (Kd.S_reads' HO433.out).1; omega)); obtain ⟨ve435_0, rfl, ge435_0⟩ := hMe435; have hv435_0 := hcc435 0 _ rfl; rw [Nat.add_zero, show ((Kd.slice 3 (Kd.int .i64))).sz = 1 from rfl, Nat.mul_one] at hv435_0; replace hv435_0 := Option.some.inj (hv435_0.symm.trans hx435_0); rw [hv435_0] at ge435_0; have HL435_0 := Aside0.mk (show Kd.R (Kd.int .i64) 3 _ _ _ _ (rd_L1 t431 t434) from ge435_0); clear hv435_0 ge435_0; clear hcc435 hce435; have HR435_0 := Aside0.mk hi435_0; have HC435_0 := Aside0.mk hl435_0; clear hi435_0 hl435_0; replace p435 := eq_true p435; replace q435 := eq_true q435)); try go_wp2_with (first | ((with_reducible refine gate_dst (N := 3) rfl ?_); (try (refine gate_guard (by rfl) ?_; dsimp only)); refine box_event ?hg (N := 3) ?hd (cs := #[.int .i64 a1_0, .int .i64 a1_1]) (t := 73) ?hr ?_; (case hd => rfl); (case hg => rfl); (case hr => first | (go_simp; done) | (go_simp; rfl)); intro gb429 hg w9 hbox hb; have n0_ := Aside0.mk (below_step (by repeat (first | (with_reducible first | exact HB.out | apply below_alloc | apply pw_below_drewN | apply below_drew1) | exact HB.out)) hb); have n1_ := Aside0.mk (hbox); have n2_ := Aside0.mk ((by rw [hg]; exact (below_size (by repeat (first | (with_reducible first | exact HB.out | apply below_alloc | apply pw_below_drewN | apply below_drew1) | exact HB.out))) : w.heap.size ≤ gb429)); have n3_ := Aside0.mk ((by rw [hg]; exact (below_size (by repeat (first | (with_reducible first | exact HB.out | apply below_alloc | apply pw_below_drewN | apply below_drew1) | exact HB.out))) : w.heap.size ≤ gb429)); clear HB; have HB := n0_; have BK429 := n1_; have GW429 := n2_; have GE429 := n3_; clear n0_ n1_ n2_ n3_; clear hb hbox hg) | (go_at_call 22; (with_reducible refine (jacquardlaw02_awake.calls  t430 _ A3.out).mono ?_); rintro e w10 ⟨rfl, hb⟩; have n0_ := Aside0.mk (blk_below (g := gb429) (o := .cells #[.int .i64 a1_0, .int .i64 a1_1] 73 (0, 0)) (by (with_reducible repeat (first | refine blk_drewN ?_ _ | refine blk_drew ?_ | refine blk_alloc ?_ _)); exact BK429.out) hb); have n1_ := Aside0.mk (below_step (by repeat (first | (with_reducible first | exact HB.out | apply below_alloc | apply pw_below_drewN | apply below_drew1 | refine below_set ?_ GE429.out) | exact HB.out)) hb); clear BK429; clear HB; have BK429 := n0_; have HB := n1_; clear n0_ n1_; (try clear hb); (try clear hb2); (try clear hk); (try clear hi)) | (go_at_call 25; (with_reducible refine (jacquardref02_Made.calls k _ _ l0 t431 _ ?side1 ?side2 A4.out).mono ?_); (case side1 => repeat (first | exact (Kd.C_below HR0.out HB.out) | (with_reducible refine Kd.C_alloc ?_ _) | (with_reducible refine Kd.C_drewN ?_ _) | (with_reducible refine Kd.C_drew ?_))); (case side2 => exact HC0.out); rintro e w11 ⟨v432, rfl, ho0, hb⟩; have n0_ := Aside0.mk (Kd.S_lower ho0 (below_size (by repeat (first | (with_reducible first | exact HB.out | apply below_alloc | apply pw_below_drewN | apply below_drew1 | refine below_set ?_ GE429.out) | exact HB.out)))); have n1_ := Aside0.mk (blk_below (g := gb429) (o := .cells #[.int .i64 a1_0, .int .i64 a1_1] 73 (0, 0)) (by (with_reducible repeat (first | refine blk_drewN ?_ _ | refine blk_drew ?_ | refine blk_alloc ?_ _)); exact BK429.out) hb); have n2_ := Aside0.mk (below_step (by repeat (first | (with_reducible first | exact HB.out | apply below_alloc | apply pw_below_drewN | apply below_drew1 | refine below_set ?_ GE429.out) | exact HB.out)) hb); clear BK429; clear HB; have HO433 := n0_; have BK429 := n1_; have HB := n2_; clear n0_ n1_ n2_; (try clear hb); (try clear hb2); (try clear hk); (try clear hi); (try clear ho0); have hcz12_0 : w11.cell? ⟨gb429, 0, none⟩ = some (.int .i64 a1_0) := (blk_cell BK429.out 0).trans rfl; have hcz12_1 : w11.cell? ⟨gb429, 1, none⟩ = some (.int .i64 a1_1) := (blk_cell BK429.out 1).trans rfl; have hfz12_0 := blk_frozen BK429.out 0; have hfz12_1 := blk_frozen BK429.out 1; obtain ⟨Ao13, co13, eo13⟩ := Kd.S_slice HO433.out; subst eo13) | (go_at_call 31; (with_reducible refine (jacquardlaw02_rest.calls a1_0 (t431.length : Int) t434 _ A5.out).mono ?_); rintro e w' ⟨rfl, ⟨nd, rfl⟩⟩; (try first | exact ⟨rfl, _, World.drewN_drewN _ _ _⟩ | exact ⟨rfl, _, Eq.trans (World.drewN_drewN _ _ _) (congrArg (World.drewN _) (Nat.add_assoc _ _ _))⟩); have p435 : 0 ≤ (t434 : Int) := of_decide_eq_true (by first | (with_reducible assumption) | assumption); have q435 : t434 < (t431.length : Int) := of_decide_eq_true (by first | (with_reducible assumption) | assumption); obtain ⟨ad435, A435_0, c435_0, e435, hx435_0, hl435_0, hi435_0⟩ := at_L1 (Kd.S_reads' HO433.out).2.2 t434 p435 q435; cases e435; obtain ⟨ce435, hce435, hMe435, hcc435⟩ := Kd.S_get HO433.out [] t434 p435 (by first | exact q435 | exact of_decide_eq_true (by first | (with_reducible assumption) | assumption) | (have e_ := (Kd.S_reads' HO433.out).1; omega)); obtain ⟨ve435_0, rfl, ge435_0⟩ := hMe435; have hv435_0 := hcc435 0 _ rfl; rw [Nat.add_zero, show ((Kd.slice 3 (Kd.int .i64))).sz = 1 from rfl, Nat.mul_one] at hv435_0; replace hv435_0 := Option.some.inj (hv435_0.symm.trans hx435_0); rw [hv435_0] at ge435_0; have HL435_0 := Aside0.mk (show Kd.R (Kd.int .i64) 3 _ _ _ _ (rd_L1 t431 t434) from ge435_0); clear hv435_0 ge435_0; clear hcc435 hce435; have HR435_0 := Aside0.mk hi435_0; have HC435_0 := Aside0.mk hl435_0; clear hi435_0 hl435_0; replace p435 := eq_true p435; replace q435 := eq_true q435)))
        go_ret
        exact ⟨by first | rfl | (simp [errW_none, errW_some] <;> rfl) | (simp [*, errW_none, errW_some] <;> rfl), by repeat (first | (with_reducible first | exact HB.out | apply below_alloc | apply pw_below_drewN | apply below_drew1 | refine below_set ?_ GE429.out) | exact HB.out)⟩
      · rw [if_neg c8] at H
        have c8b0 : (((rd_L1 t431 t434).length : Int) == 0) = false := beq_eq_false_iff_ne.mpr c8
        have c8b1 : (((rd_L1 t431 t434).length : Int) != 0) = true := bne_iff_ne.mpr c8
        have c8b2 : ¬ ((rd_L1 t431 t434) = []) := fun h_ => c8 (by rw [h_]; rfl)
        replace H := Option.bind_eq_some_iff.mp H
        obtain ⟨t438, A140, H⟩ := H
        replace H : (if 0 ≤ t438 then (if t438 < ((rd_L1 t431 t434).length : Int) then (jacquardlaw02_GraphPut.l0 k t430 t431 t434 (rd (rd_L1 t431 t434) t438) (t431.length : Int) ([] : List (List Int)) 0) else (none)) else (none)) = some r := H
        have A14 := Aside0.mk A140
        clear A140
        by_cases c15 : 0 ≤ t438
        · rw [if_pos c15] at H
          have c15b0 : decide (0 ≤ t438) = true := decide_eq_true c15
          clear c15
          by_cases c16 : t438 < ((rd_L1 t431 t434).length : Int)
          · rw [if_pos c16] at H
            have c16b0 : decide (t438 < ((rd_L1 t431 t434).length : Int)) = true := decide_eq_true c16
            clear c16
            have H' := Aside0.mk H
            clear H
            go_enter Try.func11, Try.ntmps11
            go_wp2_with (first | ((with_reducible refine gate_dst (N := 3) rfl ?_); (try (refine gate_guard (by rfl) ?_; dsimp only)); refine box_event ?hg (N := 3) ?hd (cs := #[.int .i64 a1_0, .int .i64 a1_1]) (t := 73) ?hr ?_; (case hd => rfl); (case hg => rfl); (case hr => first | (go_simp; done) | (go_simp; rfl)); intro gb429 hg w17 hbox hb; have n0_ := Aside0.mk (below_step (by repeat (first | (with_reducible first | exact HB.out | apply below_alloc | apply pw_below_drewN | apply below_drew1) | exact HB.out)) hb); have n1_ := Aside0.mk (hbox); have n2_ := Aside0.mk ((by rw [hg]; exact (below_size (by repeat (first | (with_reducible first | exact HB.out | apply below_alloc | apply pw_below_drewN | apply below_drew1) | exact HB.out))) : w.heap.size ≤ gb429)); have n3_ := Aside0.mk ((by rw [hg]; exact (below_size (by repeat (first | (with_reducible first | exact HB.out | apply below_alloc | apply pw_below_drewN | apply below_drew1) | exact HB.out))) : w.heap.size ≤ gb429)); clear HB; have HB := n0_; have BK429 := n1_; have GW429 := n2_; have GE429 := n3_; clear n0_ n1_ n2_ n3_; clear hb hbox hg) | (go_at_call 22; (with_reducible refine (jacquardlaw02_awake.calls  t430 _ A3.out).mono ?_); rintro e w18 ⟨rfl, hb⟩; have n0_ := Aside0.mk (blk_below (g := gb429) (o := .cells #[.int .i64 a1_0, .int .i64 a1_1] 73 (0, 0)) (by (with_reducible repeat (first | refine blk_drewN ?_ _ | refine blk_drew ?_ | refine blk_alloc ?_ _)); exact BK429.out) hb); have n1_ := Aside0.mk (below_step (by repeat (first | (with_reducible first | exact HB.out | apply below_alloc | apply pw_below_drewN | apply below_drew1 | refine below_set ?_ GE429.out) | exact HB.out)) hb); clear BK429; clear HB; have BK429 := n0_; have HB := n1_; clear n0_ n1_; (try clear hb); (try clear hb2); (try clear hk); (try clear hi)) | (go_at_call 25; (with_reducible refine (jacquardref02_Made.calls k _ _ l0 t431 _ ?side1 ?side2 A4.out).mono ?_); (case side1 => repeat (first | exact (Kd.C_below HR0.out HB.out) | (with_reducible refine Kd.C_alloc ?_ _) | (with_reducible refine Kd.C_drewN ?_ _) | (with_reducible refine Kd.C_drew ?_))); (case side2 => exact HC0.out); rintro e w19 ⟨v432, rfl, ho0, hb⟩; have n0_ := Aside0.mk (Kd.S_lower ho0 (below_size (by repeat (first | (with_reducible first | exact HB.out | apply below_alloc | apply pw_below_drewN | apply below_drew1 | refine below_set ?_ GE429.out) | exact HB.out)))); have n1_ := Aside0.mk (blk_below (g := gb429) (o := .cells #[.int .i64 a1_0, .int .i64 a1_1] 73 (0, 0)) (by (with_reducible repeat (first | refine blk_drewN ?_ _ | refine blk_drew ?_ | refine blk_alloc ?_ _)); exact BK429.out) hb); have n2_ := Aside0.mk (below_step (by repeat (first | (with_reducible first | exact HB.out | apply below_alloc | apply pw_below_drewN | apply below_drew1 | refine below_set ?_ GE429.out) | exact HB.out)) hb); clear BK429; clear HB; have HO433 := n0_; have BK429 := n1_; have HB := n2_; clear n0_ n1_ n2_; (try clear hb); (try clear hb2); (try clear hk); (try clear hi); (try clear ho0); have hcz20_0 : w19.cell? ⟨gb429, 0, none⟩ = some (.int .i64 a1_0) := (blk_cell BK429.out 0).trans rfl; have hcz20_1 : w19.cell? ⟨gb429, 1, none⟩ = some (.int .i64 a1_1) := (blk_cell BK429.out 1).trans rfl; have hfz20_0 := blk_frozen BK429.out 0; have hfz20_1 := blk_frozen BK429.out 1; obtain ⟨Ao21, co21, eo21⟩ := Kd.S_slice HO433.out; subst eo21) | (go_at_call 31; (with_reducible refine (jacquardlaw02_rest.calls a1_0 (t431.length : Int) t434 _ A5.out).mono ?_); rintro e w' ⟨rfl, ⟨nd, rfl⟩⟩; (try first | exact ⟨rfl, _, World.drewN_drewN _ _ _⟩ | exact ⟨rfl, _, Eq.trans (World.drewN_drewN _ _ _) (congrArg (World.drewN _) (Nat.add_assoc _ _ _))⟩); have p435 : 0 ≤ (t434 : Int) := of_decide_eq_true (by first | (with_reducible assumption) | assumption); have q435 : t434 < (t431.length : Int) := of_decide_eq_true (by first | (with_reducible assumption) | assumption); obtain ⟨ad435, A435_0, c435_0, e435, hx435_0, hl435_0, hi435_0⟩ := at_L1 (Kd.S_reads' HO433.out).2.2 t434 p435 q435; cases e435; obtain ⟨ce435, hce435, hMe435, hcc435⟩ := Kd.S_get HO433.out [] t434 p435 (by first | exact q435 | exact of_decide_eq_true (by first | (with_reducible assumption) | assumption) | (have e_ := (Kd.S_reads' HO433.out).1; omega)); obtain ⟨ve435_0, rfl, ge435_0⟩ := hMe435; have hv435_0 := hcc435 0 _ rfl; rw [Nat.add_zero, show ((Kd.slice 3 (Kd.int .i64))).sz = 1 from rfl, Nat.mul_one] at hv435_0; replace hv435_0 := Option.some.inj (hv435_0.symm.trans hx435_0); rw [hv435_0] at ge435_0; have HL435_0 := Aside0.mk (show Kd.R (Kd.int .i64) 3 _ _ _ _ (rd_L1 t431 t434) from ge435_0); clear hv435_0 ge435_0; clear hcc435 hce435; have HR435_0 := Aside0.mk hi435_0; have HC435_0 := Aside0.mk hl435_0; clear hi435_0 hl435_0; replace p435 := eq_true p435; replace q435 := eq_true q435; have p436 : 0 ≤ (t434 : Int) := of_decide_eq_true (by first | (with_reducible assumption) | assumption); have q436 : t434 < (t431.length : Int) := of_decide_eq_true (by first | (with_reducible assumption) | assumption); obtain ⟨ad436, A436_0, c436_0, e436, hx436_0, hl436_0, hi436_0⟩ := at_L1 (Kd.S_reads' HO433.out).2.2 t434 p436 q436; obtain rfl : ad435 = ad436 := (by injection e436); obtain ⟨ce436, hce436, hMe436, hcc436⟩ := Kd.S_get HO433.out [] t434 p436 (by first | exact q436 | exact of_decide_eq_true (by first | (with_reducible assumption) | assumption) | (have e_ := (Kd.S_reads' HO433.out).1; omega)); obtain ⟨ve436_0, rfl, ge436_0⟩ := hMe436; have hv436_0 := hcc436 0 _ rfl; rw [Nat.add_zero, show ((Kd.slice 3 (Kd.int .i64))).sz = 1 from rfl, Nat.mul_one] at hv436_0; replace hv436_0 := Option.some.inj (hv436_0.symm.trans hx436_0); rw [hv436_0] at ge436_0; have HL436_0 := Aside0.mk (show Kd.R (Kd.int .i64) 3 _ _ _ _ (rd_L1 t431 t434) from ge436_0); clear hv436_0 ge436_0; clear hcc436 hce436; have HR436_0 := Aside0.mk hi436_0; have HC436_0 := Aside0.mk hl436_0; clear hi436_0 hl436_0; replace p436 := eq_true p436; replace q436 := eq_true q436; have ea_ := Option.some.inj (hx435_0.symm.trans hx436_0); injection ea_ with ea_ en_ ec_; subst ea_; subst ec_; clear en_; have p437 : 0 ≤ (t434 : Int) := of_decide_eq_true (by first | (with_reducible assumption) | assumption); have q437 : t434 < (t431.length : Int) := of_decide_eq_true (by first | (with_reducible assumption) | assumption); obtain ⟨ad437, A437_0, c437_0, e437, hx437_0, hl437_0, hi437_0⟩ := at_L1 (Kd.S_reads' HO433.out).2.2 t434 p437 q437; obtain rfl : ad435 = ad437 := (by injection e437); obtain ⟨ce437, hce437, hMe437, hcc437⟩ := Kd.S_get HO433.out [] t434 p437 (by first | exact q437 | exact of_decide_eq_true (by first | (with_reducible assumption) | assumption) | (have e_ := (Kd.S_reads' HO433.out).1; omega)); obtain ⟨ve437_0, rfl, ge437_0⟩ := hMe437; have hv437_0 := hcc437 0 _ rfl; rw [Nat.add_zero, show ((Kd.slice 3 (Kd.int .i64))).sz = 1 from rfl, Nat.mul_one] at hv437_0; replace hv437_0 := Option.some.inj (hv437_0.symm.trans hx437_0); rw [hv437_0] at ge437_0; have HL437_0 := Aside0.mk (show Kd.R (Kd.int .i64) 3 _ _ _ _ (rd_L1 t431 t434) from ge437_0); clear hv437_0 ge437_0; clear hcc437 hce437; have HR437_0 := Aside0.mk hi437_0; have HC437_0 := Aside0.mk hl437_0; clear hi437_0 hl437_0; replace p437 := eq_true p437; replace q437 := eq_true q437; have ea_ := Option.some.inj (hx435_0.symm.trans hx437_0); injection ea_ with ea_ en_ ec_; subst ea_; subst ec_; clear en_) | (go_at_call 31; (with_reducible refine (jacquardlaw02_rest.calls a1_1 ((rd_L1 t431 t434).length : Int) t438 _ A14.out).mono ?_); rintro e w' ⟨rfl, ⟨nd, rfl⟩⟩; (try first | exact ⟨rfl, _, World.drewN_drewN _ _ _⟩ | exact ⟨rfl, _, Eq.trans (World.drewN_drewN _ _ _) (congrArg (World.drewN _) (Nat.add_assoc _ _ _))⟩); have p439 : 0 ≤ (t438 : Int) := of_decide_eq_true (by first | (with_reducible assumption) | assumption); have q439 : t438 < ((rd_L1 t431 t434).length : Int) := of_decide_eq_true (by first | (with_reducible assumption) | assumption); obtain ⟨ad439, e439, hx439_0⟩ := Kd.at_int (by repeat (first | (with_reducible exact HR436_0.out) | (with_reducible refine Kd.C_alloc ?_ _) | (with_reducible refine Kd.C_drewN ?_ _) | (with_reducible refine Kd.C_drew ?_) | exact HR436_0.out)) t438 p439 q439; cases e439; replace p439 := eq_true p439; replace q439 := eq_true q439))
            repeat (go_quiet (first | ((with_reducible refine gate_dst (N := 3) rfl ?_); (try (refine gate_guard (by rfl) ?_; dsimp only)); refine box_event ?hg (N := 3) ?hd (cs := #[.int .i64 a1_0, .int .i64 a1_1]) (t := 73) ?hr ?_; (case hd => rfl); (case hg => rfl); (case hr => first | (go_simp; done) | (go_simp; rfl)); intro gb429 hg w17 hbox hb; have n0_ := Aside0.mk (below_step (by repeat (first | (with_reducible first | exact HB.out | apply below_alloc | apply pw_below_drewN | apply below_drew1) | exact HB.out)) hb); have n1_ := Aside0.mk (hbox); have n2_ := Aside0.mk ((by rw [hg]; exact (below_size (by repeat (first | (with_reducible first | exact HB.out | apply below_alloc | apply pw_below_drewN | apply below_drew1) | exact HB.out))) : w.heap.size ≤ gb429)); have n3_ := Aside0.mk ((by rw [hg]; exact (below_size (by repeat (first | (with_reducible first | exact HB.out | apply below_alloc | apply pw_below_drewN | apply below_drew1) | exact HB.out))) : w.heap.size ≤ gb429)); clear HB; have HB := n0_; have BK429 := n1_; have GW429 := n2_; have GE429 := n3_; clear n0_ n1_ n2_ n3_; clear hb hbox hg) | (go_at_call 22; (with_reducible refine (jacquardlaw02_awake.calls  t430 _ A3.out).mono ?_); rintro e w18 ⟨rfl, hb⟩; have n0_ := Aside0.mk (blk_below (g := gb429) (o := .cells #[.int .i64 a1_0, .int .i64 a1_1] 73 (0, 0)) (by (with_reducible repeat (first | refine blk_drewN ?_ _ | refine blk_drew ?_ | refine blk_alloc ?_ _)); exact BK429.out) hb); have n1_ := Aside0.mk (below_step (by repeat (first | (with_reducible first | exact HB.out | apply below_alloc | apply pw_below_drewN | apply below_drew1 | refine below_set ?_ GE429.out) | exact HB.out)) hb); clear BK429; clear HB; have BK429 := n0_; have HB := n1_; clear n0_ n1_; (try clear hb); (try clear hb2); (try clear hk); (try clear hi)) | (go_at_call 25; (with_reducible refine (jacquardref02_Made.calls k _ _ l0 t431 _ ?side1 ?side2 A4.out).mono ?_); (case side1 => repeat (first | exact (Kd.C_below HR0.out HB.out) | (with_reducible refine Kd.C_alloc ?_ _) | (with_reducible refine Kd.C_drewN ?_ _) | (with_reducible refine Kd.C_drew ?_))); (case side2 => exact HC0.out); rintro e w19 ⟨v432, rfl, ho0, hb⟩; have n0_ := Aside0.mk (Kd.S_lower ho0 (below_size (by repeat (first | (with_reducible first | exact HB.out | apply below_alloc | apply pw_below_drewN | apply below_drew1 | refine below_set ?_ GE429.out) | exact HB.out)))); have n1_ := Aside0.mk (blk_below (g := gb429) (o := .cells #[.int .i64 a1_0, .int .i64 a1_1] 73 (0, 0)) (by (with_reducible repeat (first | refine blk_drewN ?_ _ | refine blk_drew ?_ | refine blk_alloc ?_ _)); exact BK429.out) hb); have n2_ := Aside0.mk (below_step (by repeat (first | (with_reducible first | exact HB.out | apply below_alloc | apply pw_below_drewN | apply below_drew1 | refine below_set ?_ GE429.out) | exact HB.out)) hb); clear BK429; clear HB; have HO433 := n0_; have BK429 := n1_; have HB := n2_; clear n0_ n1_ n2_; (try clear hb); (try clear hb2); (try clear hk); (try clear hi); (try clear ho0); have hcz20_0 : w19.cell? ⟨gb429, 0, none⟩ = some (.int .i64 a1_0) := (blk_cell BK429.out 0).trans rfl; have hcz20_1 : w19.cell? ⟨gb429, 1, none⟩ = some (.int .i64 a1_1) := (blk_cell BK429.out 1).trans rfl; have hfz20_0 := blk_frozen BK429.out 0; have hfz20_1 := blk_frozen BK429.out 1; obtain ⟨Ao21, co21, eo21⟩ := Kd.S_slice HO433.out; subst eo21) | (go_at_call 31; (with_reducible refine (jacquardlaw02_rest.calls a1_0 (t431.length : Int) t434 _ A5.out).mono ?_); rintro e w' ⟨rfl, ⟨nd, rfl⟩⟩; (try first | exact ⟨rfl, _, World.drewN_drewN _ _ _⟩ | exact ⟨rfl, _, Eq.trans (World.drewN_drewN _ _ _) (congrArg (World.drewN _) (Nat.add_assoc _ _ _))⟩); have p435 : 0 ≤ (t434 : Int) := of_decide_eq_true (by first | (with_reducible assumption) | assumption); have q435 : t434 < (t431.length : Int) := of_decide_eq_true (by first | (with_reducible assumption) | assumption); obtain ⟨ad435, A435_0, c435_0, e435, hx435_0, hl435_0, hi435_0⟩ := at_L1 (Kd.S_reads' HO433.out).2.2 t434 p435 q435; cases e435; obtain ⟨ce435, hce435, hMe435, hcc435⟩ := Kd.S_get HO433.out [] t434 p435 (by first | exact q435 | exact of_decide_eq_true (by first | (with_reducible assumption) | assumption) | (have e_ := (Kd.S_reads' HO433.out).1; omega)); obtain ⟨ve435_0, rfl, ge435_0⟩ := hMe435; have hv435_0 := hcc435 0 _ rfl; rw [Nat.add_zero, show ((Kd.slice 3 (Kd.int .i64))).sz = 1 from rfl, Nat.mul_one] at hv435_0; replace hv435_0 := Option.some.inj (hv435_0.symm.trans hx435_0); rw [hv435_0] at ge435_0; have HL435_0 := Aside0.mk (show Kd.R (Kd.int .i64) 3 _ _ _ _ (rd_L1 t431 t434) from ge435_0); clear hv435_0 ge435_0; clear hcc435 hce435; have HR435_0 := Aside0.mk hi435_0; have HC435_0 := Aside0.mk hl435_0; clear hi435_0 hl435_0; replace p435 := eq_true p435; replace q435 := eq_true q435; have p436 : 0 ≤ (t434 : Int) := of_decide_eq_true (by first | (with_reducible assumption) | assumption); have q436 : t434 < (t431.length : Int) := of_decide_eq_true (by first | (with_reducible assumption) | assumption); obtain ⟨ad436, A436_0, c436_0, e436, hx436_0, hl436_0, hi436_0⟩ := at_L1 (Kd.S_reads' HO433.out).2.2 t434 p436 q436; obtain rfl : ad435 = ad436 := (by injection e436); obtain ⟨ce436, hce436, hMe436, hcc436⟩ := Kd.S_get HO433.out [] t434 p436 (by first | exact q436 | exact of_decide_eq_true (by first | (with_reducible assumption) | assumption) | (have e_ := (Kd.S_reads' HO433.out).1; omega)); obtain ⟨ve436_0, rfl, ge436_0⟩ := hMe436; have hv436_0 := hcc436 0 _ rfl; rw [Nat.add_zero, show ((Kd.slice 3 (Kd.int .i64))).sz = 1 from rfl, Nat.mul_one] at hv436_0; replace hv436_0 := Option.some.inj (hv436_0.symm.trans hx436_0); rw [hv436_0] at ge436_0; have HL436_0 := Aside0.mk (show Kd.R (Kd.int .i64) 3 _ _ _ _ (rd_L1 t431 t434) from ge436_0); clear hv436_0 ge436_0; clear hcc436 hce436; have HR436_0 := Aside0.mk hi436_0; have HC436_0 := Aside0.mk hl436_0; clear hi436_0 hl436_0; replace p436 := eq_true p436; replace q436 := eq_true q436; have ea_ := Option.some.inj (hx435_0.symm.trans hx436_0); injection ea_ with ea_ en_ ec_; subst ea_; subst ec_; clear en_; have p437 : 0 ≤ (t434 : Int) := of_decide_eq_true (by first | (with_reducible assumption) | assumption); have q437 : t434 < (t431.length : Int) := of_decide_eq_true (by first | (with_reducible assumption) | assumption); obtain ⟨ad437, A437_0, c437_0, e437, hx437_0, hl437_0, hi437_0⟩ := at_L1 (Kd.S_reads' HO433.out).2.2 t434 p437 q437; obtain rfl : ad435 = ad437 := (by injection e437); obtain ⟨ce437, hce437, hMe437, hcc437⟩ := Kd.S_get HO433.out [] t434 p437 (by first | exact q437 | exact of_decide_eq_true (by first | (with_reducible assumption) | assumption) | (have e_ := (Kd.S_reads' HO433.out).1; omega)); obtain ⟨ve437_0, rfl, ge437_0⟩ := hMe437; have hv437_0 := hcc437 0 _ rfl; rw [Nat.add_zero, show ((Kd.slice 3 (Kd.int .i64))).sz = 1 from rfl, Nat.mul_one] at hv437_0; replace hv437_0 := Option.some.inj (hv437_0.symm.trans hx437_0); rw [hv437_0] at ge437_0; have HL437_0 := Aside0.mk (show Kd.R (Kd.int .i64) 3 _ _ _ _ (rd_L1 t431 t434) from ge437_0); clear hv437_0 ge437_0; clear hcc437 hce437; have HR437_0 := Aside0.mk hi437_0; have HC437_0 := Aside0.mk hl437_0; clear hi437_0 hl437_0; replace p437 := eq_true p437; replace q437 := eq_true q437; have ea_ := Option.some.inj (hx435_0.symm.trans hx437_0); injection ea_ with ea_ en_ ec_; subst ea_; subst ec_; clear en_) | (go_at_call 31; (with_reducible refine (jacquardlaw02_rest.calls a1_1 ((rd_L1 t431 t434).length : Int) t438 _ A14.out).mono ?_); rintro e w' ⟨rfl, ⟨nd, rfl⟩⟩; (try first | exact ⟨rfl, _, World.drewN_drewN _ _ _⟩ | exact ⟨rfl, _, Eq.trans (World.drewN_drewN _ _ _) (congrArg (World.drewN _) (Nat.add_assoc _ _ _))⟩); have p439 : 0 ≤ (t438 : Int) := of_decide_eq_true (by first | (with_reducible assumption) | assumption); have q439 : t438 < ((rd_L1 t431 t434).length : Int) := of_decide_eq_true (by first | (with_reducible assumption) | assumption); obtain ⟨ad439, e439, hx439_0⟩ := Kd.at_int (by repeat (first | (with_reducible exact HR436_0.out) | (with_reducible refine Kd.C_alloc ?_ _) | (with_reducible refine Kd.C_drewN ?_ _) | (with_reducible refine Kd.C_drew ?_) | exact HR436_0.out)) t438 p439 q439; cases e439; replace p439 := eq_true p439; replace q439 := eq_true q439)); try go_wp2_with (first | ((with_reducible refine gate_dst (N := 3) rfl ?_); (try (refine gate_guard (by rfl) ?_; dsimp only)); refine box_event ?hg (N := 3) ?hd (cs := #[.int .i64 a1_0, .int .i64 a1_1]) (t := 73) ?hr ?_; (case hd => rfl); (case hg => rfl); (case hr => first | (go_simp; done) | (go_simp; rfl)); intro gb429 hg w17 hbox hb; have n0_ := Aside0.mk (below_step (by repeat (first | (with_reducible first | exact HB.out | apply below_alloc | apply pw_below_drewN | apply below_drew1) | exact HB.out)) hb); have n1_ := Aside0.mk (hbox); have n2_ := Aside0.mk ((by rw [hg]; exact (below_size (by repeat (first | (with_reducible first | exact HB.out | apply below_alloc | apply pw_below_drewN | apply below_drew1) | exact HB.out))) : w.heap.size ≤ gb429)); have n3_ := Aside0.mk ((by rw [hg]; exact (below_size (by repeat (first | (with_reducible first | exact HB.out | apply below_alloc | apply pw_below_drewN | apply below_drew1) | exact HB.out))) : w.heap.size ≤ gb429)); clear HB; have HB := n0_; have BK429 := n1_; have GW429 := n2_; have GE429 := n3_; clear n0_ n1_ n2_ n3_; clear hb hbox hg) | (go_at_call 22; (with_reducible refine (jacquardlaw02_awake.calls  t430 _ A3.out).mono ?_); rintro e w18 ⟨rfl, hb⟩; have n0_ := Aside0.mk (blk_below (g := gb429) (o := .cells #[.int .i64 a1_0, .int .i64 a1_1] 73 (0, 0)) (by (with_reducible repeat (first | refine blk_drewN ?_ _ | refine blk_drew ?_ | refine blk_alloc ?_ _)); exact BK429.out) hb); have n1_ := Aside0.mk (below_step (by repeat (first | (with_reducible first | exact HB.out | apply below_alloc | apply pw_below_drewN | apply below_drew1 | refine below_set ?_ GE429.out) | exact HB.out)) hb); clear BK429; clear HB; have BK429 := n0_; have HB := n1_; clear n0_ n1_; (try clear hb); (try clear hb2); (try clear hk); (try clear hi)) | (go_at_call 25; (with_reducible refine (jacquardref02_Made.calls k _ _ l0 t431 _ ?side1 ?side2 A4.out).mono ?_); (case side1 => repeat (first | exact (Kd.C_below HR0.out HB.out) | (with_reducible refine Kd.C_alloc ?_ _) | (with_reducible refine Kd.C_drewN ?_ _) | (with_reducible refine Kd.C_drew ?_))); (case side2 => exact HC0.out); rintro e w19 ⟨v432, rfl, ho0, hb⟩; have n0_ := Aside0.mk (Kd.S_lower ho0 (below_size (by repeat (first | (with_reducible first | exact HB.out | apply below_alloc | apply pw_below_drewN | apply below_drew1 | refine below_set ?_ GE429.out) | exact HB.out)))); have n1_ := Aside0.mk (blk_below (g := gb429) (o := .cells #[.int .i64 a1_0, .int .i64 a1_1] 73 (0, 0)) (by (with_reducible repeat (first | refine blk_drewN ?_ _ | refine blk_drew ?_ | refine blk_alloc ?_ _)); exact BK429.out) hb); have n2_ := Aside0.mk (below_step (by repeat (first | (with_reducible first | exact HB.out | apply below_alloc | apply pw_below_drewN | apply below_drew1 | refine below_set ?_ GE429.out) | exact HB.out)) hb); clear BK429; clear HB; have HO433 := n0_; have BK429 := n1_; have HB := n2_; clear n0_ n1_ n2_; (try clear hb); (try clear hb2); (try clear hk); (try clear hi); (try clear ho0); have hcz20_0 : w19.cell? ⟨gb429, 0, none⟩ = some (.int .i64 a1_0) := (blk_cell BK429.out 0).trans rfl; have hcz20_1 : w19.cell? ⟨gb429, 1, none⟩ = some (.int .i64 a1_1) := (blk_cell BK429.out 1).trans rfl; have hfz20_0 := blk_frozen BK429.out 0; have hfz20_1 := blk_frozen BK429.out 1; obtain ⟨Ao21, co21, eo21⟩ := Kd.S_slice HO433.out; subst eo21) | (go_at_call 31; (with_reducible refine (jacquardlaw02_rest.calls a1_0 (t431.length : Int) t434 _ A5.out).mono ?_); rintro e w' ⟨rfl, ⟨nd, rfl⟩⟩; (try first | exact ⟨rfl, _, World.drewN_drewN _ _ _⟩ | exact ⟨rfl, _, Eq.trans (World.drewN_drewN _ _ _) (congrArg (World.drewN _) (Nat.add_assoc _ _ _))⟩); have p435 : 0 ≤ (t434 : Int) := of_decide_eq_true (by first | (with_reducible assumption) | assumption); have q435 : t434 < (t431.length : Int) := of_decide_eq_true (by first | (with_reducible assumption) | assumption); obtain ⟨ad435, A435_0, c435_0, e435, hx435_0, hl435_0, hi435_0⟩ := at_L1 (Kd.S_reads' HO433.out).2.2 t434 p435 q435; cases e435; obtain ⟨ce435, hce435, hMe435, hcc435⟩ := Kd.S_get HO433.out [] t434 p435 (by first | exact q435 | exact of_decide_eq_true (by first | (with_reducible assumption) | assumption) | (have e_ := (Kd.S_reads' HO433.out).1; omega)); obtain ⟨ve435_0, rfl, ge435_0⟩ := hMe435; have hv435_0 := hcc435 0 _ rfl; rw [Nat.add_zero, show ((Kd.slice 3 (Kd.int .i64))).sz = 1 from rfl, Nat.mul_one] at hv435_0; replace hv435_0 := Option.some.inj (hv435_0.symm.trans hx435_0); rw [hv435_0] at ge435_0; have HL435_0 := Aside0.mk (show Kd.R (Kd.int .i64) 3 _ _ _ _ (rd_L1 t431 t434) from ge435_0); clear hv435_0 ge435_0; clear hcc435 hce435; have HR435_0 := Aside0.mk hi435_0; have HC435_0 := Aside0.mk hl435_0; clear hi435_0 hl435_0; replace p435 := eq_true p435; replace q435 := eq_true q435; have p436 : 0 ≤ (t434 : Int) := of_decide_eq_true (by first | (with_reducible assumption) | assumption); have q436 : t434 < (t431.length : Int) := of_decide_eq_true (by first | (with_reducible assumption) | assumption); obtain ⟨ad436, A436_0, c436_0, e436, hx436_0, hl436_0, hi436_0⟩ := at_L1 (Kd.S_reads' HO433.out).2.2 t434 p436 q436; obtain rfl : ad435 = ad436 := (by injection e436); obtain ⟨ce436, hce436, hMe436, hcc436⟩ := Kd.S_get HO433.out [] t434 p436 (by first | exact q436 | exact of_decide_eq_true (by first | (with_reducible assumption) | assumption) | (have e_ := (Kd.S_reads' HO433.out).1; omega)); obtain ⟨ve436_0, rfl, ge436_0⟩ := hMe436; have hv436_0 := hcc436 0 _ rfl; rw [Nat.add_zero, show ((Kd.slice 3 (Kd.int .i64))).sz = 1 from rfl, Nat.mul_one] at hv436_0; replace hv436_0 := Option.some.inj (hv436_0.symm.trans hx436_0); rw [hv436_0] at ge436_0; have HL436_0 := Aside0.mk (show Kd.R (Kd.int .i64) 3 _ _ _ _ (rd_L1 t431 t434) from ge436_0); clear hv436_0 ge436_0; clear hcc436 hce436; have HR436_0 := Aside0.mk hi436_0; have HC436_0 := Aside0.mk hl436_0; clear hi436_0 hl436_0; replace p436 := eq_true p436; replace q436 := eq_true q436; have ea_ := Option.some.inj (hx435_0.symm.trans hx436_0); injection ea_ with ea_ en_ ec_; subst ea_; subst ec_; clear en_; have p437 : 0 ≤ (t434 : Int) := of_decide_eq_true (by first | (with_reducible assumption) | assumption); have q437 : t434 < (t431.length : Int) := of_decide_eq_true (by first | (with_reducible assumption) | assumption); obtain ⟨ad437, A437_0, c437_0, e437, hx437_0, hl437_0, hi437_0⟩ := at_L1 (Kd.S_reads' HO433.out).2.2 t434 p437 q437; obtain rfl : ad435 = ad437 := (by injection e437); obtain ⟨ce437, hce437, hMe437, hcc437⟩ := Kd.S_get HO433.out [] t434 p437 (by first | exact q437 | exact of_decide_eq_true (by first | (with_reducible assumption) | assumption) | (have e_ := (Kd.S_reads' HO433.out).1; omega)); obtain ⟨ve437_0, rfl, ge437_0⟩ := hMe437; have hv437_0 := hcc437 0 _ rfl; rw [Nat.add_zero, show ((Kd.slice 3 (Kd.int .i64))).sz = 1 from rfl, Nat.mul_one] at hv437_0; replace hv437_0 := Option.some.inj (hv437_0.symm.trans hx437_0); rw [hv437_0] at ge437_0; have HL437_0 := Aside0.mk (show Kd.R (Kd.int .i64) 3 _ _ _ _ (rd_L1 t431 t434) from ge437_0); clear hv437_0 ge437_0; clear hcc437 hce437; have HR437_0 := Aside0.mk hi437_0; have HC437_0 := Aside0.mk hl437_0; clear hi437_0 hl437_0; replace p437 := eq_true p437; replace q437 := eq_true q437; have ea_ := Option.some.inj (hx435_0.symm.trans hx437_0); injection ea_ with ea_ en_ ec_; subst ea_; subst ec_; clear en_) | (go_at_call 31; (with_reducible refine (jacquardlaw02_rest.calls a1_1 ((rd_L1 t431 t434).length : Int) t438 _ A14.out).mono ?_); rintro e w' ⟨rfl, ⟨nd, rfl⟩⟩; (try first | exact ⟨rfl, _, World.drewN_drewN _ _ _⟩ | exact ⟨rfl, _, Eq.trans (World.drewN_drewN _ _ _) (congrArg (World.drewN _) (Nat.add_assoc _ _ _))⟩); have p439 : 0 ≤ (t438 : Int) := of_decide_eq_true (by first | (with_reducible assumption) | assumption); have q439 : t438 < ((rd_L1 t431 t434).length : Int) := of_decide_eq_true (by first | (with_reducible assumption) | assumption); obtain ⟨ad439, e439, hx439_0⟩ := Kd.at_int (by repeat (first | (with_reducible exact HR436_0.out) | (with_reducible refine Kd.C_alloc ?_ _) | (with_reducible refine Kd.C_drewN ?_ _) | (with_reducible refine Kd.C_drew ?_) | exact HR436_0.out)) t438 p439 q439; cases e439; replace p439 := eq_true p439; replace q439 := eq_true q439)))
            go_loopg [10, 11] k (fun kq v10 v11 w' => ∃ (x10_1 : List (List Int)) (x11_1 : Int), v11 = .int .i64 x11_1 ∧ Aside0 (jacquardlaw02_GraphPut.l0 kq t430 t431 t434 (rd (rd_L1 t431 t434) t438) (t431.length : Int) x10_1 x11_1 = some r) ∧ Aside0 (kq ≤ k) ∧ Aside0 (Kd.S (Kd.slice 3 (Kd.int .i64)) 23 w' w.heap.size (fun k_ => some k_ ≠ (v10 : Value).ownBlock) (.slice (some ad435) t431.length co21) t431) ∧ Aside0 (Kd.S (Kd.slice 3 (Kd.int .i64)) 23 w' w.heap.size (fun k_ => some k_ ≠ ((.slice (some ad435) t431.length co21) : Value).ownBlock) v10 x10_1) ∧ Aside0 (w'.heap[gb429]? = some (.cells #[.int .i64 a1_0, .int .i64 a1_1] 73 (0, 0))) ∧ Aside0 (Below w.heap.size w w'))
            case atStart => exact ⟨(([] : List (List Int))), (0), (by first | rfl | (simp; done) | (simp [*]; done)), H', ⟨Nat.le_refl _⟩, ⟨by (with_reducible repeat (first | apply Kd.S_alloc | apply Kd.S_drewN | apply Kd.S_drew)); exact Kd.S_mono HO433.out (fun _ hk => (by simp [Value.ownBlock]))⟩, ⟨by first | exact Kd.S_nil _ _ _ _ _ | exact Kd.N_nil _ _ _ _ _ | exact Kd.V_nil _ _ _ _ _ | exact Kd.Q_nil _ _ _ _ _ | exact Kd.R_nil _ _ _ _ _⟩, ⟨by (with_reducible repeat (first | refine blk_drewN ?_ _ | refine blk_drew ?_ | refine blk_alloc ?_ _)); exact BK429.out⟩, ⟨by repeat (first | (with_reducible first | exact HB.out | apply below_alloc | apply pw_below_drewN | apply below_drew1 | refine below_set ?_ GE429.out) | exact HB.out)⟩⟩
            case round =>
              clear H'; (try clear c1); (try clear p2); (try clear c4); (try clear p4); (try clear q4); (try clear hx4); (try clear c6); (try clear c6b0); (try clear c7); (try clear c7b0); (try clear c8); (try clear c8b0); (try clear c8b1); (try clear c8b2); (try clear c11); (try clear c15); (try clear c15b0); (try clear c16); (try clear c16b0); (try clear hcz12_0); (try clear hcz12_1); (try clear hcz20_0); (try clear hcz20_1); (try clear hfz12_0); (try clear hfz12_1); (try clear hfz20_0); (try clear hfz20_1); (try clear hx435_0); (try clear hx436_0); (try clear hx437_0); (try clear hx439_0); (try clear p435); (try clear p436); (try clear p437); (try clear p439); (try clear q435); (try clear q436); (try clear q437); (try clear q439)
              obtain ⟨x10_1, x11_1, rfl, HA, HK1, HO_6, HO_10, BK429, HB⟩ := hrel
              cases gk with
              | zero => exact absurd HA.out (by simp [jacquardlaw02_GraphPut.l0])
              | succ k1 =>
                have H := HA.out
                clear HA
                simp only [jacquardlaw02_GraphPut.l0] at H
                by_cases c22 : x11_1 < (t431.length : Int)
                · rw [if_pos c22] at H
                  have c22b0 : decide (x11_1 < (t431.length : Int)) = true := decide_eq_true c22
                  clear c22
                  have H' := Aside0.mk H
                  clear H
                  go_wp2
                  repeat (go_quiet (fail); try go_wp2)
                  go_loopg [12, 13] k1 (fun kq v12 v13 w' => ∃ (x12_2 : List Int) (x13_2 : Int), v13 = .int .i64 x13_2 ∧ Aside0 (jacquardlaw02_GraphPut.l1 kq t430 t431 t434 (rd (rd_L1 t431 t434) t438) (t431.length : Int) x10_1 x11_1 x12_2 x13_2 = some r) ∧ Aside0 (kq ≤ k1) ∧ Aside0 (Kd.S (Kd.slice 3 (Kd.int .i64)) 23 w' w.heap.size (fun k_ => some k_ ≠ (u10 : Value).ownBlock ∧ some k_ ≠ (v12 : Value).ownBlock) (.slice (some ad435) t431.length co21) t431) ∧ Aside0 (Kd.S (Kd.slice 3 (Kd.int .i64)) 23 w' w.heap.size (fun k_ => some k_ ≠ ((.slice (some ad435) t431.length co21) : Value).ownBlock ∧ some k_ ≠ (v12 : Value).ownBlock) u10 x10_1) ∧ Aside0 (Kd.R (Kd.int .i64) 3 w' w.heap.size (fun _ => True) v12 x12_2) ∧ Aside0 (w'.heap[gb429]? = some (.cells #[.int .i64 a1_0, .int .i64 a1_1] 73 (0, 0))) ∧ Aside0 (Below w.heap.size w w'))
                  case atStart => exact ⟨(([] : List Int)), (0), (by first | rfl | (simp; done) | (simp [*]; done)), H', ⟨Nat.le_refl _⟩, ⟨by (with_reducible repeat (first | apply Kd.S_alloc | apply Kd.S_drewN | apply Kd.S_drew)); exact Kd.S_mono HO_6.out (fun _ hk => ⟨hk, (by simp [Value.ownBlock])⟩)⟩, ⟨by (with_reducible repeat (first | apply Kd.S_alloc | apply Kd.S_drewN | apply Kd.S_drew)); exact Kd.S_mono HO_10.out (fun _ hk => ⟨hk, (by simp [Value.ownBlock])⟩)⟩, ⟨by first | exact Kd.R_nil _ _ _ _ _ | exact Kd.N_nil _ _ _ _ _ | exact Kd.V_nil _ _ _ _ _ | exact Kd.Q_nil _ _ _ _ _ | exact Kd.S_nil _ _ _ _ _⟩, ⟨by (with_reducible repeat (first | refine blk_drewN ?_ _ | refine blk_drew ?_ | refine blk_alloc ?_ _)); exact BK429.out⟩, ⟨by repeat (first | (with_reducible first | exact HB.out | apply below_alloc | apply pw_below_drewN | apply below_drew1 | refine below_set ?_ GE429.out) | exact HB.out)⟩⟩
                  case round =>
                    clear H'; (try clear c1); (try clear c2); (try clear p2); (try clear c4); (try clear p4); (try clear q4); (try clear hx4); (try clear c6); (try clear c6b0); (try clear c7); (try clear c7b0); (try clear c8); (try clear c8b0); (try clear c8b1); (try clear c8b2); (try clear c11); (try clear c15); (try clear c15b0); (try clear c16); (try clear c16b0); (try clear c22); (try clear c22b0); (try clear hcz12_0); (try clear hcz12_1); (try clear hcz20_0); (try clear hcz20_1); (try clear hfz12_0); (try clear hfz12_1); (try clear hfz20_0); (try clear hfz20_1); (try clear hx435_0); (try clear hx436_0); (try clear hx437_0); (try clear hx439_0); (try clear p2); (try clear p4); (try clear p435); (try clear p436); (try clear p437); (try clear p439); (try clear q4); (try clear q435); (try clear q436); (try clear q437); (try clear q439)
                    obtain ⟨x12_2, x13_2, rfl, HA, HK2, HO_6, HO_10, HO_12, BK429, HB⟩ := hrel
                    cases gk with
                    | zero => exact absurd HA.out (by simp [jacquardlaw02_GraphPut.l1])
                    | succ k2 =>
                      have H := HA.out
                      clear HA
                      simp only [jacquardlaw02_GraphPut.l1] at H
                      by_cases c23 : 0 ≤ x11_1
                      · rw [if_pos c23] at H
                        have c23b0 : decide (0 ≤ x11_1) = true := decide_eq_true c23
                        clear c23
                        by_cases c24 : x11_1 < (t431.length : Int)
                        · rw [if_pos c24] at H
                          have c24b0 : decide (x11_1 < (t431.length : Int)) = true := decide_eq_true c24
                          clear c24
                          by_cases c25 : x13_2 < ((rd_L1 t431 x11_1).length : Int)
                          · rw [if_pos c25] at H
                            have c25b0 : decide (x13_2 < ((rd_L1 t431 x11_1).length : Int)) = true := decide_eq_true c25
                            clear c25
                            by_cases c26 : x11_1 = t434
                            · rw [if_pos c26] at H
                              have c26b0 : (x11_1 == t434) = true := beq_iff_eq.mpr c26
                              have c26b1 : (x11_1 != t434) = false := bne_eq_false_iff_eq.mpr c26
                              clear c26
                              by_cases c27 : 0 ≤ x13_2
                              · rw [if_pos c27] at H
                                have c27b0 : decide (0 ≤ x13_2) = true := decide_eq_true c27
                                clear c27
                                by_cases c28 : (rd (rd_L1 t431 x11_1) x13_2) = (rd (rd_L1 t431 t434) t438)
                                · rw [if_pos c28] at H
                                  have c28b0 : ((rd (rd_L1 t431 x11_1) x13_2) == (rd (rd_L1 t431 t434) t438)) = true := beq_iff_eq.mpr c28
                                  have c28b1 : ((rd (rd_L1 t431 x11_1) x13_2) != (rd (rd_L1 t431 t434) t438)) = false := bne_eq_false_iff_eq.mpr c28
                                  clear c28
                                  by_cases c29 : x12_2.length < 17592186044416
                                  · rw [if_pos c29] at H
                                    have LMc29 := Aside0.mk c29
                                    clear c29
                                    obtain ⟨y443, hy443⟩ : ∃ y_ : List Int, y_ = (x12_2 ++ [(t431.length : Int)]) := ⟨_, rfl⟩
                                    replace H : (jacquardlaw02_GraphPut.l1 k2 t430 t431 t434 (rd (rd_L1 t431 t434) t438) (t431.length : Int) x10_1 x11_1 y443 (wrap64 (x13_2 + 1))) = some r := by first | (rw [hy443]; with_reducible exact H) | (have H2_ := (Option.bind_some _ _).symm.trans H; rw [hy443]; with_reducible exact H2_) | (have H2_ := (Option.bind_some _ _).symm.trans H; with_reducible exact H2_) | with_reducible exact H | (rw [hy443]; exact H) | exact H
                                    have Ny443 := Aside0.mk hy443
                                    clear hy443
                                    have H' := Aside0.mk H
                                    clear H
                                    have p440 : 0 ≤ (x11_1 : Int) := of_decide_eq_true (by first | (with_reducible assumption) | assumption)
                                    have q440 : x11_1 < (t431.length : Int) := of_decide_eq_true (by first | (with_reducible assumption) | assumption)
                                    obtain ⟨ad440, A440_0, c440_0, e440, hx440_0, hl440_0, hi440_0⟩ := at_L1 (Kd.S_reads' HO_6.out).2.2 x11_1 p440 q440
                                    obtain rfl : ad435 = ad440 := (by injection e440)
                                    obtain ⟨ce440, hce440, hMe440, hcc440⟩ := Kd.S_get HO_6.out [] x11_1 p440 (by first | exact q440 | exact of_decide_eq_true (by first | (with_reducible assumption) | assumption) | (have e_ := (Kd.S_reads' HO_6.out).1; omega))
                                    obtain ⟨ve440_0, rfl, ge440_0⟩ := hMe440
                                    have hv440_0 := hcc440 0 _ rfl
                                    rw [Nat.add_zero, show ((Kd.slice 3 (Kd.int .i64))).sz = 1 from rfl, Nat.mul_one] at hv440_0
                                    replace hv440_0 := Option.some.inj (hv440_0.symm.trans hx440_0)
                                    rw [hv440_0] at ge440_0
                                    have HL440_0 := Aside0.mk (show Kd.R (Kd.int .i64) 3 _ _ _ _ (rd_L1 t431 x11_1) from ge440_0)
                                    clear hv440_0 ge440_0; clear hcc440 hce440
                                    have HR440_0 := Aside0.mk hi440_0
                                    have HC440_0 := Aside0.mk hl440_0
                                    clear hi440_0 hl440_0
                                    replace p440 := eq_true p440
                                    replace q440 := eq_true q440
                                    have p441 : 0 ≤ (x11_1 : Int) := of_decide_eq_true (by first | (with_reducible assumption) | assumption)
                                    have q441 : x11_1 < (t431.length : Int) := of_decide_eq_true (by first | (with_reducible assumption) | assumption)
                                    obtain ⟨ad441, A441_0, c441_0, e441, hx441_0, hl441_0, hi441_0⟩ := at_L1 (Kd.S_reads' HO_6.out).2.2 x11_1 p441 q441
                                    obtain rfl : ad435 = ad441 := (by injection e441)
                                    obtain ⟨ce441, hce441, hMe441, hcc441⟩ := Kd.S_get HO_6.out [] x11_1 p441 (by first | exact q441 | exact of_decide_eq_true (by first | (with_reducible assumption) | assumption) | (have e_ := (Kd.S_reads' HO_6.out).1; omega))
                                    obtain ⟨ve441_0, rfl, ge441_0⟩ := hMe441
                                    have hv441_0 := hcc441 0 _ rfl
                                    rw [Nat.add_zero, show ((Kd.slice 3 (Kd.int .i64))).sz = 1 from rfl, Nat.mul_one] at hv441_0
                                    replace hv441_0 := Option.some.inj (hv441_0.symm.trans hx441_0)
                                    rw [hv441_0] at ge441_0
                                    have HL441_0 := Aside0.mk (show Kd.R (Kd.int .i64) 3 _ _ _ _ (rd_L1 t431 x11_1) from ge441_0)
                                    clear hv441_0 ge441_0; clear hcc441 hce441
                                    have HR441_0 := Aside0.mk hi441_0
                                    have HC441_0 := Aside0.mk hl441_0
                                    clear hi441_0 hl441_0
                                    replace p441 := eq_true p441
                                    replace q441 := eq_true q441
                                    have ea_ := Option.some.inj (hx440_0.symm.trans hx441_0)
                                    injection ea_ with ea_ en_ ec_
                                    subst ea_
                                    subst ec_
                                    clear en_
                                    have p442 : 0 ≤ (x13_2 : Int) := of_decide_eq_true (by first | (with_reducible assumption) | assumption)
                                    have q442 : x13_2 < ((rd_L1 t431 x11_1).length : Int) := of_decide_eq_true (by first | (with_reducible assumption) | assumption)
                                    obtain ⟨ad442, e442, hx442_0⟩ := Kd.at_int (by repeat (first | (with_reducible exact HR441_0.out) | (with_reducible refine Kd.C_alloc ?_ _) | (with_reducible refine Kd.C_drewN ?_ _) | (with_reducible refine Kd.C_drew ?_) | exact HR441_0.out)) x13_2 p442 q442
                                    cases e442
                                    replace p442 := eq_true p442
                                    replace q442 := eq_true q442
                                    go_wp2_with (first | ((with_reducible refine gate_builtin (b := .append) (xs := #[.tmp 79, .tmp 81]) rfl ?_); (try (refine gate_guard (by rfl) ?_; dsimp only)); at_builtin; refine Kd.R_append (Kd.int .i64) (w0 := w) w.heap.size rfl (.tmp 79) (.tmp 81) 23 3 (.int .i64 0) 8 rfl Try.underlying23 info3 rfl (by decide) (by omega) u12 x12_2 (t431.length : Int) [.int .i64 (t431.length : Int)] (fun _ => True) (fun _ => False) rfl rfl ?aP (fun _ hk => hk.elim) ?aF ?aO ?aB ?aS ?aL ?_; (case aP => exact rfl); (case aB => exact (by repeat (first | (with_reducible first | exact HB.out | apply below_alloc | apply pw_below_drewN | apply below_drew1 | refine below_set ?_ GE429.out) | exact HB.out))); (case aF => exact (fun _ _ => trivial)); (case aO => exact (by (with_reducible repeat (first | apply Kd.R_alloc | apply Kd.R_drewN | apply Kd.R_drew)); exact HO_12.out)); (case aS => exact (below_size (by repeat (first | (with_reducible first | exact HB.out | apply below_alloc | apply pw_below_drewN | apply below_drew1 | refine below_set ?_ GE429.out) | exact HB.out)))); (case aL => have := LMc29.out; omega); intro v444 w30 ho hb hg hat; rw [← Ny443.out] at ho; have n0_ := Aside0.mk (Kd.S_after (ok := (fun k_ => some k_ ≠ (u10 : Value).ownBlock)) (by (with_reducible repeat (first | apply Kd.S_alloc | apply Kd.S_drewN | apply Kd.S_drew)); exact HO_6.out) hg hat); have n1_ := Aside0.mk (Kd.S_after (ok := (fun k_ => some k_ ≠ (.slice (some ad435) t431.length co21 : Value).ownBlock)) (by (with_reducible repeat (first | apply Kd.S_alloc | apply Kd.S_drewN | apply Kd.S_drew)); exact HO_10.out) hg hat); have n2_ := Aside0.mk (blk_grown (g := gb429) (o := .cells #[.int .i64 a1_0, .int .i64 a1_1] 73 (0, 0)) (by (with_reducible repeat (first | refine blk_drewN ?_ _ | refine blk_drew ?_ | refine blk_alloc ?_ _)); exact BK429.out) hg (Kd.R_ne HO_12.out BK429.out (by decide))); have n3_ := Aside0.mk (Kd.R_after (ok := (fun k_ => some k_ ≠ (.slice (some ad435) t431.length co21 : Value).ownBlock ∧ some k_ ≠ (u10 : Value).ownBlock)) (by (with_reducible repeat (first | apply Kd.R_alloc | apply Kd.R_drewN | apply Kd.R_drew)); exact Kd.R_mono HL440_0.out (fun _ hk => ⟨⟨hk.2, hk.1.1⟩, hk.1.2⟩)) hg hat); have n4_ := Aside0.mk (Kd.R_after (ok := (fun k_ => some k_ ≠ (.slice (some ad435) t431.length co21 : Value).ownBlock ∧ some k_ ≠ (u10 : Value).ownBlock)) (by (with_reducible repeat (first | apply Kd.R_alloc | apply Kd.R_drewN | apply Kd.R_drew)); exact Kd.R_mono HL441_0.out (fun _ hk => ⟨⟨hk.2, hk.1.1⟩, hk.1.2⟩)) hg hat); have n5_ := Aside0.mk (hb); have n6_ := Aside0.mk (ho); clear HO_6; clear HO_10; clear BK429; clear HL440_0; clear HL441_0; clear HB; clear HO_12; have HO_6 := n0_; have HO_10 := n1_; have BK429 := n2_; have HL440_0 := n3_; have HL441_0 := n4_; have HB := n5_; have HO445 := n6_; clear n0_ n1_ n2_ n3_ n4_ n5_ n6_; clear ho hb hg hat))
                                    repeat (go_quiet (first | ((with_reducible refine gate_builtin (b := .append) (xs := #[.tmp 79, .tmp 81]) rfl ?_); (try (refine gate_guard (by rfl) ?_; dsimp only)); at_builtin; refine Kd.R_append (Kd.int .i64) (w0 := w) w.heap.size rfl (.tmp 79) (.tmp 81) 23 3 (.int .i64 0) 8 rfl Try.underlying23 info3 rfl (by decide) (by omega) u12 x12_2 (t431.length : Int) [.int .i64 (t431.length : Int)] (fun _ => True) (fun _ => False) rfl rfl ?aP (fun _ hk => hk.elim) ?aF ?aO ?aB ?aS ?aL ?_; (case aP => exact rfl); (case aB => exact (by repeat (first | (with_reducible first | exact HB.out | apply below_alloc | apply pw_below_drewN | apply below_drew1 | refine below_set ?_ GE429.out) | exact HB.out))); (case aF => exact (fun _ _ => trivial)); (case aO => exact (by (with_reducible repeat (first | apply Kd.R_alloc | apply Kd.R_drewN | apply Kd.R_drew)); exact HO_12.out)); (case aS => exact (below_size (by repeat (first | (with_reducible first | exact HB.out | apply below_alloc | apply pw_below_drewN | apply below_drew1 | refine below_set ?_ GE429.out) | exact HB.out)))); (case aL => have := LMc29.out; omega); intro v444 w30 ho hb hg hat; rw [← Ny443.out] at ho; have n0_ := Aside0.mk (Kd.S_after (ok := (fun k_ => some k_ ≠ (u10 : Value).ownBlock)) (by (with_reducible repeat (first | apply Kd.S_alloc | apply Kd.S_drewN | apply Kd.S_drew)); exact HO_6.out) hg hat); have n1_ := Aside0.mk (Kd.S_after (ok := (fun k_ => some k_ ≠ (.slice (some ad435) t431.length co21 : Value).ownBlock)) (by (with_reducible repeat (first | apply Kd.S_alloc | apply Kd.S_drewN | apply Kd.S_drew)); exact HO_10.out) hg hat); have n2_ := Aside0.mk (blk_grown (g := gb429) (o := .cells #[.int .i64 a1_0, .int .i64 a1_1] 73 (0, 0)) (by (with_reducible repeat (first | refine blk_drewN ?_ _ | refine blk_drew ?_ | refine blk_alloc ?_ _)); exact BK429.out) hg (Kd.R_ne HO_12.out BK429.out (by decide))); have n3_ := Aside0.mk (Kd.R_after (ok := (fun k_ => some k_ ≠ (.slice (some ad435) t431.length co21 : Value).ownBlock ∧ some k_ ≠ (u10 : Value).ownBlock)) (by (with_reducible repeat (first | apply Kd.R_alloc | apply Kd.R_drewN | apply Kd.R_drew)); exact Kd.R_mono HL440_0.out (fun _ hk => ⟨⟨hk.2, hk.1.1⟩, hk.1.2⟩)) hg hat); have n4_ := Aside0.mk (Kd.R_after (ok := (fun k_ => some k_ ≠ (.slice (some ad435) t431.length co21 : Value).ownBlock ∧ some k_ ≠ (u10 : Value).ownBlock)) (by (with_reducible repeat (first | apply Kd.R_alloc | apply Kd.R_drewN | apply Kd.R_drew)); exact Kd.R_mono HL441_0.out (fun _ hk => ⟨⟨hk.2, hk.1.1⟩, hk.1.2⟩)) hg hat); have n5_ := Aside0.mk (hb); have n6_ := Aside0.mk (ho); clear HO_6; clear HO_10; clear BK429; clear HL440_0; clear HL441_0; clear HB; clear HO_12; have HO_6 := n0_; have HO_10 := n1_; have BK429 := n2_; have HL440_0 := n3_; have HL441_0 := n4_; have HB := n5_; have HO445 := n6_; clear n0_ n1_ n2_ n3_ n4_ n5_ n6_; clear ho hb hg hat)); try go_wp2_with (first | ((with_reducible refine gate_builtin (b := .append) (xs := #[.tmp 79, .tmp 81]) rfl ?_); (try (refine gate_guard (by rfl) ?_; dsimp only)); at_builtin; refine Kd.R_append (Kd.int .i64) (w0 := w) w.heap.size rfl (.tmp 79) (.tmp 81) 23 3 (.int .i64 0) 8 rfl Try.underlying23 info3 rfl (by decide) (by omega) u12 x12_2 (t431.length : Int) [.int .i64 (t431.length : Int)] (fun _ => True) (fun _ => False) rfl rfl ?aP (fun _ hk => hk.elim) ?aF ?aO ?aB ?aS ?aL ?_; (case aP => exact rfl); (case aB => exact (by repeat (first | (with_reducible first | exact HB.out | apply below_alloc | apply pw_below_drewN | apply below_drew1 | refine below_set ?_ GE429.out) | exact HB.out))); (case aF => exact (fun _ _ => trivial)); (case aO => exact (by (with_reducible repeat (first | apply Kd.R_alloc | apply Kd.R_drewN | apply Kd.R_drew)); exact HO_12.out)); (case aS => exact (below_size (by repeat (first | (with_reducible first | exact HB.out | apply below_alloc | apply pw_below_drewN | apply below_drew1 | refine below_set ?_ GE429.out) | exact HB.out)))); (case aL => have := LMc29.out; omega); intro v444 w30 ho hb hg hat; rw [← Ny443.out] at ho; have n0_ := Aside0.mk (Kd.S_after (ok := (fun k_ => some k_ ≠ (u10 : Value).ownBlock)) (by (with_reducible repeat (first | apply Kd.S_alloc | apply Kd.S_drewN | apply Kd.S_drew)); exact HO_6.out) hg hat); have n1_ := Aside0.mk (Kd.S_after (ok := (fun k_ => some k_ ≠ (.slice (some ad435) t431.length co21 : Value).ownBlock)) (by (with_reducible repeat (first | apply Kd.S_alloc | apply Kd.S_drewN | apply Kd.S_drew)); exact HO_10.out) hg hat); have n2_ := Aside0.mk (blk_grown (g := gb429) (o := .cells #[.int .i64 a1_0, .int .i64 a1_1] 73 (0, 0)) (by (with_reducible repeat (first | refine blk_drewN ?_ _ | refine blk_drew ?_ | refine blk_alloc ?_ _)); exact BK429.out) hg (Kd.R_ne HO_12.out BK429.out (by decide))); have n3_ := Aside0.mk (Kd.R_after (ok := (fun k_ => some k_ ≠ (.slice (some ad435) t431.length co21 : Value).ownBlock ∧ some k_ ≠ (u10 : Value).ownBlock)) (by (with_reducible repeat (first | apply Kd.R_alloc | apply Kd.R_drewN | apply Kd.R_drew)); exact Kd.R_mono HL440_0.out (fun _ hk => ⟨⟨hk.2, hk.1.1⟩, hk.1.2⟩)) hg hat); have n4_ := Aside0.mk (Kd.R_after (ok := (fun k_ => some k_ ≠ (.slice (some ad435) t431.length co21 : Value).ownBlock ∧ some k_ ≠ (u10 : Value).ownBlock)) (by (with_reducible repeat (first | apply Kd.R_alloc | apply Kd.R_drewN | apply Kd.R_drew)); exact Kd.R_mono HL441_0.out (fun _ hk => ⟨⟨hk.2, hk.1.1⟩, hk.1.2⟩)) hg hat); have n5_ := Aside0.mk (hb); have n6_ := Aside0.mk (ho); clear HO_6; clear HO_10; clear BK429; clear HL440_0; clear HL441_0; clear HB; clear HO_12; have HO_6 := n0_; have HO_10 := n1_; have BK429 := n2_; have HL440_0 := n3_; have HL441_0 := n4_; have HB := n5_; have HO445 := n6_; clear n0_ n1_ n2_ n3_ n4_ n5_ n6_; clear ho hb hg hat)))
                                    go_roundg k2
                                    case measure => have := HK1.out; have := HK2.out; omega
                                    case rel => exact ⟨(y443), (wrap64 (x13_2 + 1)), (by first | rfl | (simp; done) | (simp [*]; done)), H', ⟨by have := HK1.out; have := HK2.out; omega⟩, ⟨by (with_reducible repeat (first | apply Kd.S_alloc | apply Kd.S_drewN | apply Kd.S_drew)); exact HO_6.out⟩, ⟨by (with_reducible repeat (first | apply Kd.S_alloc | apply Kd.S_drewN | apply Kd.S_drew)); exact HO_10.out⟩, ⟨by (with_reducible repeat (first | apply Kd.R_alloc | apply Kd.R_drewN | apply Kd.R_drew)); exact HO445.out⟩, ⟨by (with_reducible repeat (first | refine blk_drewN ?_ _ | refine blk_drew ?_ | refine blk_alloc ?_ _)); exact BK429.out⟩, ⟨by repeat (first | (with_reducible first | exact HB.out | apply below_alloc | apply pw_below_drewN | apply below_drew1 | refine below_set ?_ GE429.out) | exact HB.out)⟩⟩
                                  · rw [if_neg c29] at H
                                    exact absurd H (by simp)
                                · rw [if_neg c28] at H
                                  have c28b0 : ((rd (rd_L1 t431 x11_1) x13_2) == (rd (rd_L1 t431 t434) t438)) = false := beq_eq_false_iff_ne.mpr c28
                                  have c28b1 : ((rd (rd_L1 t431 x11_1) x13_2) != (rd (rd_L1 t431 t434) t438)) = true := bne_iff_ne.mpr c28
                                  by_cases c31 : x12_2.length < 17592186044416
                                  · rw [if_pos c31] at H
                                    have LMc31 := Aside0.mk c31
                                    clear c31
                                    obtain ⟨y448, hy448⟩ : ∃ y_ : List Int, y_ = (x12_2 ++ [rd (rd_L1 t431 x11_1) x13_2]) := ⟨_, rfl⟩
                                    replace H : (jacquardlaw02_GraphPut.l1 k2 t430 t431 t434 (rd (rd_L1 t431 t434) t438) (t431.length : Int) x10_1 x11_1 y448 (wrap64 (x13_2 + 1))) = some r := by first | (rw [hy448]; with_reducible exact H) | (have H2_ := (Option.bind_some _ _).symm.trans H; rw [hy448]; with_reducible exact H2_) | (have H2_ := (Option.bind_some _ _).symm.trans H; with_reducible exact H2_) | with_reducible exact H | (rw [hy448]; exact H) | exact H
                                    have Ny448 := Aside0.mk hy448
                                    clear hy448
                                    have H' := Aside0.mk H
                                    clear H
                                    have p440 : 0 ≤ (x11_1 : Int) := of_decide_eq_true (by first | (with_reducible assumption) | assumption)
                                    have q440 : x11_1 < (t431.length : Int) := of_decide_eq_true (by first | (with_reducible assumption) | assumption)
                                    obtain ⟨ad440, A440_0, c440_0, e440, hx440_0, hl440_0, hi440_0⟩ := at_L1 (Kd.S_reads' HO_6.out).2.2 x11_1 p440 q440
                                    obtain rfl : ad435 = ad440 := (by injection e440)
                                    obtain ⟨ce440, hce440, hMe440, hcc440⟩ := Kd.S_get HO_6.out [] x11_1 p440 (by first | exact q440 | exact of_decide_eq_true (by first | (with_reducible assumption) | assumption) | (have e_ := (Kd.S_reads' HO_6.out).1; omega))
                                    obtain ⟨ve440_0, rfl, ge440_0⟩ := hMe440
                                    have hv440_0 := hcc440 0 _ rfl
                                    rw [Nat.add_zero, show ((Kd.slice 3 (Kd.int .i64))).sz = 1 from rfl, Nat.mul_one] at hv440_0
                                    replace hv440_0 := Option.some.inj (hv440_0.symm.trans hx440_0)
                                    rw [hv440_0] at ge440_0
                                    have HL440_0 := Aside0.mk (show Kd.R (Kd.int .i64) 3 _ _ _ _ (rd_L1 t431 x11_1) from ge440_0)
                                    clear hv440_0 ge440_0; clear hcc440 hce440
                                    have HR440_0 := Aside0.mk hi440_0
                                    have HC440_0 := Aside0.mk hl440_0
                                    clear hi440_0 hl440_0
                                    replace p440 := eq_true p440
                                    replace q440 := eq_true q440
                                    have p441 : 0 ≤ (x11_1 : Int) := of_decide_eq_true (by first | (with_reducible assumption) | assumption)
                                    have q441 : x11_1 < (t431.length : Int) := of_decide_eq_true (by first | (with_reducible assumption) | assumption)
                                    obtain ⟨ad441, A441_0, c441_0, e441, hx441_0, hl441_0, hi441_0⟩ := at_L1 (Kd.S_reads' HO_6.out).2.2 x11_1 p441 q441
                                    obtain rfl : ad435 = ad441 := (by injection e441)
                                    obtain ⟨ce441, hce441, hMe441, hcc441⟩ := Kd.S_get HO_6.out [] x11_1 p441 (by first | exact q441 | exact of_decide_eq_true (by first | (with_reducible assumption) | assumption) | (have e_ := (Kd.S_reads' HO_6.out).1; omega))
                                    obtain ⟨ve441_0, rfl, ge441_0⟩ := hMe441
                                    have hv441_0 := hcc441 0 _ rfl
                                    rw [Nat.add_zero, show ((Kd.slice 3 (Kd.int .i64))).sz = 1 from rfl, Nat.mul_one] at hv441_0
                                    replace hv441_0 := Option.some.inj (hv441_0.symm.trans hx441_0)
                                    rw [hv441_0] at ge441_0
                                    have HL441_0 := Aside0.mk (show Kd.R (Kd.int .i64) 3 _ _ _ _ (rd_L1 t431 x11_1) from ge441_0)
                                    clear hv441_0 ge441_0; clear hcc441 hce441
                                    have HR441_0 := Aside0.mk hi441_0
                                    have HC441_0 := Aside0.mk hl441_0
                                    clear hi441_0 hl441_0
                                    replace p441 := eq_true p441
                                    replace q441 := eq_true q441
                                    have ea_ := Option.some.inj (hx440_0.symm.trans hx441_0)
                                    injection ea_ with ea_ en_ ec_
                                    subst ea_
                                    subst ec_
                                    clear en_
                                    have p442 : 0 ≤ (x13_2 : Int) := of_decide_eq_true (by first | (with_reducible assumption) | assumption)
                                    have q442 : x13_2 < ((rd_L1 t431 x11_1).length : Int) := of_decide_eq_true (by first | (with_reducible assumption) | assumption)
                                    obtain ⟨ad442, e442, hx442_0⟩ := Kd.at_int (by repeat (first | (with_reducible exact HR441_0.out) | (with_reducible refine Kd.C_alloc ?_ _) | (with_reducible refine Kd.C_drewN ?_ _) | (with_reducible refine Kd.C_drew ?_) | exact HR441_0.out)) x13_2 p442 q442
                                    cases e442
                                    replace p442 := eq_true p442
                                    replace q442 := eq_true q442
                                    have p446 : 0 ≤ (x11_1 : Int) := of_decide_eq_true (by first | (with_reducible assumption) | assumption)
                                    have q446 : x11_1 < (t431.length : Int) := of_decide_eq_true (by first | (with_reducible assumption) | assumption)
                                    obtain ⟨ad446, A446_0, c446_0, e446, hx446_0, hl446_0, hi446_0⟩ := at_L1 (Kd.S_reads' HO_6.out).2.2 x11_1 p446 q446
                                    obtain rfl : ad435 = ad446 := (by injection e446)
                                    obtain ⟨ce446, hce446, hMe446, hcc446⟩ := Kd.S_get HO_6.out [] x11_1 p446 (by first | exact q446 | exact of_decide_eq_true (by first | (with_reducible assumption) | assumption) | (have e_ := (Kd.S_reads' HO_6.out).1; omega))
                                    obtain ⟨ve446_0, rfl, ge446_0⟩ := hMe446
                                    have hv446_0 := hcc446 0 _ rfl
                                    rw [Nat.add_zero, show ((Kd.slice 3 (Kd.int .i64))).sz = 1 from rfl, Nat.mul_one] at hv446_0
                                    replace hv446_0 := Option.some.inj (hv446_0.symm.trans hx446_0)
                                    rw [hv446_0] at ge446_0
                                    have HL446_0 := Aside0.mk (show Kd.R (Kd.int .i64) 3 _ _ _ _ (rd_L1 t431 x11_1) from ge446_0)
                                    clear hv446_0 ge446_0; clear hcc446 hce446
                                    have HR446_0 := Aside0.mk hi446_0
                                    have HC446_0 := Aside0.mk hl446_0
                                    clear hi446_0 hl446_0
                                    replace p446 := eq_true p446
                                    replace q446 := eq_true q446
                                    have ea_ := Option.some.inj (hx440_0.symm.trans hx446_0)
                                    injection ea_ with ea_ en_ ec_
                                    subst ea_
                                    subst ec_
                                    clear en_
                                    have p447 : 0 ≤ (x13_2 : Int) := of_decide_eq_true (by first | (with_reducible assumption) | assumption)
                                    have q447 : x13_2 < ((rd_L1 t431 x11_1).length : Int) := of_decide_eq_true (by first | (with_reducible assumption) | assumption)
                                    obtain ⟨ad447, e447, hx447_0⟩ := Kd.at_int (by repeat (first | (with_reducible exact HR446_0.out) | (with_reducible refine Kd.C_alloc ?_ _) | (with_reducible refine Kd.C_drewN ?_ _) | (with_reducible refine Kd.C_drew ?_) | exact HR446_0.out)) x13_2 p447 q447
                                    cases e447
                                    replace p447 := eq_true p447
                                    replace q447 := eq_true q447
                                    go_wp2_with (first | ((with_reducible refine gate_builtin (b := .append) (xs := #[.tmp 83, .tmp 91]) rfl ?_); (try (refine gate_guard (by rfl) ?_; dsimp only)); at_builtin; refine Kd.R_append (Kd.int .i64) (w0 := w) w.heap.size rfl (.tmp 83) (.tmp 91) 23 3 (.int .i64 0) 8 rfl Try.underlying23 info3 rfl (by decide) (by omega) u12 x12_2 (rd (rd_L1 t431 x11_1) x13_2) [.int .i64 (rd (rd_L1 t431 x11_1) x13_2)] (fun _ => True) (fun _ => False) rfl rfl ?aP (fun _ hk => hk.elim) ?aF ?aO ?aB ?aS ?aL ?_; (case aP => exact rfl); (case aB => exact (by repeat (first | (with_reducible first | exact HB.out | apply below_alloc | apply pw_below_drewN | apply below_drew1 | refine below_set ?_ GE429.out) | exact HB.out))); (case aF => exact (fun _ _ => trivial)); (case aO => exact (by (with_reducible repeat (first | apply Kd.R_alloc | apply Kd.R_drewN | apply Kd.R_drew)); exact HO_12.out)); (case aS => exact (below_size (by repeat (first | (with_reducible first | exact HB.out | apply below_alloc | apply pw_below_drewN | apply below_drew1 | refine below_set ?_ GE429.out) | exact HB.out)))); (case aL => have := LMc31.out; omega); intro v449 w32 ho hb hg hat; rw [← Ny448.out] at ho; have n0_ := Aside0.mk (Kd.S_after (ok := (fun k_ => some k_ ≠ (u10 : Value).ownBlock)) (by (with_reducible repeat (first | apply Kd.S_alloc | apply Kd.S_drewN | apply Kd.S_drew)); exact HO_6.out) hg hat); have n1_ := Aside0.mk (Kd.S_after (ok := (fun k_ => some k_ ≠ (.slice (some ad435) t431.length co21 : Value).ownBlock)) (by (with_reducible repeat (first | apply Kd.S_alloc | apply Kd.S_drewN | apply Kd.S_drew)); exact HO_10.out) hg hat); have n2_ := Aside0.mk (blk_grown (g := gb429) (o := .cells #[.int .i64 a1_0, .int .i64 a1_1] 73 (0, 0)) (by (with_reducible repeat (first | refine blk_drewN ?_ _ | refine blk_drew ?_ | refine blk_alloc ?_ _)); exact BK429.out) hg (Kd.R_ne HO_12.out BK429.out (by decide))); have n3_ := Aside0.mk (Kd.R_after (ok := (fun k_ => some k_ ≠ (.slice (some ad435) t431.length co21 : Value).ownBlock ∧ some k_ ≠ (u10 : Value).ownBlock)) (by (with_reducible repeat (first | apply Kd.R_alloc | apply Kd.R_drewN | apply Kd.R_drew)); exact Kd.R_mono HL440_0.out (fun _ hk => ⟨⟨hk.2, hk.1.1⟩, hk.1.2⟩)) hg hat); have n4_ := Aside0.mk (Kd.R_after (ok := (fun k_ => some k_ ≠ (.slice (some ad435) t431.length co21 : Value).ownBlock ∧ some k_ ≠ (u10 : Value).ownBlock)) (by (with_reducible repeat (first | apply Kd.R_alloc | apply Kd.R_drewN | apply Kd.R_drew)); exact Kd.R_mono HL441_0.out (fun _ hk => ⟨⟨hk.2, hk.1.1⟩, hk.1.2⟩)) hg hat); have n5_ := Aside0.mk (Kd.R_after (ok := (fun k_ => some k_ ≠ (.slice (some ad435) t431.length co21 : Value).ownBlock ∧ some k_ ≠ (u10 : Value).ownBlock)) (by (with_reducible repeat (first | apply Kd.R_alloc | apply Kd.R_drewN | apply Kd.R_drew)); exact Kd.R_mono HL446_0.out (fun _ hk => ⟨⟨hk.2, hk.1.1⟩, hk.1.2⟩)) hg hat); have n6_ := Aside0.mk (hb); have n7_ := Aside0.mk (ho); clear HO_6; clear HO_10; clear BK429; clear HL440_0; clear HL441_0; clear HL446_0; clear HB; clear HO_12; have HO_6 := n0_; have HO_10 := n1_; have BK429 := n2_; have HL440_0 := n3_; have HL441_0 := n4_; have HL446_0 := n5_; have HB := n6_; have HO450 := n7_; clear n0_ n1_ n2_ n3_ n4_ n5_ n6_ n7_; clear ho hb hg hat))
                                    repeat (go_quiet (first | ((with_reducible refine gate_builtin (b := .append) (xs := #[.tmp 83, .tmp 91]) rfl ?_); (try (refine gate_guard (by rfl) ?_; dsimp only)); at_builtin; refine Kd.R_append (Kd.int .i64) (w0 := w) w.heap.size rfl (.tmp 83) (.tmp 91) 23 3 (.int .i64 0) 8 rfl Try.underlying23 info3 rfl (by decide) (by omega) u12 x12_2 (rd (rd_L1 t431 x11_1) x13_2) [.int .i64 (rd (rd_L1 t431 x11_1) x13_2)] (fun _ => True) (fun _ => False) rfl rfl ?aP (fun _ hk => hk.elim) ?aF ?aO ?aB ?aS ?aL ?_; (case aP => exact rfl); (case aB => exact (by repeat (first | (with_reducible first | exact HB.out | apply below_alloc | apply pw_below_drewN | apply below_drew1 | refine below_set ?_ GE429.out) | exact HB.out))); (case aF => exact (fun _ _ => trivial)); (case aO => exact (by (with_reducible repeat (first | apply Kd.R_alloc | apply Kd.R_drewN | apply Kd.R_drew)); exact HO_12.out)); (case aS => exact (below_size (by repeat (first | (with_reducible first | exact HB.out | apply below_alloc | apply pw_below_drewN | apply below_drew1 | refine below_set ?_ GE429.out) | exact HB.out)))); (case aL => have := LMc31.out; omega); intro v449 w32 ho hb hg hat; rw [← Ny448.out] at ho; have n0_ := Aside0.mk (Kd.S_after (ok := (fun k_ => some k_ ≠ (u10 : Value).ownBlock)) (by (with_reducible repeat (first | apply Kd.S_alloc | apply Kd.S_drewN | apply Kd.S_drew)); exact HO_6.out) hg hat); have n1_ := Aside0.mk (Kd.S_after (ok := (fun k_ => some k_ ≠ (.slice (some ad435) t431.length co21 : Value).ownBlock)) (by (with_reducible repeat (first | apply Kd.S_alloc | apply Kd.S_drewN | apply Kd.S_drew)); exact HO_10.out) hg hat); have n2_ := Aside0.mk (blk_grown (g := gb429) (o := .cells #[.int .i64 a1_0, .int .i64 a1_1] 73 (0, 0)) (by (with_reducible repeat (first | refine blk_drewN ?_ _ | refine blk_drew ?_ | refine blk_alloc ?_ _)); exact BK429.out) hg (Kd.R_ne HO_12.out BK429.out (by decide))); have n3_ := Aside0.mk (Kd.R_after (ok := (fun k_ => some k_ ≠ (.slice (some ad435) t431.length co21 : Value).ownBlock ∧ some k_ ≠ (u10 : Value).ownBlock)) (by (with_reducible repeat (first | apply Kd.R_alloc | apply Kd.R_drewN | apply Kd.R_drew)); exact Kd.R_mono HL440_0.out (fun _ hk => ⟨⟨hk.2, hk.1.1⟩, hk.1.2⟩)) hg hat); have n4_ := Aside0.mk (Kd.R_after (ok := (fun k_ => some k_ ≠ (.slice (some ad435) t431.length co21 : Value).ownBlock ∧ some k_ ≠ (u10 : Value).ownBlock)) (by (with_reducible repeat (first | apply Kd.R_alloc | apply Kd.R_drewN | apply Kd.R_drew)); exact Kd.R_mono HL441_0.out (fun _ hk => ⟨⟨hk.2, hk.1.1⟩, hk.1.2⟩)) hg hat); have n5_ := Aside0.mk (Kd.R_after (ok := (fun k_ => some k_ ≠ (.slice (some ad435) t431.length co21 : Value).ownBlock ∧ some k_ ≠ (u10 : Value).ownBlock)) (by (with_reducible repeat (first | apply Kd.R_alloc | apply Kd.R_drewN | apply Kd.R_drew)); exact Kd.R_mono HL446_0.out (fun _ hk => ⟨⟨hk.2, hk.1.1⟩, hk.1.2⟩)) hg hat); have n6_ := Aside0.mk (hb); have n7_ := Aside0.mk (ho); clear HO_6; clear HO_10; clear BK429; clear HL440_0; clear HL441_0; clear HL446_0; clear HB; clear HO_12; have HO_6 := n0_; have HO_10 := n1_; have BK429 := n2_; have HL440_0 := n3_; have HL441_0 := n4_; have HL446_0 := n5_; have HB := n6_; have HO450 := n7_; clear n0_ n1_ n2_ n3_ n4_ n5_ n6_ n7_; clear ho hb hg hat)); try go_wp2_with (first | ((with_reducible refine gate_builtin (b := .append) (xs := #[.tmp 83, .tmp 91]) rfl ?_); (try (refine gate_guard (by rfl) ?_; dsimp only)); at_builtin; refine Kd.R_append (Kd.int .i64) (w0 := w) w.heap.size rfl (.tmp 83) (.tmp 91) 23 3 (.int .i64 0) 8 rfl Try.underlying23 info3 rfl (by decide) (by omega) u12 x12_2 (rd (rd_L1 t431 x11_1) x13_2) [.int .i64 (rd (rd_L1 t431 x11_1) x13_2)] (fun _ => True) (fun _ => False) rfl rfl ?aP (fun _ hk => hk.elim) ?aF ?aO ?aB ?aS ?aL ?_; (case aP => exact rfl); (case aB => exact (by repeat (first | (with_reducible first | exact HB.out | apply below_alloc | apply pw_below_drewN | apply below_drew1 | refine below_set ?_ GE429.out) | exact HB.out))); (case aF => exact (fun _ _ => trivial)); (case aO => exact (by (with_reducible repeat (first | apply Kd.R_alloc | apply Kd.R_drewN | apply Kd.R_drew)); exact HO_12.out)); (case aS => exact (below_size (by repeat (first | (with_reducible first | exact HB.out | apply below_alloc | apply pw_below_drewN | apply below_drew1 | refine below_set ?_ GE429.out) | exact HB.out)))); (case aL => have := LMc31.out; omega); intro v449 w32 ho hb hg hat; rw [← Ny448.out] at ho; have n0_ := Aside0.mk (Kd.S_after (ok := (fun k_ => some k_ ≠ (u10 : Value).ownBlock)) (by (with_reducible repeat (first | apply Kd.S_alloc | apply Kd.S_drewN | apply Kd.S_drew)); exact HO_6.out) hg hat); have n1_ := Aside0.mk (Kd.S_after (ok := (fun k_ => some k_ ≠ (.slice (some ad435) t431.length co21 : Value).ownBlock)) (by (with_reducible repeat (first | apply Kd.S_alloc | apply Kd.S_drewN | apply Kd.S_drew)); exact HO_10.out) hg hat); have n2_ := Aside0.mk (blk_grown (g := gb429) (o := .cells #[.int .i64 a1_0, .int .i64 a1_1] 73 (0, 0)) (by (with_reducible repeat (first | refine blk_drewN ?_ _ | refine blk_drew ?_ | refine blk_alloc ?_ _)); exact BK429.out) hg (Kd.R_ne HO_12.out BK429.out (by decide))); have n3_ := Aside0.mk (Kd.R_after (ok := (fun k_ => some k_ ≠ (.slice (some ad435) t431.length co21 : Value).ownBlock ∧ some k_ ≠ (u10 : Value).ownBlock)) (by (with_reducible repeat (first | apply Kd.R_alloc | apply Kd.R_drewN | apply Kd.R_drew)); exact Kd.R_mono HL440_0.out (fun _ hk => ⟨⟨hk.2, hk.1.1⟩, hk.1.2⟩)) hg hat); have n4_ := Aside0.mk (Kd.R_after (ok := (fun k_ => some k_ ≠ (.slice (some ad435) t431.length co21 : Value).ownBlock ∧ some k_ ≠ (u10 : Value).ownBlock)) (by (with_reducible repeat (first | apply Kd.R_alloc | apply Kd.R_drewN | apply Kd.R_drew)); exact Kd.R_mono HL441_0.out (fun _ hk => ⟨⟨hk.2, hk.1.1⟩, hk.1.2⟩)) hg hat); have n5_ := Aside0.mk (Kd.R_after (ok := (fun k_ => some k_ ≠ (.slice (some ad435) t431.length co21 : Value).ownBlock ∧ some k_ ≠ (u10 : Value).ownBlock)) (by (with_reducible repeat (first | apply Kd.R_alloc | apply Kd.R_drewN | apply Kd.R_drew)); exact Kd.R_mono HL446_0.out (fun _ hk => ⟨⟨hk.2, hk.1.1⟩, hk.1.2⟩)) hg hat); have n6_ := Aside0.mk (hb); have n7_ := Aside0.mk (ho); clear HO_6; clear HO_10; clear BK429; clear HL440_0; clear HL441_0; clear HL446_0; clear HB; clear HO_12; have HO_6 := n0_; have HO_10 := n1_; have BK429 := n2_; have HL440_0 := n3_; have HL441_0 := n4_; have HL446_0 := n5_; have HB := n6_; have HO450 := n7_; clear n0_ n1_ n2_ n3_ n4_ n5_ n6_ n7_; clear ho hb hg hat)))
                                    go_roundg k2
                                    case measure => have := HK1.out; have := HK2.out; omega
                                    case rel => exact ⟨(y448), (wrap64 (x13_2 + 1)), (by first | rfl | (simp; done) | (simp [*]; done)), H', ⟨by have := HK1.out; have := HK2.out; omega⟩, ⟨by (with_reducible repeat (first | apply Kd.S_alloc | apply Kd.S_drewN | apply Kd.S_drew)); exact HO_6.out⟩, ⟨by (with_reducible repeat (first | apply Kd.S_alloc | apply Kd.S_drewN | apply Kd.S_drew)); exact HO_10.out⟩, ⟨by (with_reducible repeat (first | apply Kd.R_alloc | apply Kd.R_drewN | apply Kd.R_drew)); exact HO450.out⟩, ⟨by (with_reducible repeat (first | refine blk_drewN ?_ _ | refine blk_drew ?_ | refine blk_alloc ?_ _)); exact BK429.out⟩, ⟨by repeat (first | (with_reducible first | exact HB.out | apply below_alloc | apply pw_below_drewN | apply below_drew1 | refine below_set ?_ GE429.out) | exact HB.out)⟩⟩
                                  · rw [if_neg c31] at H
                                    exact absurd H (by simp)
                              · rw [if_neg c27] at H
                                exact absurd H (by simp)
                            · rw [if_neg c26] at H
                              have c26b0 : (x11_1 == t434) = false := beq_eq_false_iff_ne.mpr c26
                              have c26b1 : (x11_1 != t434) = true := bne_iff_ne.mpr c26
                              by_cases c33 : 0 ≤ x13_2
                              · rw [if_pos c33] at H
                                have c33b0 : decide (0 ≤ x13_2) = true := decide_eq_true c33
                                clear c33
                                by_cases c34 : x12_2.length < 17592186044416
                                · rw [if_pos c34] at H
                                  have LMc34 := Aside0.mk c34
                                  clear c34
                                  obtain ⟨y453, hy453⟩ : ∃ y_ : List Int, y_ = (x12_2 ++ [rd (rd_L1 t431 x11_1) x13_2]) := ⟨_, rfl⟩
                                  replace H : (jacquardlaw02_GraphPut.l1 k2 t430 t431 t434 (rd (rd_L1 t431 t434) t438) (t431.length : Int) x10_1 x11_1 y453 (wrap64 (x13_2 + 1))) = some r := by first | (rw [hy453]; with_reducible exact H) | (have H2_ := (Option.bind_some _ _).symm.trans H; rw [hy453]; with_reducible exact H2_) | (have H2_ := (Option.bind_some _ _).symm.trans H; with_reducible exact H2_) | with_reducible exact H | (rw [hy453]; exact H) | exact H
                                  have Ny453 := Aside0.mk hy453
                                  clear hy453
                                  have H' := Aside0.mk H
                                  clear H
                                  have p440 : 0 ≤ (x11_1 : Int) := of_decide_eq_true (by first | (with_reducible assumption) | assumption)
                                  have q440 : x11_1 < (t431.length : Int) := of_decide_eq_true (by first | (with_reducible assumption) | assumption)
                                  obtain ⟨ad440, A440_0, c440_0, e440, hx440_0, hl440_0, hi440_0⟩ := at_L1 (Kd.S_reads' HO_6.out).2.2 x11_1 p440 q440
                                  obtain rfl : ad435 = ad440 := (by injection e440)
                                  obtain ⟨ce440, hce440, hMe440, hcc440⟩ := Kd.S_get HO_6.out [] x11_1 p440 (by first | exact q440 | exact of_decide_eq_true (by first | (with_reducible assumption) | assumption) | (have e_ := (Kd.S_reads' HO_6.out).1; omega))
                                  obtain ⟨ve440_0, rfl, ge440_0⟩ := hMe440
                                  have hv440_0 := hcc440 0 _ rfl
                                  rw [Nat.add_zero, show ((Kd.slice 3 (Kd.int .i64))).sz = 1 from rfl, Nat.mul_one] at hv440_0
                                  replace hv440_0 := Option.some.inj (hv440_0.symm.trans hx440_0)
                                  rw [hv440_0] at ge440_0
                                  have HL440_0 := Aside0.mk (show Kd.R (Kd.int .i64) 3 _ _ _ _ (rd_L1 t431 x11_1) from ge440_0)
                                  clear hv440_0 ge440_0; clear hcc440 hce440
                                  have HR440_0 := Aside0.mk hi440_0
                                  have HC440_0 := Aside0.mk hl440_0
                                  clear hi440_0 hl440_0
                                  replace p440 := eq_true p440
                                  replace q440 := eq_true q440
                                  have p451 : 0 ≤ (x11_1 : Int) := of_decide_eq_true (by first | (with_reducible assumption) | assumption)
                                  have q451 : x11_1 < (t431.length : Int) := of_decide_eq_true (by first | (with_reducible assumption) | assumption)
                                  obtain ⟨ad451, A451_0, c451_0, e451, hx451_0, hl451_0, hi451_0⟩ := at_L1 (Kd.S_reads' HO_6.out).2.2 x11_1 p451 q451
                                  obtain rfl : ad435 = ad451 := (by injection e451)
                                  obtain ⟨ce451, hce451, hMe451, hcc451⟩ := Kd.S_get HO_6.out [] x11_1 p451 (by first | exact q451 | exact of_decide_eq_true (by first | (with_reducible assumption) | assumption) | (have e_ := (Kd.S_reads' HO_6.out).1; omega))
                                  obtain ⟨ve451_0, rfl, ge451_0⟩ := hMe451
                                  have hv451_0 := hcc451 0 _ rfl
                                  rw [Nat.add_zero, show ((Kd.slice 3 (Kd.int .i64))).sz = 1 from rfl, Nat.mul_one] at hv451_0
                                  replace hv451_0 := Option.some.inj (hv451_0.symm.trans hx451_0)
                                  rw [hv451_0] at ge451_0
                                  have HL451_0 := Aside0.mk (show Kd.R (Kd.int .i64) 3 _ _ _ _ (rd_L1 t431 x11_1) from ge451_0)
                                  clear hv451_0 ge451_0; clear hcc451 hce451
                                  have HR451_0 := Aside0.mk hi451_0
                                  have HC451_0 := Aside0.mk hl451_0
                                  clear hi451_0 hl451_0
                                  replace p451 := eq_true p451
                                  replace q451 := eq_true q451
                                  have ea_ := Option.some.inj (hx440_0.symm.trans hx451_0)
                                  injection ea_ with ea_ en_ ec_
                                  subst ea_
                                  subst ec_
                                  clear en_
                                  have p452 : 0 ≤ (x13_2 : Int) := of_decide_eq_true (by first | (with_reducible assumption) | assumption)
                                  have q452 : x13_2 < ((rd_L1 t431 x11_1).length : Int) := of_decide_eq_true (by first | (with_reducible assumption) | assumption)
                                  obtain ⟨ad452, e452, hx452_0⟩ := Kd.at_int (by repeat (first | (with_reducible exact HR451_0.out) | (with_reducible refine Kd.C_alloc ?_ _) | (with_reducible refine Kd.C_drewN ?_ _) | (with_reducible refine Kd.C_drew ?_) | exact HR451_0.out)) x13_2 p452 q452
                                  cases e452
                                  replace p452 := eq_true p452
                                  replace q452 := eq_true q452
                                  go_wp2_with (first | ((with_reducible refine gate_builtin (b := .append) (xs := #[.tmp 83, .tmp 91]) rfl ?_); (try (refine gate_guard (by rfl) ?_; dsimp only)); at_builtin; refine Kd.R_append (Kd.int .i64) (w0 := w) w.heap.size rfl (.tmp 83) (.tmp 91) 23 3 (.int .i64 0) 8 rfl Try.underlying23 info3 rfl (by decide) (by omega) u12 x12_2 (rd (rd_L1 t431 x11_1) x13_2) [.int .i64 (rd (rd_L1 t431 x11_1) x13_2)] (fun _ => True) (fun _ => False) rfl rfl ?aP (fun _ hk => hk.elim) ?aF ?aO ?aB ?aS ?aL ?_; (case aP => exact rfl); (case aB => exact (by repeat (first | (with_reducible first | exact HB.out | apply below_alloc | apply pw_below_drewN | apply below_drew1 | refine below_set ?_ GE429.out) | exact HB.out))); (case aF => exact (fun _ _ => trivial)); (case aO => exact (by (with_reducible repeat (first | apply Kd.R_alloc | apply Kd.R_drewN | apply Kd.R_drew)); exact HO_12.out)); (case aS => exact (below_size (by repeat (first | (with_reducible first | exact HB.out | apply below_alloc | apply pw_below_drewN | apply below_drew1 | refine below_set ?_ GE429.out) | exact HB.out)))); (case aL => have := LMc34.out; omega); intro v454 w35 ho hb hg hat; rw [← Ny453.out] at ho; have n0_ := Aside0.mk (Kd.S_after (ok := (fun k_ => some k_ ≠ (u10 : Value).ownBlock)) (by (with_reducible repeat (first | apply Kd.S_alloc | apply Kd.S_drewN | apply Kd.S_drew)); exact HO_6.out) hg hat); have n1_ := Aside0.mk (Kd.S_after (ok := (fun k_ => some k_ ≠ (.slice (some ad435) t431.length co21 : Value).ownBlock)) (by (with_reducible repeat (first | apply Kd.S_alloc | apply Kd.S_drewN | apply Kd.S_drew)); exact HO_10.out) hg hat); have n2_ := Aside0.mk (blk_grown (g := gb429) (o := .cells #[.int .i64 a1_0, .int .i64 a1_1] 73 (0, 0)) (by (with_reducible repeat (first | refine blk_drewN ?_ _ | refine blk_drew ?_ | refine blk_alloc ?_ _)); exact BK429.out) hg (Kd.R_ne HO_12.out BK429.out (by decide))); have n3_ := Aside0.mk (Kd.R_after (ok := (fun k_ => some k_ ≠ (.slice (some ad435) t431.length co21 : Value).ownBlock ∧ some k_ ≠ (u10 : Value).ownBlock)) (by (with_reducible repeat (first | apply Kd.R_alloc | apply Kd.R_drewN | apply Kd.R_drew)); exact Kd.R_mono HL440_0.out (fun _ hk => ⟨⟨hk.2, hk.1.1⟩, hk.1.2⟩)) hg hat); have n4_ := Aside0.mk (Kd.R_after (ok := (fun k_ => some k_ ≠ (.slice (some ad435) t431.length co21 : Value).ownBlock ∧ some k_ ≠ (u10 : Value).ownBlock)) (by (with_reducible repeat (first | apply Kd.R_alloc | apply Kd.R_drewN | apply Kd.R_drew)); exact Kd.R_mono HL451_0.out (fun _ hk => ⟨⟨hk.2, hk.1.1⟩, hk.1.2⟩)) hg hat); have n5_ := Aside0.mk (hb); have n6_ := Aside0.mk (ho); clear HO_6; clear HO_10; clear BK429; clear HL440_0; clear HL451_0; clear HB; clear HO_12; have HO_6 := n0_; have HO_10 := n1_; have BK429 := n2_; have HL440_0 := n3_; have HL451_0 := n4_; have HB := n5_; have HO455 := n6_; clear n0_ n1_ n2_ n3_ n4_ n5_ n6_; clear ho hb hg hat))
                                  repeat (go_quiet (first | ((with_reducible refine gate_builtin (b := .append) (xs := #[.tmp 83, .tmp 91]) rfl ?_); (try (refine gate_guard (by rfl) ?_; dsimp only)); at_builtin; refine Kd.R_append (Kd.int .i64) (w0 := w) w.heap.size rfl (.tmp 83) (.tmp 91) 23 3 (.int .i64 0) 8 rfl Try.underlying23 info3 rfl (by decide) (by omega) u12 x12_2 (rd (rd_L1 t431 x11_1) x13_2) [.int .i64 (rd (rd_L1 t431 x11_1) x13_2)] (fun _ => True) (fun _ => False) rfl rfl ?aP (fun _ hk => hk.elim) ?aF ?aO ?aB ?aS ?aL ?_; (case aP => exact rfl); (case aB => exact (by repeat (first | (with_reducible first | exact HB.out | apply below_alloc | apply pw_below_drewN | apply below_drew1 | refine below_set ?_ GE429.out) | exact HB.out))); (case aF => exact (fun _ _ => trivial)); (case aO => exact (by (with_reducible repeat (first | apply Kd.R_alloc | apply Kd.R_drewN | apply Kd.R_drew)); exact HO_12.out)); (case aS => exact (below_size (by repeat (first | (with_reducible first | exact HB.out | apply below_alloc | apply pw_below_drewN | apply below_drew1 | refine below_set ?_ GE429.out) | exact HB.out)))); (case aL => have := LMc34.out; omega); intro v454 w35 ho hb hg hat; rw [← Ny453.out] at ho; have n0_ := Aside0.mk (Kd.S_after (ok := (fun k_ => some k_ ≠ (u10 : Value).ownBlock)) (by (with_reducible repeat (first | apply Kd.S_alloc | apply Kd.S_drewN | apply Kd.S_drew)); exact HO_6.out) hg hat); have n1_ := Aside0.mk (Kd.S_after (ok := (fun k_ => some k_ ≠ (.slice (some ad435) t431.length co21 : Value).ownBlock)) (by (with_reducible repeat (first | apply Kd.S_alloc | apply Kd.S_drewN | apply Kd.S_drew)); exact HO_10.out) hg hat); have n2_ := Aside0.mk (blk_grown (g := gb429) (o := .cells #[.int .i64 a1_0, .int .i64 a1_1] 73 (0, 0)) (by (with_reducible repeat (first | refine blk_drewN ?_ _ | refine blk_drew ?_ | refine blk_alloc ?_ _)); exact BK429.out) hg (Kd.R_ne HO_12.out BK429.out (by decide))); have n3_ := Aside0.mk (Kd.R_after (ok := (fun k_ => some k_ ≠ (.slice (some ad435) t431.length co21 : Value).ownBlock ∧ some k_ ≠ (u10 : Value).ownBlock)) (by (with_reducible repeat (first | apply Kd.R_alloc | apply Kd.R_drewN | apply Kd.R_drew)); exact Kd.R_mono HL440_0.out (fun _ hk => ⟨⟨hk.2, hk.1.1⟩, hk.1.2⟩)) hg hat); have n4_ := Aside0.mk (Kd.R_after (ok := (fun k_ => some k_ ≠ (.slice (some ad435) t431.length co21 : Value).ownBlock ∧ some k_ ≠ (u10 : Value).ownBlock)) (by (with_reducible repeat (first | apply Kd.R_alloc | apply Kd.R_drewN | apply Kd.R_drew)); exact Kd.R_mono HL451_0.out (fun _ hk => ⟨⟨hk.2, hk.1.1⟩, hk.1.2⟩)) hg hat); have n5_ := Aside0.mk (hb); have n6_ := Aside0.mk (ho); clear HO_6; clear HO_10; clear BK429; clear HL440_0; clear HL451_0; clear HB; clear HO_12; have HO_6 := n0_; have HO_10 := n1_; have BK429 := n2_; have HL440_0 := n3_; have HL451_0 := n4_; have HB := n5_; have HO455 := n6_; clear n0_ n1_ n2_ n3_ n4_ n5_ n6_; clear ho hb hg hat)); try go_wp2_with (first | ((with_reducible refine gate_builtin (b := .append) (xs := #[.tmp 83, .tmp 91]) rfl ?_); (try (refine gate_guard (by rfl) ?_; dsimp only)); at_builtin; refine Kd.R_append (Kd.int .i64) (w0 := w) w.heap.size rfl (.tmp 83) (.tmp 91) 23 3 (.int .i64 0) 8 rfl Try.underlying23 info3 rfl (by decide) (by omega) u12 x12_2 (rd (rd_L1 t431 x11_1) x13_2) [.int .i64 (rd (rd_L1 t431 x11_1) x13_2)] (fun _ => True) (fun _ => False) rfl rfl ?aP (fun _ hk => hk.elim) ?aF ?aO ?aB ?aS ?aL ?_; (case aP => exact rfl); (case aB => exact (by repeat (first | (with_reducible first | exact HB.out | apply below_alloc | apply pw_below_drewN | apply below_drew1 | refine below_set ?_ GE429.out) | exact HB.out))); (case aF => exact (fun _ _ => trivial)); (case aO => exact (by (with_reducible repeat (first | apply Kd.R_alloc | apply Kd.R_drewN | apply Kd.R_drew)); exact HO_12.out)); (case aS => exact (below_size (by repeat (first | (with_reducible first | exact HB.out | apply below_alloc | apply pw_below_drewN | apply below_drew1 | refine below_set ?_ GE429.out) | exact HB.out)))); (case aL => have := LMc34.out; omega); intro v454 w35 ho hb hg hat; rw [← Ny453.out] at ho; have n0_ := Aside0.mk (Kd.S_after (ok := (fun k_ => some k_ ≠ (u10 : Value).ownBlock)) (by (with_reducible repeat (first | apply Kd.S_alloc | apply Kd.S_drewN | apply Kd.S_drew)); exact HO_6.out) hg hat); have n1_ := Aside0.mk (Kd.S_after (ok := (fun k_ => some k_ ≠ (.slice (some ad435) t431.length co21 : Value).ownBlock)) (by (with_reducible repeat (first | apply Kd.S_alloc | apply Kd.S_drewN | apply Kd.S_drew)); exact HO_10.out) hg hat); have n2_ := Aside0.mk (blk_grown (g := gb429) (o := .cells #[.int .i64 a1_0, .int .i64 a1_1] 73 (0, 0)) (by (with_reducible repeat (first | refine blk_drewN ?_ _ | refine blk_drew ?_ | refine blk_alloc ?_ _)); exact BK429.out) hg (Kd.R_ne HO_12.out BK429.out (by decide))); have n3_ := Aside0.mk (Kd.R_after (ok := (fun k_ => some k_ ≠ (.slice (some ad435) t431.length co21 : Value).ownBlock ∧ some k_ ≠ (u10 : Value).ownBlock)) (by (with_reducible repeat (first | apply Kd.R_alloc | apply Kd.R_drewN | apply Kd.R_drew)); exact Kd.R_mono HL440_0.out (fun _ hk => ⟨⟨hk.2, hk.1.1⟩, hk.1.2⟩)) hg hat); have n4_ := Aside0.mk (Kd.R_after (ok := (fun k_ => some k_ ≠ (.slice (some ad435) t431.length co21 : Value).ownBlock ∧ some k_ ≠ (u10 : Value).ownBlock)) (by (with_reducible repeat (first | apply Kd.R_alloc | apply Kd.R_drewN | apply Kd.R_drew)); exact Kd.R_mono HL451_0.out (fun _ hk => ⟨⟨hk.2, hk.1.1⟩, hk.1.2⟩)) hg hat); have n5_ := Aside0.mk (hb); have n6_ := Aside0.mk (ho); clear HO_6; clear HO_10; clear BK429; clear HL440_0; clear HL451_0; clear HB; clear HO_12; have HO_6 := n0_; have HO_10 := n1_; have BK429 := n2_; have HL440_0 := n3_; have HL451_0 := n4_; have HB := n5_; have HO455 := n6_; clear n0_ n1_ n2_ n3_ n4_ n5_ n6_; clear ho hb hg hat)))
                                  go_roundg k2
                                  case measure => have := HK1.out; have := HK2.out; omega
                                  case rel => exact ⟨(y453), (wrap64 (x13_2 + 1)), (by first | rfl | (simp; done) | (simp [*]; done)), H', ⟨by have := HK1.out; have := HK2.out; omega⟩, ⟨by (with_reducible repeat (first | apply Kd.S_alloc | apply Kd.S_drewN | apply Kd.S_drew)); exact HO_6.out⟩, ⟨by (with_reducible repeat (first | apply Kd.S_alloc | apply Kd.S_drewN | apply Kd.S_drew)); exact HO_10.out⟩, ⟨by (with_reducible repeat (first | apply Kd.R_alloc | apply Kd.R_drewN | apply Kd.R_drew)); exact HO455.out⟩, ⟨by (with_reducible repeat (first | refine blk_drewN ?_ _ | refine blk_drew ?_ | refine blk_alloc ?_ _)); exact BK429.out⟩, ⟨by repeat (first | (with_reducible first | exact HB.out | apply below_alloc | apply pw_below_drewN | apply below_drew1 | refine below_set ?_ GE429.out) | exact HB.out)⟩⟩
                                · rw [if_neg c34] at H
                                  exact absurd H (by simp)
                              · rw [if_neg c33] at H
                                exact absurd H (by simp)
                          · rw [if_neg c25] at H
                            have c25b0 : decide (x13_2 < ((rd_L1 t431 x11_1).length : Int)) = false := decide_eq_false c25
                            clear c25
                            by_cases c36 : x10_1.length < 5864062014805
                            · rw [if_pos c36] at H
                              have LMc36 := Aside0.mk c36
                              clear c36
                              obtain ⟨y456, hy456⟩ : ∃ y_ : List (List Int), y_ = (x10_1 ++ [x12_2]) := ⟨_, rfl⟩
                              replace H : (jacquardlaw02_GraphPut.l0 k2 t430 t431 t434 (rd (rd_L1 t431 t434) t438) (t431.length : Int) y456 (wrap64 (x11_1 + 1))) = some r := by first | (rw [hy456]; with_reducible exact H) | (have H2_ := (Option.bind_some _ _).symm.trans H; rw [hy456]; with_reducible exact H2_) | (have H2_ := (Option.bind_some _ _).symm.trans H; with_reducible exact H2_) | with_reducible exact H | (rw [hy456]; exact H) | exact H
                              have Ny456 := Aside0.mk hy456
                              clear hy456
                              have H' := Aside0.mk H
                              clear H
                              have p440 : 0 ≤ (x11_1 : Int) := of_decide_eq_true (by first | (with_reducible assumption) | assumption)
                              have q440 : x11_1 < (t431.length : Int) := of_decide_eq_true (by first | (with_reducible assumption) | assumption)
                              obtain ⟨ad440, A440_0, c440_0, e440, hx440_0, hl440_0, hi440_0⟩ := at_L1 (Kd.S_reads' HO_6.out).2.2 x11_1 p440 q440
                              obtain rfl : ad435 = ad440 := (by injection e440)
                              obtain ⟨ce440, hce440, hMe440, hcc440⟩ := Kd.S_get HO_6.out [] x11_1 p440 (by first | exact q440 | exact of_decide_eq_true (by first | (with_reducible assumption) | assumption) | (have e_ := (Kd.S_reads' HO_6.out).1; omega))
                              obtain ⟨ve440_0, rfl, ge440_0⟩ := hMe440
                              have hv440_0 := hcc440 0 _ rfl
                              rw [Nat.add_zero, show ((Kd.slice 3 (Kd.int .i64))).sz = 1 from rfl, Nat.mul_one] at hv440_0
                              replace hv440_0 := Option.some.inj (hv440_0.symm.trans hx440_0)
                              rw [hv440_0] at ge440_0
                              have HL440_0 := Aside0.mk (show Kd.R (Kd.int .i64) 3 _ _ _ _ (rd_L1 t431 x11_1) from ge440_0)
                              clear hv440_0 ge440_0; clear hcc440 hce440
                              have HR440_0 := Aside0.mk hi440_0
                              have HC440_0 := Aside0.mk hl440_0
                              clear hi440_0 hl440_0
                              replace p440 := eq_true p440
                              replace q440 := eq_true q440
                              obtain ⟨Ao38, co38, eo38⟩ := Kd.R_slice HO_12.out
                              subst eo38
                              go_wp2_with (first | ((with_reducible refine gate_builtin (b := .append) (xs := #[.tmp 93, .tmp 95]) rfl ?_); (try (refine gate_guard (by rfl) ?_; dsimp only)); at_builtin; refine Kd.S_append (Kd.slice 3 (Kd.int .i64)) (w0 := w) w.heap.size rfl (.tmp 93) (.tmp 95) 22 23 (.slice none 0 0) 24 rfl Try.underlying22 info23 rfl (by decide) (by omega) u10 x10_1 x12_2 [.slice Ao38 x12_2.length co38] (fun k_ => some k_ ≠ (.slice (some ad435) t431.length co21 : Value).ownBlock) (fun k_ => some k_ = (.slice Ao38 x12_2.length co38 : Value).ownBlock) rfl rfl ?aP (fun k_ hk_ => ((Kd.R_mono (ok' := fun k_ => ((fun k_ => some k_ ≠ (.slice (some ad435) t431.length co21 : Value).ownBlock)) k_ ∧ some k_ ≠ (u10 : Value).ownBlock) (Kd.R_apart' (Kd.R_apart' (HO_12.out) (Kd.S_typed HO_6.out) (by decide)) (Kd.S_typed HO_10.out) (by decide)) (fun k_ hk => ⟨hk.1.2, hk.2⟩))).1 k_ hk_.symm) ?aF ?aO ?aB ?aS ?aL ?_; (case aP => exact Kd.M_row (Kd.R_mono (Kd.R_tight rfl (Kd.R_mono (ok' := fun k_ => ((fun k_ => some k_ ≠ (.slice (some ad435) t431.length co21 : Value).ownBlock)) k_ ∧ some k_ ≠ (u10 : Value).ownBlock) (Kd.R_apart' (Kd.R_apart' (HO_12.out) (Kd.S_typed HO_6.out) (by decide)) (Kd.S_typed HO_10.out) (by decide)) (fun k_ hk => ⟨hk.1.2, hk.2⟩))) (fun _ h_ => h_))); (case aB => exact (by repeat (first | (with_reducible first | exact HB.out | apply below_alloc | apply pw_below_drewN | apply below_drew1 | refine below_set ?_ GE429.out) | exact HB.out))); (case aF => exact (fun k_ hk => Kd.fresh' (Kd.S_lt (by (with_reducible repeat (first | apply Kd.S_alloc | apply Kd.S_drewN | apply Kd.S_drew)); exact HO_6.out)) k_ hk)); (case aO => exact (by (with_reducible repeat (first | apply Kd.S_alloc | apply Kd.S_drewN | apply Kd.S_drew)); exact Kd.S_mono HO_10.out (fun k_ hk => ⟨hk.1, fun e_ => hk.2 e_⟩))); (case aS => exact (below_size (by repeat (first | (with_reducible first | exact HB.out | apply below_alloc | apply pw_below_drewN | apply below_drew1 | refine below_set ?_ GE429.out) | exact HB.out)))); (case aL => have := LMc36.out; omega); intro v457 w37 ho hb hg hat; rw [← Ny456.out] at ho; have n0_ := Aside0.mk (Kd.S_after (ok := (fun k_ => some k_ ≠ (.slice Ao38 x12_2.length co38 : Value).ownBlock)) (by (with_reducible repeat (first | apply Kd.S_alloc | apply Kd.S_drewN | apply Kd.S_drew)); exact Kd.S_mono HO_6.out (fun _ hk => ⟨hk.2, hk.1⟩)) hg hat); have n1_ := Aside0.mk (blk_grown (g := gb429) (o := .cells #[.int .i64 a1_0, .int .i64 a1_1] 73 (0, 0)) (by (with_reducible repeat (first | refine blk_drewN ?_ _ | refine blk_drew ?_ | refine blk_alloc ?_ _)); exact BK429.out) hg (Kd.S_ne HO_10.out BK429.out (by decide))); have n2_ := Aside0.mk (Kd.R_after (ok := (fun k_ => some k_ ≠ (.slice (some ad435) t431.length co21 : Value).ownBlock ∧ some k_ ≠ (.slice Ao38 x12_2.length co38 : Value).ownBlock)) (by (with_reducible repeat (first | apply Kd.R_alloc | apply Kd.R_drewN | apply Kd.R_drew)); exact Kd.R_mono HL440_0.out (fun _ hk => ⟨⟨hk.2, hk.1.2⟩, hk.1.1⟩)) hg hat); have n3_ := Aside0.mk (hb); have n4_ := Aside0.mk (ho); clear HO_6; clear BK429; clear HL440_0; clear HB; clear HO_10; clear HO_12; have HO_6 := n0_; have BK429 := n1_; have HL440_0 := n2_; have HB := n3_; have HO458 := n4_; clear n0_ n1_ n2_ n3_ n4_; clear ho hb hg hat))
                              repeat (go_quiet (first | ((with_reducible refine gate_builtin (b := .append) (xs := #[.tmp 93, .tmp 95]) rfl ?_); (try (refine gate_guard (by rfl) ?_; dsimp only)); at_builtin; refine Kd.S_append (Kd.slice 3 (Kd.int .i64)) (w0 := w) w.heap.size rfl (.tmp 93) (.tmp 95) 22 23 (.slice none 0 0) 24 rfl Try.underlying22 info23 rfl (by decide) (by omega) u10 x10_1 x12_2 [.slice Ao38 x12_2.length co38] (fun k_ => some k_ ≠ (.slice (some ad435) t431.length co21 : Value).ownBlock) (fun k_ => some k_ = (.slice Ao38 x12_2.length co38 : Value).ownBlock) rfl rfl ?aP (fun k_ hk_ => ((Kd.R_mono (ok' := fun k_ => ((fun k_ => some k_ ≠ (.slice (some ad435) t431.length co21 : Value).ownBlock)) k_ ∧ some k_ ≠ (u10 : Value).ownBlock) (Kd.R_apart' (Kd.R_apart' (HO_12.out) (Kd.S_typed HO_6.out) (by decide)) (Kd.S_typed HO_10.out) (by decide)) (fun k_ hk => ⟨hk.1.2, hk.2⟩))).1 k_ hk_.symm) ?aF ?aO ?aB ?aS ?aL ?_; (case aP => exact Kd.M_row (Kd.R_mono (Kd.R_tight rfl (Kd.R_mono (ok' := fun k_ => ((fun k_ => some k_ ≠ (.slice (some ad435) t431.length co21 : Value).ownBlock)) k_ ∧ some k_ ≠ (u10 : Value).ownBlock) (Kd.R_apart' (Kd.R_apart' (HO_12.out) (Kd.S_typed HO_6.out) (by decide)) (Kd.S_typed HO_10.out) (by decide)) (fun k_ hk => ⟨hk.1.2, hk.2⟩))) (fun _ h_ => h_))); (case aB => exact (by repeat (first | (with_reducible first | exact HB.out | apply below_alloc | apply pw_below_drewN | apply below_drew1 | refine below_set ?_ GE429.out) | exact HB.out))); (case aF => exact (fun k_ hk => Kd.fresh' (Kd.S_lt (by (with_reducible repeat (first | apply Kd.S_alloc | apply Kd.S_drewN | apply Kd.S_drew)); exact HO_6.out)) k_ hk)); (case aO => exact (by (with_reducible repeat (first | apply Kd.S_alloc | apply Kd.S_drewN | apply Kd.S_drew)); exact Kd.S_mono HO_10.out (fun k_ hk => ⟨hk.1, fun e_ => hk.2 e_⟩))); (case aS => exact (below_size (by repeat (first | (with_reducible first | exact HB.out | apply below_alloc | apply pw_below_drewN | apply below_drew1 | refine below_set ?_ GE429.out) | exact HB.out)))); (case aL => have := LMc36.out; omega); intro v457 w37 ho hb hg hat; rw [← Ny456.out] at ho; have n0_ := Aside0.mk (Kd.S_after (ok := (fun k_ => some k_ ≠ (.slice Ao38 x12_2.length co38 : Value).ownBlock)) (by (with_reducible repeat (first | apply Kd.S_alloc | apply Kd.S_drewN | apply Kd.S_drew)); exact Kd.S_mono HO_6.out (fun _ hk => ⟨hk.2, hk.1⟩)) hg hat); have n1_ := Aside0.mk (blk_grown (g := gb429) (o := .cells #[.int .i64 a1_0, .int .i64 a1_1] 73 (0, 0)) (by (with_reducible repeat (first | refine blk_drewN ?_ _ | refine blk_drew ?_ | refine blk_alloc ?_ _)); exact BK429.out) hg (Kd.S_ne HO_10.out BK429.out (by decide))); have n2_ := Aside0.mk (Kd.R_after (ok := (fun k_ => some k_ ≠ (.slice (some ad435) t431.length co21 : Value).ownBlock ∧ some k_ ≠ (.slice Ao38 x12_2.length co38 : Value).ownBlock)) (by (with_reducible repeat (first | apply Kd.R_alloc | apply Kd.R_drewN | apply Kd.R_drew)); exact Kd.R_mono HL440_0.out (fun _ hk => ⟨⟨hk.2, hk.1.2⟩, hk.1.1⟩)) hg hat); have n3_ := Aside0.mk (hb); have n4_ := Aside0.mk (ho); clear HO_6; clear BK429; clear HL440_0; clear HB; clear HO_10; clear HO_12; have HO_6 := n0_; have BK429 := n1_; have HL440_0 := n2_; have HB := n3_; have HO458 := n4_; clear n0_ n1_ n2_ n3_ n4_; clear ho hb hg hat)); try go_wp2_with (first | ((with_reducible refine gate_builtin (b := .append) (xs := #[.tmp 93, .tmp 95]) rfl ?_); (try (refine gate_guard (by rfl) ?_; dsimp only)); at_builtin; refine Kd.S_append (Kd.slice 3 (Kd.int .i64)) (w0 := w) w.heap.size rfl (.tmp 93) (.tmp 95) 22 23 (.slice none 0 0) 24 rfl Try.underlying22 info23 rfl (by decide) (by omega) u10 x10_1 x12_2 [.slice Ao38 x12_2.length co38] (fun k_ => some k_ ≠ (.slice (some ad435) t431.length co21 : Value).ownBlock) (fun k_ => some k_ = (.slice Ao38 x12_2.length co38 : Value).ownBlock) rfl rfl ?aP (fun k_ hk_ => ((Kd.R_mono (ok' := fun k_ => ((fun k_ => some k_ ≠ (.slice (some ad435) t431.length co21 : Value).ownBlock)) k_ ∧ some k_ ≠ (u10 : Value).ownBlock) (Kd.R_apart' (Kd.R_apart' (HO_12.out) (Kd.S_typed HO_6.out) (by decide)) (Kd.S_typed HO_10.out) (by decide)) (fun k_ hk => ⟨hk.1.2, hk.2⟩))).1 k_ hk_.symm) ?aF ?aO ?aB ?aS ?aL ?_; (case aP => exact Kd.M_row (Kd.R_mono (Kd.R_tight rfl (Kd.R_mono (ok' := fun k_ => ((fun k_ => some k_ ≠ (.slice (some ad435) t431.length co21 : Value).ownBlock)) k_ ∧ some k_ ≠ (u10 : Value).ownBlock) (Kd.R_apart' (Kd.R_apart' (HO_12.out) (Kd.S_typed HO_6.out) (by decide)) (Kd.S_typed HO_10.out) (by decide)) (fun k_ hk => ⟨hk.1.2, hk.2⟩))) (fun _ h_ => h_))); (case aB => exact (by repeat (first | (with_reducible first | exact HB.out | apply below_alloc | apply pw_below_drewN | apply below_drew1 | refine below_set ?_ GE429.out) | exact HB.out))); (case aF => exact (fun k_ hk => Kd.fresh' (Kd.S_lt (by (with_reducible repeat (first | apply Kd.S_alloc | apply Kd.S_drewN | apply Kd.S_drew)); exact HO_6.out)) k_ hk)); (case aO => exact (by (with_reducible repeat (first | apply Kd.S_alloc | apply Kd.S_drewN | apply Kd.S_drew)); exact Kd.S_mono HO_10.out (fun k_ hk => ⟨hk.1, fun e_ => hk.2 e_⟩))); (case aS => exact (below_size (by repeat (first | (with_reducible first | exact HB.out | apply below_alloc | apply pw_below_drewN | apply below_drew1 | refine below_set ?_ GE429.out) | exact HB.out)))); (case aL => have := LMc36.out; omega); intro v457 w37 ho hb hg hat; rw [← Ny456.out] at ho; have n0_ := Aside0.mk (Kd.S_after (ok := (fun k_ => some k_ ≠ (.slice Ao38 x12_2.length co38 : Value).ownBlock)) (by (with_reducible repeat (first | apply Kd.S_alloc | apply Kd.S_drewN | apply Kd.S_drew)); exact Kd.S_mono HO_6.out (fun _ hk => ⟨hk.2, hk.1⟩)) hg hat); have n1_ := Aside0.mk (blk_grown (g := gb429) (o := .cells #[.int .i64 a1_0, .int .i64 a1_1] 73 (0, 0)) (by (with_reducible repeat (first | refine blk_drewN ?_ _ | refine blk_drew ?_ | refine blk_alloc ?_ _)); exact BK429.out) hg (Kd.S_ne HO_10.out BK429.out (by decide))); have n2_ := Aside0.mk (Kd.R_after (ok := (fun k_ => some k_ ≠ (.slice (some ad435) t431.length co21 : Value).ownBlock ∧ some k_ ≠ (.slice Ao38 x12_2.length co38 : Value).ownBlock)) (by (with_reducible repeat (first | apply Kd.R_alloc | apply Kd.R_drewN | apply Kd.R_drew)); exact Kd.R_mono HL440_0.out (fun _ hk => ⟨⟨hk.2, hk.1.2⟩, hk.1.1⟩)) hg hat); have n3_ := Aside0.mk (hb); have n4_ := Aside0.mk (ho); clear HO_6; clear BK429; clear HL440_0; clear HB; clear HO_10; clear HO_12; have HO_6 := n0_; have BK429 := n1_; have HL440_0 := n2_; have HB := n3_; have HO458 := n4_; clear n0_ n1_ n2_ n3_ n4_; clear ho hb hg hat)))
                              go_roundg k2
                              case measure => have := HK1.out; have := HK2.out; omega
                              case rel => exact ⟨(y456), (wrap64 (x11_1 + 1)), (by first | rfl | (simp; done) | (simp [*]; done)), H', ⟨by have := HK1.out; have := HK2.out; omega⟩, ⟨by (with_reducible repeat (first | apply Kd.S_alloc | apply Kd.S_drewN | apply Kd.S_drew)); exact Kd.S_mono HO_6.out (fun _ hk => hk.2)⟩, ⟨by (with_reducible repeat (first | apply Kd.S_alloc | apply Kd.S_drewN | apply Kd.S_drew)); exact HO458.out⟩, ⟨by (with_reducible repeat (first | refine blk_drewN ?_ _ | refine blk_drew ?_ | refine blk_alloc ?_ _)); exact BK429.out⟩, ⟨by repeat (first | (with_reducible first | exact HB.out | apply below_alloc | apply pw_below_drewN | apply below_drew1 | refine below_set ?_ GE429.out) | exact HB.out)⟩⟩
                            · rw [if_neg c36] at H
                              exact absurd H (by simp)
                        · rw [if_neg c24] at H
                          exact absurd H (by simp)
                      · rw [if_neg c23] at H
                        exact absurd H (by simp)
                · rw [if_neg c22] at H
                  have c22b0 : decide (x11_1 < (t431.length : Int)) = false := decide_eq_false c22
                  clear c22
                  obtain ⟨y459, hy459⟩ : ∃ y_ : List Int, y_ = (([(rd (rd_L1 t431 t434) t438)] : List Int)) := ⟨_, rfl⟩
                  replace H : (if x10_1.length < 5864062014805 then ((some (x10_1 ++ [y459] : List (List Int))).bind fun y462 => ((graph_Idom.f k1 t431).bind fun t465 => ((graph_Idom.f k1 y462).bind fun t468 => (if (t468.length : Int) = (wrap64 ((t431.length : Int) + 1)) then (jacquardlaw02_GraphPut.j2 k1 t430 t431 (t431.length : Int) y462 t465 t468 ((t465.length : Int) != (t431.length : Int))) else (jacquardlaw02_GraphPut.j2 k1 t430 t431 (t431.length : Int) y462 t465 t468 true))))) else (none)) = some r := by first | (rw [hy459]; with_reducible exact H) | (have H2_ := (Option.bind_some _ _).symm.trans H; rw [hy459]; with_reducible exact H2_) | (have H2_ := (Option.bind_some _ _).symm.trans H; with_reducible exact H2_) | with_reducible exact H | (rw [hy459]; exact H) | exact H
                  have Ny459 := Aside0.mk hy459
                  clear hy459
                  by_cases c39 : x10_1.length < 5864062014805
                  · rw [if_pos c39] at H
                    have LMc39 := Aside0.mk c39
                    clear c39
                    obtain ⟨y462, hy462⟩ : ∃ y_ : List (List Int), y_ = (x10_1 ++ [y459]) := ⟨_, rfl⟩
                    replace H : ((graph_Idom.f k1 t431).bind fun t465 => ((graph_Idom.f k1 y462).bind fun t468 => (if (t468.length : Int) = (wrap64 ((t431.length : Int) + 1)) then (jacquardlaw02_GraphPut.j2 k1 t430 t431 (t431.length : Int) y462 t465 t468 ((t465.length : Int) != (t431.length : Int))) else (jacquardlaw02_GraphPut.j2 k1 t430 t431 (t431.length : Int) y462 t465 t468 true)))) = some r := by first | (rw [hy462]; with_reducible exact H) | (have H2_ := (Option.bind_some _ _).symm.trans H; rw [hy462]; with_reducible exact H2_) | (have H2_ := (Option.bind_some _ _).symm.trans H; with_reducible exact H2_) | with_reducible exact H | (rw [hy462]; exact H) | exact H
                    have Ny462 := Aside0.mk hy462
                    clear hy462
                    replace H := Option.bind_eq_some_iff.mp H
                    obtain ⟨t465, A400, H⟩ := H
                    replace H : ((graph_Idom.f k1 y462).bind fun t468 => (if (t468.length : Int) = (wrap64 ((t431.length : Int) + 1)) then (jacquardlaw02_GraphPut.j2 k1 t430 t431 (t431.length : Int) y462 t465 t468 ((t465.length : Int) != (t431.length : Int))) else (jacquardlaw02_GraphPut.j2 k1 t430 t431 (t431.length : Int) y462 t465 t468 true))) = some r := H
                    have A40 := Aside0.mk A400
                    clear A400
                    replace H := Option.bind_eq_some_iff.mp H
                    obtain ⟨t468, A410, H⟩ := H
                    replace H : (if (t468.length : Int) = (wrap64 ((t431.length : Int) + 1)) then (jacquardlaw02_GraphPut.j2 k1 t430 t431 (t431.length : Int) y462 t465 t468 ((t465.length : Int) != (t431.length : Int))) else (jacquardlaw02_GraphPut.j2 k1 t430 t431 (t431.length : Int) y462 t465 t468 true)) = some r := H
                    have A41 := Aside0.mk A410
                    clear A410
                    have HC42 := Aside0.mk H
                    clear H
                    go_upto_region 23 with (first | ((with_reducible refine gate_dst (N := 99) rfl ?_); (try (refine gate_guard (by rfl) ?_; dsimp only)); refine Kd.R_lit (Kd.int .i64) _ 3 ?hg (N := 99) ?hd (xs := ([(rd (rd_L1 t431 t434) t438)] : List Int)) (inner := [.int .i64 (rd (rd_L1 t431 t434) t438)]) (ok := fun _ => True) (okp := fun _ => True) ?hr ?hp (fun _ hk => hk) trivial (Below.refl _ _) (Nat.le_refl _) (by simp) ?_; (case hd => rfl); (case hg => rfl); (case hr => first | (go_simp; done) | (go_simp; rfl)); (case hp => exact (Reps.one (show Kd.M (Kd.int .i64) _ _ _ (rd (rd_L1 t431 t434) t438) [.int .i64 (rd (rd_L1 t431 t434) t438)] from rfl) (Reps.none _ _))); intro v460 w43 ho44 hb hg_ hnew_; clear hg_ hnew_; (first | rw [← Ny459.out] at ho44 | (simp only [Int.reduceToNat] at ho44; rw [← Ny459.out] at ho44)); have n0_ := Aside0.mk (Kd.S_elder' (by (with_reducible repeat (first | apply Kd.S_alloc | apply Kd.S_drewN | apply Kd.S_drew)); exact HO_6.out) (Kd.R_base ho44) hb); have n1_ := Aside0.mk (Kd.S_elder' (by (with_reducible repeat (first | apply Kd.S_alloc | apply Kd.S_drewN | apply Kd.S_drew)); exact HO_10.out) (Kd.R_base ho44) hb); have n2_ := Aside0.mk (Kd.R_lower ho44 (below_size (by repeat (first | (with_reducible first | exact HB.out | apply below_alloc | apply pw_below_drewN | apply below_drew1 | refine below_set ?_ GE429.out) | exact HB.out)))); have n3_ := Aside0.mk (blk_below (g := gb429) (o := .cells #[.int .i64 a1_0, .int .i64 a1_1] 73 (0, 0)) (by (with_reducible repeat (first | refine blk_drewN ?_ _ | refine blk_drew ?_ | refine blk_alloc ?_ _)); exact BK429.out) hb); have n4_ := Aside0.mk (below_step (by repeat (first | (with_reducible first | exact HB.out | apply below_alloc | apply pw_below_drewN | apply below_drew1 | refine below_set ?_ GE429.out) | exact HB.out)) hb); clear HO_6; clear HO_10; clear BK429; clear HB; have HO_6 := n0_; have HO_10 := n1_; have HO461 := n2_; have BK429 := n3_; have HB := n4_; clear n0_ n1_ n2_ n3_ n4_; clear hb ho44; obtain ⟨Ao46, co46, eo46⟩ := Kd.R_slice HO461.out; subst eo46) | ((with_reducible refine gate_builtin (b := .append) (xs := #[.tmp 97, .tmp 100]) rfl ?_); (try (refine gate_guard (by rfl) ?_; dsimp only)); at_builtin; refine Kd.S_append (Kd.slice 3 (Kd.int .i64)) (w0 := w) w.heap.size rfl (.tmp 97) (.tmp 100) 22 23 (.slice none 0 0) 24 rfl Try.underlying22 info23 rfl (by decide) (by omega) u10 x10_1 y459 [.slice Ao46 y459.length co46] (fun k_ => some k_ ≠ (.slice (some ad435) t431.length co21 : Value).ownBlock) (fun k_ => some k_ = (.slice Ao46 y459.length co46 : Value).ownBlock) rfl rfl ?aP (fun k_ hk_ => ((Kd.R_mono (ok' := fun k_ => ((fun k_ => some k_ ≠ (.slice (some ad435) t431.length co21 : Value).ownBlock)) k_ ∧ some k_ ≠ (u10 : Value).ownBlock) (Kd.R_apart' (Kd.R_apart' (HO461.out) (Kd.S_typed HO_6.out) (by decide)) (Kd.S_typed HO_10.out) (by decide)) (fun k_ hk => ⟨hk.1.2, hk.2⟩))).1 k_ hk_.symm) ?aF ?aO ?aB ?aS ?aL ?_; (case aP => exact Kd.M_row (Kd.R_mono (Kd.R_tight rfl (Kd.R_mono (ok' := fun k_ => ((fun k_ => some k_ ≠ (.slice (some ad435) t431.length co21 : Value).ownBlock)) k_ ∧ some k_ ≠ (u10 : Value).ownBlock) (Kd.R_apart' (Kd.R_apart' (HO461.out) (Kd.S_typed HO_6.out) (by decide)) (Kd.S_typed HO_10.out) (by decide)) (fun k_ hk => ⟨hk.1.2, hk.2⟩))) (fun _ h_ => h_))); (case aB => exact (by repeat (first | (with_reducible first | exact HB.out | apply below_alloc | apply pw_below_drewN | apply below_drew1 | refine below_set ?_ GE429.out) | exact HB.out))); (case aF => exact (fun k_ hk => Kd.fresh' (Kd.S_lt (by (with_reducible repeat (first | apply Kd.S_alloc | apply Kd.S_drewN | apply Kd.S_drew)); exact HO_6.out)) k_ hk)); (case aO => exact (by (with_reducible repeat (first | apply Kd.S_alloc | apply Kd.S_drewN | apply Kd.S_drew)); exact Kd.S_mono HO_10.out (fun k_ hk => ⟨hk.1, fun e_ => hk.2 e_⟩))); (case aS => exact (below_size (by repeat (first | (with_reducible first | exact HB.out | apply below_alloc | apply pw_below_drewN | apply below_drew1 | refine below_set ?_ GE429.out) | exact HB.out)))); (case aL => have := LMc39.out; omega); intro v463 w45 ho hb hg hat; rw [← Ny462.out] at ho; have n0_ := Aside0.mk (Kd.S_after (ok := (fun k_ => some k_ ≠ (.slice Ao46 y459.length co46 : Value).ownBlock)) (by (with_reducible repeat (first | apply Kd.S_alloc | apply Kd.S_drewN | apply Kd.S_drew)); exact Kd.S_mono HO_6.out (fun _ hk => ⟨hk.2, hk.1⟩)) hg hat); have n1_ := Aside0.mk (blk_grown (g := gb429) (o := .cells #[.int .i64 a1_0, .int .i64 a1_1] 73 (0, 0)) (by (with_reducible repeat (first | refine blk_drewN ?_ _ | refine blk_drew ?_ | refine blk_alloc ?_ _)); exact BK429.out) hg (Kd.S_ne HO_10.out BK429.out (by decide))); have n2_ := Aside0.mk (hb); have n3_ := Aside0.mk (ho); clear HO_6; clear BK429; clear HB; clear HO_10; clear HO461; have HO_6 := n0_; have BK429 := n1_; have HB := n2_; have HO464 := n3_; clear n0_ n1_ n2_ n3_; clear ho hb hg hat) | (go_at_call 30; (with_reducible refine (graph_Idom.calls k1 _ _ t431 t465 _ ?side1 ?side2 A40.out).mono ?_); (case side1 => repeat (first | exact (Kd.S_reads' HO_6.out).2.2 | (with_reducible refine Kd.C_alloc ?_ _) | (with_reducible refine Kd.C_drewN ?_ _) | (with_reducible refine Kd.C_drew ?_))); (case side2 => exact (Kd.S_reads' HO_6.out).2.1); rintro e w47 ⟨v466, rfl, ho0, hb⟩; have n0_ := Aside0.mk (Kd.S_elder' (by (with_reducible repeat (first | apply Kd.S_alloc | apply Kd.S_drewN | apply Kd.S_drew)); exact HO_6.out) (Kd.R_base ho0) hb); have n1_ := Aside0.mk (Kd.S_elder' (by (with_reducible repeat (first | apply Kd.S_alloc | apply Kd.S_drewN | apply Kd.S_drew)); exact HO464.out) (Kd.R_base ho0) hb); have n2_ := Aside0.mk (Kd.R_lower ho0 (below_size (by repeat (first | (with_reducible first | exact HB.out | apply below_alloc | apply pw_below_drewN | apply below_drew1 | refine below_set ?_ GE429.out) | exact HB.out)))); have n3_ := Aside0.mk (blk_below (g := gb429) (o := .cells #[.int .i64 a1_0, .int .i64 a1_1] 73 (0, 0)) (by (with_reducible repeat (first | refine blk_drewN ?_ _ | refine blk_drew ?_ | refine blk_alloc ?_ _)); exact BK429.out) hb); have n4_ := Aside0.mk (below_step (by repeat (first | (with_reducible first | exact HB.out | apply below_alloc | apply pw_below_drewN | apply below_drew1 | refine below_set ?_ GE429.out) | exact HB.out)) hb); clear HO_6; clear HO464; clear BK429; clear HB; have HO_6 := n0_; have HO464 := n1_; have HO467 := n2_; have BK429 := n3_; have HB := n4_; clear n0_ n1_ n2_ n3_ n4_; (try clear hb); (try clear hb2); (try clear hk); (try clear hi); (try clear ho0); obtain ⟨Ao48, co48, eo48⟩ := Kd.S_slice HO464.out; subst eo48) | (go_at_call 30; (with_reducible refine (graph_Idom.calls k1 _ _ y462 t468 _ ?side1 ?side2 A41.out).mono ?_); (case side1 => repeat (first | exact (Kd.S_reads' HO464.out).2.2 | (with_reducible refine Kd.C_alloc ?_ _) | (with_reducible refine Kd.C_drewN ?_ _) | (with_reducible refine Kd.C_drew ?_))); (case side2 => exact (Kd.S_reads' HO464.out).2.1); rintro e w49 ⟨v469, rfl, ho0, hb⟩; have n0_ := Aside0.mk (Kd.S_elder' (by (with_reducible repeat (first | apply Kd.S_alloc | apply Kd.S_drewN | apply Kd.S_drew)); exact HO_6.out) (Kd.R_base ho0) hb); have n1_ := Aside0.mk (Kd.S_elder' (by (with_reducible repeat (first | apply Kd.S_alloc | apply Kd.S_drewN | apply Kd.S_drew)); exact HO464.out) (Kd.R_base ho0) hb); have n2_ := Aside0.mk (Kd.R_elder' (by (with_reducible repeat (first | apply Kd.R_alloc | apply Kd.R_drewN | apply Kd.R_drew)); exact HO467.out) (Kd.R_base ho0) hb); have n3_ := Aside0.mk (Kd.R_lower (Kd.R_new' ho0 (Kd.R_lt (by (with_reducible repeat (first | apply Kd.R_alloc | apply Kd.R_drewN | apply Kd.R_drew)); exact HO467.out))) (below_size (by repeat (first | (with_reducible first | exact HB.out | apply below_alloc | apply pw_below_drewN | apply below_drew1 | refine below_set ?_ GE429.out) | exact HB.out)))); have n4_ := Aside0.mk (blk_below (g := gb429) (o := .cells #[.int .i64 a1_0, .int .i64 a1_1] 73 (0, 0)) (by (with_reducible repeat (first | refine blk_drewN ?_ _ | refine blk_drew ?_ | refine blk_alloc ?_ _)); exact BK429.out) hb); have n5_ := Aside0.mk (below_step (by repeat (first | (with_reducible first | exact HB.out | apply below_alloc | apply pw_below_drewN | apply below_drew1 | refine below_set ?_ GE429.out) | exact HB.out)) hb); clear HO_6; clear HO464; clear HO467; clear BK429; clear HB; have HO_6 := n0_; have HO464 := n1_; have HO467 := n2_; have HO470 := n3_; have BK429 := n4_; have HB := n5_; clear n0_ n1_ n2_ n3_ n4_ n5_; (try clear hb); (try clear hb2); (try clear hk); (try clear hi); (try clear ho0)))
                    repeat (go_quiet (first | ((with_reducible refine gate_dst (N := 99) rfl ?_); (try (refine gate_guard (by rfl) ?_; dsimp only)); refine Kd.R_lit (Kd.int .i64) _ 3 ?hg (N := 99) ?hd (xs := ([(rd (rd_L1 t431 t434) t438)] : List Int)) (inner := [.int .i64 (rd (rd_L1 t431 t434) t438)]) (ok := fun _ => True) (okp := fun _ => True) ?hr ?hp (fun _ hk => hk) trivial (Below.refl _ _) (Nat.le_refl _) (by simp) ?_; (case hd => rfl); (case hg => rfl); (case hr => first | (go_simp; done) | (go_simp; rfl)); (case hp => exact (Reps.one (show Kd.M (Kd.int .i64) _ _ _ (rd (rd_L1 t431 t434) t438) [.int .i64 (rd (rd_L1 t431 t434) t438)] from rfl) (Reps.none _ _))); intro v460 w43 ho44 hb hg_ hnew_; clear hg_ hnew_; (first | rw [← Ny459.out] at ho44 | (simp only [Int.reduceToNat] at ho44; rw [← Ny459.out] at ho44)); have n0_ := Aside0.mk (Kd.S_elder' (by (with_reducible repeat (first | apply Kd.S_alloc | apply Kd.S_drewN | apply Kd.S_drew)); exact HO_6.out) (Kd.R_base ho44) hb); have n1_ := Aside0.mk (Kd.S_elder' (by (with_reducible repeat (first | apply Kd.S_alloc | apply Kd.S_drewN | apply Kd.S_drew)); exact HO_10.out) (Kd.R_base ho44) hb); have n2_ := Aside0.mk (Kd.R_lower ho44 (below_size (by repeat (first | (with_reducible first | exact HB.out | apply below_alloc | apply pw_below_drewN | apply below_drew1 | refine below_set ?_ GE429.out) | exact HB.out)))); have n3_ := Aside0.mk (blk_below (g := gb429) (o := .cells #[.int .i64 a1_0, .int .i64 a1_1] 73 (0, 0)) (by (with_reducible repeat (first | refine blk_drewN ?_ _ | refine blk_drew ?_ | refine blk_alloc ?_ _)); exact BK429.out) hb); have n4_ := Aside0.mk (below_step (by repeat (first | (with_reducible first | exact HB.out | apply below_alloc | apply pw_below_drewN | apply below_drew1 | refine below_set ?_ GE429.out) | exact HB.out)) hb); clear HO_6; clear HO_10; clear BK429; clear HB; have HO_6 := n0_; have HO_10 := n1_; have HO461 := n2_; have BK429 := n3_; have HB := n4_; clear n0_ n1_ n2_ n3_ n4_; clear hb ho44; obtain ⟨Ao46, co46, eo46⟩ := Kd.R_slice HO461.out; subst eo46) | ((with_reducible refine gate_builtin (b := .append) (xs := #[.tmp 97, .tmp 100]) rfl ?_); (try (refine gate_guard (by rfl) ?_; dsimp only)); at_builtin; refine Kd.S_append (Kd.slice 3 (Kd.int .i64)) (w0 := w) w.heap.size rfl (.tmp 97) (.tmp 100) 22 23 (.slice none 0 0) 24 rfl Try.underlying22 info23 rfl (by decide) (by omega) u10 x10_1 y459 [.slice Ao46 y459.length co46] (fun k_ => some k_ ≠ (.slice (some ad435) t431.length co21 : Value).ownBlock) (fun k_ => some k_ = (.slice Ao46 y459.length co46 : Value).ownBlock) rfl rfl ?aP (fun k_ hk_ => ((Kd.R_mono (ok' := fun k_ => ((fun k_ => some k_ ≠ (.slice (some ad435) t431.length co21 : Value).ownBlock)) k_ ∧ some k_ ≠ (u10 : Value).ownBlock) (Kd.R_apart' (Kd.R_apart' (HO461.out) (Kd.S_typed HO_6.out) (by decide)) (Kd.S_typed HO_10.out) (by decide)) (fun k_ hk => ⟨hk.1.2, hk.2⟩))).1 k_ hk_.symm) ?aF ?aO ?aB ?aS ?aL ?_; (case aP => exact Kd.M_row (Kd.R_mono (Kd.R_tight rfl (Kd.R_mono (ok' := fun k_ => ((fun k_ => some k_ ≠ (.slice (some ad435) t431.length co21 : Value).ownBlock)) k_ ∧ some k_ ≠ (u10 : Value).ownBlock) (Kd.R_apart' (Kd.R_apart' (HO461.out) (Kd.S_typed HO_6.out) (by decide)) (Kd.S_typed HO_10.out) (by decide)) (fun k_ hk => ⟨hk.1.2, hk.2⟩))) (fun _ h_ => h_))); (case aB => exact (by repeat (first | (with_reducible first | exact HB.out | apply below_alloc | apply pw_below_drewN | apply below_drew1 | refine below_set ?_ GE429.out) | exact HB.out))); (case aF => exact (fun k_ hk => Kd.fresh' (Kd.S_lt (by (with_reducible repeat (first | apply Kd.S_alloc | apply Kd.S_drewN | apply Kd.S_drew)); exact HO_6.out)) k_ hk)); (case aO => exact (by (with_reducible repeat (first | apply Kd.S_alloc | apply Kd.S_drewN | apply Kd.S_drew)); exact Kd.S_mono HO_10.out (fun k_ hk => ⟨hk.1, fun e_ => hk.2 e_⟩))); (case aS => exact (below_size (by repeat (first | (with_reducible first | exact HB.out | apply below_alloc | apply pw_below_drewN | apply below_drew1 | refine below_set ?_ GE429.out) | exact HB.out)))); (case aL => have := LMc39.out; omega); intro v463 w45 ho hb hg hat; rw [← Ny462.out] at ho; have n0_ := Aside0.mk (Kd.S_after (ok := (fun k_ => some k_ ≠ (.slice Ao46 y459.length co46 : Value).ownBlock)) (by (with_reducible repeat (first | apply Kd.S_alloc | apply Kd.S_drewN | apply Kd.S_drew)); exact Kd.S_mono HO_6.out (fun _ hk => ⟨hk.2, hk.1⟩)) hg hat); have n1_ := Aside0.mk (blk_grown (g := gb429) (o := .cells #[.int .i64 a1_0, .int .i64 a1_1] 73 (0, 0)) (by (with_reducible repeat (first | refine blk_drewN ?_ _ | refine blk_drew ?_ | refine blk_alloc ?_ _)); exact BK429.out) hg (Kd.S_ne HO_10.out BK429.out (by decide))); have n2_ := Aside0.mk (hb); have n3_ := Aside0.mk (ho); clear HO_6; clear BK429; clear HB; clear HO_10; clear HO461; have HO_6 := n0_; have BK429 := n1_; have HB := n2_; have HO464 := n3_; clear n0_ n1_ n2_ n3_; clear ho hb hg hat) | (go_at_call 30; (with_reducible refine (graph_Idom.calls k1 _ _ t431 t465 _ ?side1 ?side2 A40.out).mono ?_); (case side1 => repeat (first | exact (Kd.S_reads' HO_6.out).2.2 | (with_reducible refine Kd.C_alloc ?_ _) | (with_reducible refine Kd.C_drewN ?_ _) | (with_reducible refine Kd.C_drew ?_))); (case side2 => exact (Kd.S_reads' HO_6.out).2.1); rintro e w47 ⟨v466, rfl, ho0, hb⟩; have n0_ := Aside0.mk (Kd.S_elder' (by (with_reducible repeat (first | apply Kd.S_alloc | apply Kd.S_drewN | apply Kd.S_drew)); exact HO_6.out) (Kd.R_base ho0) hb); have n1_ := Aside0.mk (Kd.S_elder' (by (with_reducible repeat (first | apply Kd.S_alloc | apply Kd.S_drewN | apply Kd.S_drew)); exact HO464.out) (Kd.R_base ho0) hb); have n2_ := Aside0.mk (Kd.R_lower ho0 (below_size (by repeat (first | (with_reducible first | exact HB.out | apply below_alloc | apply pw_below_drewN | apply below_drew1 | refine below_set ?_ GE429.out) | exact HB.out)))); have n3_ := Aside0.mk (blk_below (g := gb429) (o := .cells #[.int .i64 a1_0, .int .i64 a1_1] 73 (0, 0)) (by (with_reducible repeat (first | refine blk_drewN ?_ _ | refine blk_drew ?_ | refine blk_alloc ?_ _)); exact BK429.out) hb); have n4_ := Aside0.mk (below_step (by repeat (first | (with_reducible first | exact HB.out | apply below_alloc | apply pw_below_drewN | apply below_drew1 | refine below_set ?_ GE429.out) | exact HB.out)) hb); clear HO_6; clear HO464; clear BK429; clear HB; have HO_6 := n0_; have HO464 := n1_; have HO467 := n2_; have BK429 := n3_; have HB := n4_; clear n0_ n1_ n2_ n3_ n4_; (try clear hb); (try clear hb2); (try clear hk); (try clear hi); (try clear ho0); obtain ⟨Ao48, co48, eo48⟩ := Kd.S_slice HO464.out; subst eo48) | (go_at_call 30; (with_reducible refine (graph_Idom.calls k1 _ _ y462 t468 _ ?side1 ?side2 A41.out).mono ?_); (case side1 => repeat (first | exact (Kd.S_reads' HO464.out).2.2 | (with_reducible refine Kd.C_alloc ?_ _) | (with_reducible refine Kd.C_drewN ?_ _) | (with_reducible refine Kd.C_drew ?_))); (case side2 => exact (Kd.S_reads' HO464.out).2.1); rintro e w49 ⟨v469, rfl, ho0, hb⟩; have n0_ := Aside0.mk (Kd.S_elder' (by (with_reducible repeat (first | apply Kd.S_alloc | apply Kd.S_drewN | apply Kd.S_drew)); exact HO_6.out) (Kd.R_base ho0) hb); have n1_ := Aside0.mk (Kd.S_elder' (by (with_reducible repeat (first | apply Kd.S_alloc | apply Kd.S_drewN | apply Kd.S_drew)); exact HO464.out) (Kd.R_base ho0) hb); have n2_ := Aside0.mk (Kd.R_elder' (by (with_reducible repeat (first | apply Kd.R_alloc | apply Kd.R_drewN | apply Kd.R_drew)); exact HO467.out) (Kd.R_base ho0) hb); have n3_ := Aside0.mk (Kd.R_lower (Kd.R_new' ho0 (Kd.R_lt (by (with_reducible repeat (first | apply Kd.R_alloc | apply Kd.R_drewN | apply Kd.R_drew)); exact HO467.out))) (below_size (by repeat (first | (with_reducible first | exact HB.out | apply below_alloc | apply pw_below_drewN | apply below_drew1 | refine below_set ?_ GE429.out) | exact HB.out)))); have n4_ := Aside0.mk (blk_below (g := gb429) (o := .cells #[.int .i64 a1_0, .int .i64 a1_1] 73 (0, 0)) (by (with_reducible repeat (first | refine blk_drewN ?_ _ | refine blk_drew ?_ | refine blk_alloc ?_ _)); exact BK429.out) hb); have n5_ := Aside0.mk (below_step (by repeat (first | (with_reducible first | exact HB.out | apply below_alloc | apply pw_below_drewN | apply below_drew1 | refine below_set ?_ GE429.out) | exact HB.out)) hb); clear HO_6; clear HO464; clear HO467; clear BK429; clear HB; have HO_6 := n0_; have HO464 := n1_; have HO467 := n2_; have HO470 := n3_; have BK429 := n4_; have HB := n5_; clear n0_ n1_ n2_ n3_ n4_ n5_; (try clear hb); (try clear hb2); (try clear hk); (try clear hi); (try clear ho0))); go_upto_region 23 with (first | ((with_reducible refine gate_dst (N := 99) rfl ?_); (try (refine gate_guard (by rfl) ?_; dsimp only)); refine Kd.R_lit (Kd.int .i64) _ 3 ?hg (N := 99) ?hd (xs := ([(rd (rd_L1 t431 t434) t438)] : List Int)) (inner := [.int .i64 (rd (rd_L1 t431 t434) t438)]) (ok := fun _ => True) (okp := fun _ => True) ?hr ?hp (fun _ hk => hk) trivial (Below.refl _ _) (Nat.le_refl _) (by simp) ?_; (case hd => rfl); (case hg => rfl); (case hr => first | (go_simp; done) | (go_simp; rfl)); (case hp => exact (Reps.one (show Kd.M (Kd.int .i64) _ _ _ (rd (rd_L1 t431 t434) t438) [.int .i64 (rd (rd_L1 t431 t434) t438)] from rfl) (Reps.none _ _))); intro v460 w43 ho44 hb hg_ hnew_; clear hg_ hnew_; (first | rw [← Ny459.out] at ho44 | (simp only [Int.reduceToNat] at ho44; rw [← Ny459.out] at ho44)); have n0_ := Aside0.mk (Kd.S_elder' (by (with_reducible repeat (first | apply Kd.S_alloc | apply Kd.S_drewN | apply Kd.S_drew)); exact HO_6.out) (Kd.R_base ho44) hb); have n1_ := Aside0.mk (Kd.S_elder' (by (with_reducible repeat (first | apply Kd.S_alloc | apply Kd.S_drewN | apply Kd.S_drew)); exact HO_10.out) (Kd.R_base ho44) hb); have n2_ := Aside0.mk (Kd.R_lower ho44 (below_size (by repeat (first | (with_reducible first | exact HB.out | apply below_alloc | apply pw_below_drewN | apply below_drew1 | refine below_set ?_ GE429.out) | exact HB.out)))); have n3_ := Aside0.mk (blk_below (g := gb429) (o := .cells #[.int .i64 a1_0, .int .i64 a1_1] 73 (0, 0)) (by (with_reducible repeat (first | refine blk_drewN ?_ _ | refine blk_drew ?_ | refine blk_alloc ?_ _)); exact BK429.out) hb); have n4_ := Aside0.mk (below_step (by repeat (first | (with_reducible first | exact HB.out | apply below_alloc | apply pw_below_drewN | apply below_drew1 | refine below_set ?_ GE429.out) | exact HB.out)) hb); clear HO_6; clear HO_10; clear BK429; clear HB; have HO_6 := n0_; have HO_10 := n1_; have HO461 := n2_; have BK429 := n3_; have HB := n4_; clear n0_ n1_ n2_ n3_ n4_; clear hb ho44; obtain ⟨Ao46, co46, eo46⟩ := Kd.R_slice HO461.out; subst eo46) | ((with_reducible refine gate_builtin (b := .append) (xs := #[.tmp 97, .tmp 100]) rfl ?_); (try (refine gate_guard (by rfl) ?_; dsimp only)); at_builtin; refine Kd.S_append (Kd.slice 3 (Kd.int .i64)) (w0 := w) w.heap.size rfl (.tmp 97) (.tmp 100) 22 23 (.slice none 0 0) 24 rfl Try.underlying22 info23 rfl (by decide) (by omega) u10 x10_1 y459 [.slice Ao46 y459.length co46] (fun k_ => some k_ ≠ (.slice (some ad435) t431.length co21 : Value).ownBlock) (fun k_ => some k_ = (.slice Ao46 y459.length co46 : Value).ownBlock) rfl rfl ?aP (fun k_ hk_ => ((Kd.R_mono (ok' := fun k_ => ((fun k_ => some k_ ≠ (.slice (some ad435) t431.length co21 : Value).ownBlock)) k_ ∧ some k_ ≠ (u10 : Value).ownBlock) (Kd.R_apart' (Kd.R_apart' (HO461.out) (Kd.S_typed HO_6.out) (by decide)) (Kd.S_typed HO_10.out) (by decide)) (fun k_ hk => ⟨hk.1.2, hk.2⟩))).1 k_ hk_.symm) ?aF ?aO ?aB ?aS ?aL ?_; (case aP => exact Kd.M_row (Kd.R_mono (Kd.R_tight rfl (Kd.R_mono (ok' := fun k_ => ((fun k_ => some k_ ≠ (.slice (some ad435) t431.length co21 : Value).ownBlock)) k_ ∧ some k_ ≠ (u10 : Value).ownBlock) (Kd.R_apart' (Kd.R_apart' (HO461.out) (Kd.S_typed HO_6.out) (by decide)) (Kd.S_typed HO_10.out) (by decide)) (fun k_ hk => ⟨hk.1.2, hk.2⟩))) (fun _ h_ => h_))); (case aB => exact (by repeat (first | (with_reducible first | exact HB.out | apply below_alloc | apply pw_below_drewN | apply below_drew1 | refine below_set ?_ GE429.out) | exact HB.out))); (case aF => exact (fun k_ hk => Kd.fresh' (Kd.S_lt (by (with_reducible repeat (first | apply Kd.S_alloc | apply Kd.S_drewN | apply Kd.S_drew)); exact HO_6.out)) k_ hk)); (case aO => exact (by (with_reducible repeat (first | apply Kd.S_alloc | apply Kd.S_drewN | apply Kd.S_drew)); exact Kd.S_mono HO_10.out (fun k_ hk => ⟨hk.1, fun e_ => hk.2 e_⟩))); (case aS => exact (below_size (by repeat (first | (with_reducible first | exact HB.out | apply below_alloc | apply pw_below_drewN | apply below_drew1 | refine below_set ?_ GE429.out) | exact HB.out)))); (case aL => have := LMc39.out; omega); intro v463 w45 ho hb hg hat; rw [← Ny462.out] at ho; have n0_ := Aside0.mk (Kd.S_after (ok := (fun k_ => some k_ ≠ (.slice Ao46 y459.length co46 : Value).ownBlock)) (by (with_reducible repeat (first | apply Kd.S_alloc | apply Kd.S_drewN | apply Kd.S_drew)); exact Kd.S_mono HO_6.out (fun _ hk => ⟨hk.2, hk.1⟩)) hg hat); have n1_ := Aside0.mk (blk_grown (g := gb429) (o := .cells #[.int .i64 a1_0, .int .i64 a1_1] 73 (0, 0)) (by (with_reducible repeat (first | refine blk_drewN ?_ _ | refine blk_drew ?_ | refine blk_alloc ?_ _)); exact BK429.out) hg (Kd.S_ne HO_10.out BK429.out (by decide))); have n2_ := Aside0.mk (hb); have n3_ := Aside0.mk (ho); clear HO_6; clear BK429; clear HB; clear HO_10; clear HO461; have HO_6 := n0_; have BK429 := n1_; have HB := n2_; have HO464 := n3_; clear n0_ n1_ n2_ n3_; clear ho hb hg hat) | (go_at_call 30; (with_reducible refine (graph_Idom.calls k1 _ _ t431 t465 _ ?side1 ?side2 A40.out).mono ?_); (case side1 => repeat (first | exact (Kd.S_reads' HO_6.out).2.2 | (with_reducible refine Kd.C_alloc ?_ _) | (with_reducible refine Kd.C_drewN ?_ _) | (with_reducible refine Kd.C_drew ?_))); (case side2 => exact (Kd.S_reads' HO_6.out).2.1); rintro e w47 ⟨v466, rfl, ho0, hb⟩; have n0_ := Aside0.mk (Kd.S_elder' (by (with_reducible repeat (first | apply Kd.S_alloc | apply Kd.S_drewN | apply Kd.S_drew)); exact HO_6.out) (Kd.R_base ho0) hb); have n1_ := Aside0.mk (Kd.S_elder' (by (with_reducible repeat (first | apply Kd.S_alloc | apply Kd.S_drewN | apply Kd.S_drew)); exact HO464.out) (Kd.R_base ho0) hb); have n2_ := Aside0.mk (Kd.R_lower ho0 (below_size (by repeat (first | (with_reducible first | exact HB.out | apply below_alloc | apply pw_below_drewN | apply below_drew1 | refine below_set ?_ GE429.out) | exact HB.out)))); have n3_ := Aside0.mk (blk_below (g := gb429) (o := .cells #[.int .i64 a1_0, .int .i64 a1_1] 73 (0, 0)) (by (with_reducible repeat (first | refine blk_drewN ?_ _ | refine blk_drew ?_ | refine blk_alloc ?_ _)); exact BK429.out) hb); have n4_ := Aside0.mk (below_step (by repeat (first | (with_reducible first | exact HB.out | apply below_alloc | apply pw_below_drewN | apply below_drew1 | refine below_set ?_ GE429.out) | exact HB.out)) hb); clear HO_6; clear HO464; clear BK429; clear HB; have HO_6 := n0_; have HO464 := n1_; have HO467 := n2_; have BK429 := n3_; have HB := n4_; clear n0_ n1_ n2_ n3_ n4_; (try clear hb); (try clear hb2); (try clear hk); (try clear hi); (try clear ho0); obtain ⟨Ao48, co48, eo48⟩ := Kd.S_slice HO464.out; subst eo48) | (go_at_call 30; (with_reducible refine (graph_Idom.calls k1 _ _ y462 t468 _ ?side1 ?side2 A41.out).mono ?_); (case side1 => repeat (first | exact (Kd.S_reads' HO464.out).2.2 | (with_reducible refine Kd.C_alloc ?_ _) | (with_reducible refine Kd.C_drewN ?_ _) | (with_reducible refine Kd.C_drew ?_))); (case side2 => exact (Kd.S_reads' HO464.out).2.1); rintro e w49 ⟨v469, rfl, ho0, hb⟩; have n0_ := Aside0.mk (Kd.S_elder' (by (with_reducible repeat (first | apply Kd.S_alloc | apply Kd.S_drewN | apply Kd.S_drew)); exact HO_6.out) (Kd.R_base ho0) hb); have n1_ := Aside0.mk (Kd.S_elder' (by (with_reducible repeat (first | apply Kd.S_alloc | apply Kd.S_drewN | apply Kd.S_drew)); exact HO464.out) (Kd.R_base ho0) hb); have n2_ := Aside0.mk (Kd.R_elder' (by (with_reducible repeat (first | apply Kd.R_alloc | apply Kd.R_drewN | apply Kd.R_drew)); exact HO467.out) (Kd.R_base ho0) hb); have n3_ := Aside0.mk (Kd.R_lower (Kd.R_new' ho0 (Kd.R_lt (by (with_reducible repeat (first | apply Kd.R_alloc | apply Kd.R_drewN | apply Kd.R_drew)); exact HO467.out))) (below_size (by repeat (first | (with_reducible first | exact HB.out | apply below_alloc | apply pw_below_drewN | apply below_drew1 | refine below_set ?_ GE429.out) | exact HB.out)))); have n4_ := Aside0.mk (blk_below (g := gb429) (o := .cells #[.int .i64 a1_0, .int .i64 a1_1] 73 (0, 0)) (by (with_reducible repeat (first | refine blk_drewN ?_ _ | refine blk_drew ?_ | refine blk_alloc ?_ _)); exact BK429.out) hb); have n5_ := Aside0.mk (below_step (by repeat (first | (with_reducible first | exact HB.out | apply below_alloc | apply pw_below_drewN | apply below_drew1 | refine below_set ?_ GE429.out) | exact HB.out)) hb); clear HO_6; clear HO464; clear HO467; clear BK429; clear HB; have HO_6 := n0_; have HO464 := n1_; have HO467 := n2_; have HO470 := n3_; have BK429 := n4_; have HB := n5_; clear n0_ n1_ n2_ n3_ n4_ n5_; (try clear hb); (try clear hb2); (try clear hk); (try clear hi); (try clear ho0))))
                    (try simp only [Act.put, List.setIfInBounds_toArray, List.set_cons_zero, List.set_cons_succ])
                    go_cut [116] (fun v116 wc => ∃ (kq : Nat) (x116_41 : Bool), v116 = .bool x116_41 ∧ Aside0 (jacquardlaw02_GraphPut.j2 kq t430 t431 (t431.length : Int) y462 t465 t468 x116_41 = some r) ∧ Aside0 (kq ≤ k1) ∧ Aside0 (Kd.S (Kd.slice 3 (Kd.int .i64)) 23 wc w.heap.size (fun k_ => some k_ ≠ ((.slice Ao48 y462.length co48) : Value).ownBlock ∧ some k_ ≠ (v466 : Value).ownBlock ∧ some k_ ≠ (v469 : Value).ownBlock) (.slice (some ad435) t431.length co21) t431) ∧ Aside0 (Kd.S (Kd.slice 3 (Kd.int .i64)) 23 wc w.heap.size (fun k_ => some k_ ≠ ((.slice (some ad435) t431.length co21) : Value).ownBlock ∧ some k_ ≠ (v466 : Value).ownBlock ∧ some k_ ≠ (v469 : Value).ownBlock) (.slice Ao48 y462.length co48) y462) ∧ Aside0 (Kd.R (Kd.int .i64) 3 wc w.heap.size (fun k_ => some k_ ≠ (v469 : Value).ownBlock) v466 t465) ∧ Aside0 (Kd.R (Kd.int .i64) 3 wc w.heap.size (fun k_ => some k_ ≠ (v466 : Value).ownBlock) v469 t468) ∧ Aside0 (wc.heap[gb429]? = some (.cells #[.int .i64 a1_0, .int .i64 a1_1] 73 (0, 0))) ∧ Aside0 (Below w.heap.size w wc))
                    case first =>
                      have H := HC42.out
                      clear HC42
                      by_cases c50 : (t468.length : Int) = (wrap64 ((t431.length : Int) + 1))
                      · rw [if_pos c50] at H
                        have c50b0 : ((t468.length : Int) == (wrap64 ((t431.length : Int) + 1))) = true := beq_iff_eq.mpr c50
                        have c50b1 : ((t468.length : Int) != (wrap64 ((t431.length : Int) + 1))) = false := bne_eq_false_iff_eq.mpr c50
                        clear c50
                        (first | rw [c50b0] | (simp only [i64_w, i32_w]; rw [c50b0]) | skip)
                        have H' := Aside0.mk H
                        clear H
                        obtain ⟨Ao51, co51, eo51⟩ := Kd.R_slice HO470.out
                        subst eo51
                        obtain ⟨Ao52, co52, eo52⟩ := Kd.R_slice HO467.out
                        subst eo52
                        go_wp2
                        repeat (go_quiet (fail); try go_wp2)
                        go_meet
                        case rel => exact ⟨_, (((t465.length : Int) != (t431.length : Int))), (by first | rfl | (simp; done) | (simp [*]; done)), H', ⟨by have := HK1.out; first | omega | exact Nat.le_refl _⟩, ⟨by (with_reducible repeat (first | apply Kd.S_alloc | apply Kd.S_drewN | apply Kd.S_drew)); exact Kd.S_mono HO_6.out (fun _ hk => ⟨hk.1.1.2, ⟨hk.1.2, hk.2⟩⟩)⟩, ⟨by (with_reducible repeat (first | apply Kd.S_alloc | apply Kd.S_drewN | apply Kd.S_drew)); exact Kd.S_mono HO464.out (fun _ hk => ⟨hk.1.1, ⟨hk.1.2, hk.2⟩⟩)⟩, ⟨by (with_reducible repeat (first | apply Kd.R_alloc | apply Kd.R_drewN | apply Kd.R_drew)); exact Kd.R_mono HO467.out (fun _ hk => hk.2)⟩, ⟨by (with_reducible repeat (first | apply Kd.R_alloc | apply Kd.R_drewN | apply Kd.R_drew)); exact Kd.R_mono HO470.out (fun _ hk => hk.2)⟩, ⟨by (with_reducible repeat (first | refine blk_drewN ?_ _ | refine blk_drew ?_ | refine blk_alloc ?_ _)); exact BK429.out⟩, ⟨by repeat (first | (with_reducible first | exact HB.out | apply below_alloc | apply pw_below_drewN | apply below_drew1 | refine below_set ?_ GE429.out) | exact HB.out)⟩⟩
                      · rw [if_neg c50] at H
                        have c50b0 : ((t468.length : Int) == (wrap64 ((t431.length : Int) + 1))) = false := beq_eq_false_iff_ne.mpr c50
                        have c50b1 : ((t468.length : Int) != (wrap64 ((t431.length : Int) + 1))) = true := bne_iff_ne.mpr c50
                        (first | rw [c50b0] | (simp only [i64_w, i32_w]; rw [c50b0]) | skip)
                        have H' := Aside0.mk H
                        clear H
                        obtain ⟨Ao53, co53, eo53⟩ := Kd.R_slice HO470.out
                        subst eo53
                        go_wp2
                        repeat (go_quiet (fail); try go_wp2)
                        go_meet
                        case rel => exact ⟨_, (true), (by first | rfl | (simp; done) | (simp [*]; done)), H', ⟨by have := HK1.out; first | omega | exact Nat.le_refl _⟩, ⟨by (with_reducible repeat (first | apply Kd.S_alloc | apply Kd.S_drewN | apply Kd.S_drew)); exact Kd.S_mono HO_6.out (fun _ hk => ⟨hk.1.1.2, ⟨hk.1.2, hk.2⟩⟩)⟩, ⟨by (with_reducible repeat (first | apply Kd.S_alloc | apply Kd.S_drewN | apply Kd.S_drew)); exact Kd.S_mono HO464.out (fun _ hk => ⟨hk.1.1, ⟨hk.1.2, hk.2⟩⟩)⟩, ⟨by (with_reducible repeat (first | apply Kd.R_alloc | apply Kd.R_drewN | apply Kd.R_drew)); exact Kd.R_mono HO467.out (fun _ hk => hk.2)⟩, ⟨by (with_reducible repeat (first | apply Kd.R_alloc | apply Kd.R_drewN | apply Kd.R_drew)); exact Kd.R_mono HO470.out (fun _ hk => hk.2)⟩, ⟨by (with_reducible repeat (first | refine blk_drewN ?_ _ | refine blk_drew ?_ | refine blk_alloc ?_ _)); exact BK429.out⟩, ⟨by repeat (first | (with_reducible first | exact HB.out | apply below_alloc | apply pw_below_drewN | apply below_drew1 | refine below_set ?_ GE429.out) | exact HB.out)⟩⟩
                    case rest =>
                      clear HC42; (try clear c1); (try clear c2); (try clear p2); (try clear c3); (try clear c4); (try clear p4); (try clear q4); (try clear hx4); (try clear c5); (try clear c6); (try clear c6b0); (try clear p6); (try clear c7); (try clear c7b0); (try clear c8); (try clear c8b0); (try clear c8b1); (try clear c8b2); (try clear c11); (try clear c15); (try clear c15b0); (try clear c16); (try clear c16b0); (try clear c22); (try clear c22b0); (try clear c23); (try clear c23b0); (try clear c24); (try clear c24b0); (try clear c25); (try clear c25b0); (try clear c26); (try clear c26b0); (try clear c26b1); (try clear c27); (try clear c27b0); (try clear c28); (try clear c28b0); (try clear c28b1); (try clear c29); (try clear c31); (try clear c33); (try clear c33b0); (try clear c34); (try clear c36); (try clear c39); (try clear c43); (try clear p43); (try clear q43); (try clear hx43); (try clear c44); (try clear p44); (try clear q44); (try clear hx44); (try clear c45); (try clear p45); (try clear q45); (try clear hx45); (try clear c50); (try clear c50b0); (try clear c50b1); (try clear hcz12_0); (try clear hcz12_1); (try clear hcz20_0); (try clear hcz20_1); (try clear hfz12_0); (try clear hfz12_1); (try clear hfz20_0); (try clear hfz20_1); (try clear hx435_0); (try clear hx436_0); (try clear hx437_0); (try clear hx439_0); (try clear hx440_0); (try clear hx441_0); (try clear hx442_0); (try clear hx446_0); (try clear hx447_0); (try clear hx451_0); (try clear hx452_0); (try clear p2); (try clear p4); (try clear p435); (try clear p436); (try clear p437); (try clear p439); (try clear p440); (try clear p441); (try clear p442); (try clear p446); (try clear p447); (try clear p451); (try clear p452); (try clear q4); (try clear q435); (try clear q436); (try clear q437); (try clear q439); (try clear q440); (try clear q441); (try clear q442); (try clear q446); (try clear q447); (try clear q451); (try clear q452)
                      obtain ⟨kq, x116_41, rfl, HA, HJ41, HO_6, HO_10, HO_14, HO_15, BK429, HB⟩ := hcut
                      cases kq with
                      | zero => exact absurd HA.out (by simp [jacquardlaw02_GraphPut.j2])
                      | succ kj41 =>
                        have H := HA.out
                        clear HA
                        simp only [jacquardlaw02_GraphPut.j2] at H
                        by_cases c54 : x116_41 = true
                        · subst c54
                          have H1 : (some false) = some r := by rw [if_pos rfl] at H; exact H
                          clear H
                          have H := H1
                          clear H1
                          obtain rfl := Option.some.inj H
                          go_wp2
                          repeat (go_quiet (fail); try go_wp2)
                          go_ret
                          exact ⟨by first | rfl | (simp [errW_none, errW_some] <;> rfl) | (simp [*, errW_none, errW_some] <;> rfl), by repeat (first | (with_reducible first | exact HB.out | apply below_alloc | apply pw_below_drewN | apply below_drew1 | refine below_set ?_ GE429.out) | exact HB.out)⟩
                        · replace c54 := Bool.eq_false_iff.mpr c54
                          subst c54
                          have H1 : (jacquardlaw02_GraphPut.l2 kj41 t430 t431 (t431.length : Int) y462 t465 t468 0) = some r := by rw [if_neg (show ¬ (false = true) by decide)] at H; exact H
                          clear H
                          have H := H1
                          clear H1
                          have H' := Aside0.mk H
                          clear H
                          go_wp2
                          repeat (go_quiet (fail); try go_wp2)
                          go_loopg [16] kj41 (fun kq v16 w' => ∃ (x16_3 : Int), v16 = .int .i64 x16_3 ∧ Aside0 (jacquardlaw02_GraphPut.l2 kq t430 t431 (t431.length : Int) y462 t465 t468 x16_3 = some r) ∧ Aside0 (kq ≤ kj41) ∧ Aside0 (Kd.S (Kd.slice 3 (Kd.int .i64)) 23 w' w.heap.size (fun k_ => some k_ ≠ ((.slice Ao48 y462.length co48) : Value).ownBlock ∧ some k_ ≠ (v466 : Value).ownBlock ∧ some k_ ≠ (v469 : Value).ownBlock) (.slice (some ad435) t431.length co21) t431) ∧ Aside0 (Kd.S (Kd.slice 3 (Kd.int .i64)) 23 w' w.heap.size (fun k_ => some k_ ≠ ((.slice (some ad435) t431.length co21) : Value).ownBlock ∧ some k_ ≠ (v466 : Value).ownBlock ∧ some k_ ≠ (v469 : Value).ownBlock) (.slice Ao48 y462.length co48) y462) ∧ Aside0 (Kd.R (Kd.int .i64) 3 w' w.heap.size (fun k_ => some k_ ≠ (v469 : Value).ownBlock) v466 t465) ∧ Aside0 (Kd.R (Kd.int .i64) 3 w' w.heap.size (fun k_ => some k_ ≠ (v466 : Value).ownBlock) v469 t468) ∧ Aside0 (w'.heap[gb429]? = some (.cells #[.int .i64 a1_0, .int .i64 a1_1] 73 (0, 0))) ∧ Aside0 (Below w.heap.size w w'))
                          case atStart => exact ⟨(0), (by first | rfl | (simp; done) | (simp [*]; done)), H', ⟨Nat.le_refl _⟩, ⟨by (with_reducible repeat (first | apply Kd.S_alloc | apply Kd.S_drewN | apply Kd.S_drew)); exact HO_6.out⟩, ⟨by (with_reducible repeat (first | apply Kd.S_alloc | apply Kd.S_drewN | apply Kd.S_drew)); exact HO_10.out⟩, ⟨by (with_reducible repeat (first | apply Kd.R_alloc | apply Kd.R_drewN | apply Kd.R_drew)); exact HO_14.out⟩, ⟨by (with_reducible repeat (first | apply Kd.R_alloc | apply Kd.R_drewN | apply Kd.R_drew)); exact HO_15.out⟩, ⟨by (with_reducible repeat (first | refine blk_drewN ?_ _ | refine blk_drew ?_ | refine blk_alloc ?_ _)); exact BK429.out⟩, ⟨by repeat (first | (with_reducible first | exact HB.out | apply below_alloc | apply pw_below_drewN | apply below_drew1 | refine below_set ?_ GE429.out) | exact HB.out)⟩⟩
                          case round =>
                            clear H'; (try clear c1); (try clear c2); (try clear p2); (try clear c3); (try clear c4); (try clear p4); (try clear q4); (try clear hx4); (try clear c5); (try clear c6); (try clear c6b0); (try clear p6); (try clear c7); (try clear c7b0); (try clear c8); (try clear c8b0); (try clear c8b1); (try clear c8b2); (try clear c11); (try clear c15); (try clear c15b0); (try clear c16); (try clear c16b0); (try clear c22); (try clear c22b0); (try clear c23); (try clear c23b0); (try clear c24); (try clear c24b0); (try clear c25); (try clear c25b0); (try clear c26); (try clear c26b0); (try clear c26b1); (try clear c27); (try clear c27b0); (try clear c28); (try clear c28b0); (try clear c28b1); (try clear c29); (try clear c31); (try clear c33); (try clear c33b0); (try clear c34); (try clear c36); (try clear c39); (try clear c43); (try clear p43); (try clear q43); (try clear hx43); (try clear c44); (try clear p44); (try clear q44); (try clear hx44); (try clear c45); (try clear p45); (try clear q45); (try clear hx45); (try clear c50); (try clear c50b0); (try clear c50b1); (try clear c54); (try clear hcz12_0); (try clear hcz12_1); (try clear hcz20_0); (try clear hcz20_1); (try clear hfz12_0); (try clear hfz12_1); (try clear hfz20_0); (try clear hfz20_1); (try clear hx435_0); (try clear hx436_0); (try clear hx437_0); (try clear hx439_0); (try clear hx440_0); (try clear hx441_0); (try clear hx442_0); (try clear hx446_0); (try clear hx447_0); (try clear hx451_0); (try clear hx452_0); (try clear p2); (try clear p4); (try clear p43); (try clear p435); (try clear p436); (try clear p437); (try clear p439); (try clear p44); (try clear p440); (try clear p441); (try clear p442); (try clear p446); (try clear p447); (try clear p45); (try clear p451); (try clear p452); (try clear p6); (try clear q4); (try clear q43); (try clear q435); (try clear q436); (try clear q437); (try clear q439); (try clear q44); (try clear q440); (try clear q441); (try clear q442); (try clear q446); (try clear q447); (try clear q45)
                            (try clear q451); (try clear q452)
                            obtain ⟨x16_3, rfl, HA, HK3, HO_6, HO_10, HO_14, HO_15, BK429, HB⟩ := hrel
                            cases gk with
                            | zero => exact absurd HA.out (by simp [jacquardlaw02_GraphPut.l2])
                            | succ k3 =>
                              have H := HA.out
                              clear HA
                              simp only [jacquardlaw02_GraphPut.l2] at H
                              by_cases c55 : x16_3 < (t431.length : Int)
                              · rw [if_pos c55] at H
                                have c55b0 : decide (x16_3 < (t431.length : Int)) = true := decide_eq_true c55
                                clear c55
                                have H' := Aside0.mk H
                                clear H
                                go_wp2
                                repeat (go_quiet (fail); try go_wp2)
                                go_loopg [17] k3 (fun kq v17 w' => ∃ (x17_4 : Int), v17 = .int .i64 x17_4 ∧ Aside0 (jacquardlaw02_GraphPut.l3 kq t430 t431 (t431.length : Int) y462 t465 t468 x16_3 x17_4 = some r) ∧ Aside0 (kq ≤ k3) ∧ Aside0 (Kd.S (Kd.slice 3 (Kd.int .i64)) 23 w' w.heap.size (fun k_ => some k_ ≠ ((.slice Ao48 y462.length co48) : Value).ownBlock ∧ some k_ ≠ (v466 : Value).ownBlock ∧ some k_ ≠ (v469 : Value).ownBlock) (.slice (some ad435) t431.length co21) t431) ∧ Aside0 (Kd.S (Kd.slice 3 (Kd.int .i64)) 23 w' w.heap.size (fun k_ => some k_ ≠ ((.slice (some ad435) t431.length co21) : Value).ownBlock ∧ some k_ ≠ (v466 : Value).ownBlock ∧ some k_ ≠ (v469 : Value).ownBlock) (.slice Ao48 y462.length co48) y462) ∧ Aside0 (Kd.R (Kd.int .i64) 3 w' w.heap.size (fun k_ => some k_ ≠ (v469 : Value).ownBlock) v466 t465) ∧ Aside0 (Kd.R (Kd.int .i64) 3 w' w.heap.size (fun k_ => some k_ ≠ (v466 : Value).ownBlock) v469 t468) ∧ Aside0 (w'.heap[gb429]? = some (.cells #[.int .i64 a1_0, .int .i64 a1_1] 73 (0, 0))) ∧ Aside0 (Below w.heap.size w w'))
                                case atStart => exact ⟨(0), (by first | rfl | (simp; done) | (simp [*]; done)), H', ⟨Nat.le_refl _⟩, ⟨by (with_reducible repeat (first | apply Kd.S_alloc | apply Kd.S_drewN | apply Kd.S_drew)); exact HO_6.out⟩, ⟨by (with_reducible repeat (first | apply Kd.S_alloc | apply Kd.S_drewN | apply Kd.S_drew)); exact HO_10.out⟩, ⟨by (with_reducible repeat (first | apply Kd.R_alloc | apply Kd.R_drewN | apply Kd.R_drew)); exact HO_14.out⟩, ⟨by (with_reducible repeat (first | apply Kd.R_alloc | apply Kd.R_drewN | apply Kd.R_drew)); exact HO_15.out⟩, ⟨by (with_reducible repeat (first | refine blk_drewN ?_ _ | refine blk_drew ?_ | refine blk_alloc ?_ _)); exact BK429.out⟩, ⟨by repeat (first | (with_reducible first | exact HB.out | apply below_alloc | apply pw_below_drewN | apply below_drew1 | refine below_set ?_ GE429.out) | exact HB.out)⟩⟩
                                case round =>
                                  clear H'; (try clear c1); (try clear c2); (try clear p2); (try clear c3); (try clear c4); (try clear p4); (try clear q4); (try clear hx4); (try clear c5); (try clear c6); (try clear c6b0); (try clear p6); (try clear c7); (try clear c7b0); (try clear c8); (try clear c8b0); (try clear c8b1); (try clear c8b2); (try clear c11); (try clear c15); (try clear c15b0); (try clear c16); (try clear c16b0); (try clear c22); (try clear c22b0); (try clear c23); (try clear c23b0); (try clear c24); (try clear c24b0); (try clear c25); (try clear c25b0); (try clear c26); (try clear c26b0); (try clear c26b1); (try clear c27); (try clear c27b0); (try clear c28); (try clear c28b0); (try clear c28b1); (try clear c29); (try clear c31); (try clear c33); (try clear c33b0); (try clear c34); (try clear c36); (try clear c39); (try clear c43); (try clear p43); (try clear q43); (try clear hx43); (try clear c44); (try clear p44); (try clear q44); (try clear hx44); (try clear c45); (try clear p45); (try clear q45); (try clear hx45); (try clear c50); (try clear c50b0); (try clear c50b1); (try clear c54); (try clear c55); (try clear c55b0); (try clear hcz12_0); (try clear hcz12_1); (try clear hcz20_0); (try clear hcz20_1); (try clear hfz12_0); (try clear hfz12_1); (try clear hfz20_0); (try clear hfz20_1); (try clear hx435_0); (try clear hx436_0); (try clear hx437_0); (try clear hx439_0); (try clear hx440_0); (try clear hx441_0); (try clear hx442_0); (try clear hx446_0); (try clear hx447_0); (try clear hx451_0); (try clear hx452_0); (try clear p2); (try clear p4); (try clear p43); (try clear p435); (try clear p436); (try clear p437); (try clear p439); (try clear p44); (try clear p440); (try clear p441); (try clear p442); (try clear p446); (try clear p447); (try clear p45); (try clear p451); (try clear p452); (try clear p6); (try clear q4); (try clear q43); (try clear q435); (try clear q436); (try clear q437); (try clear q439); (try clear q44); (try clear q440); (try clear q441); (try clear q442); (try clear q446)
                                  (try clear q447); (try clear q45); (try clear q451); (try clear q452)
                                  obtain ⟨x17_4, rfl, HA, HK4, HO_6, HO_10, HO_14, HO_15, BK429, HB⟩ := hrel
                                  cases gk with
                                  | zero => exact absurd HA.out (by simp [jacquardlaw02_GraphPut.l3])
                                  | succ k4 =>
                                    have H := HA.out
                                    clear HA
                                    simp only [jacquardlaw02_GraphPut.l3] at H
                                    by_cases c56 : x17_4 < (t431.length : Int)
                                    · rw [if_pos c56] at H
                                      have c56b0 : decide (x17_4 < (t431.length : Int)) = true := decide_eq_true c56
                                      clear c56
                                      replace H := Option.bind_eq_some_iff.mp H
                                      obtain ⟨t471, A570, H⟩ := H
                                      replace H : ((graph_Dominates.f t468 x16_3 x17_4).bind fun t472 => (if (t471 != t472) = true then (some false) else (jacquardlaw02_GraphPut.l3 k4 t430 t431 (t431.length : Int) y462 t465 t468 x16_3 (wrap64 (x17_4 + 1))))) = some r := H
                                      have A57 := Aside0.mk A570
                                      clear A570
                                      replace H := Option.bind_eq_some_iff.mp H
                                      obtain ⟨t472, A580, H⟩ := H
                                      replace H : (if (t471 != t472) = true then (some false) else (jacquardlaw02_GraphPut.l3 k4 t430 t431 (t431.length : Int) y462 t465 t468 x16_3 (wrap64 (x17_4 + 1)))) = some r := H
                                      have A58 := Aside0.mk A580
                                      clear A580
                                      by_cases c59 : (t471 != t472) = true
                                      · rw [if_pos c59] at H
                                        have c59b0 : (t471 != t472) = true := c59
                                        (try (have c59b1 : decide (t471 = t472) = false := by simpa using c59))
                                        (try (have c59b2 : (t471 == t472) = false := by simpa using c59))
                                        (try (have c59b3 : ¬ (t471 = t472) := by simpa using c59))
                                        clear c59
                                        obtain rfl := Option.some.inj H
                                        obtain ⟨Ao60, co60, eo60⟩ := Kd.R_slice HO_14.out
                                        subst eo60
                                        go_wp2_with (first | (go_at_call 32; (with_reducible refine (graph_Dominates.calls _ _ t465 x16_3 x17_4 t471 _ ?side1 ?side2 A57.out).mono ?_); (case side1 => repeat (first | exact (Kd.R_reads' HO_14.out).2.2 | (with_reducible refine Kd.C_alloc ?_ _) | (with_reducible refine Kd.C_drewN ?_ _) | (with_reducible refine Kd.C_drew ?_))); (case side2 => exact (Kd.R_reads' HO_14.out).2.1); rintro e w61 ⟨rfl, hb⟩; have n0_ := Aside0.mk (Kd.S_below (by (with_reducible repeat (first | apply Kd.S_alloc | apply Kd.S_drewN | apply Kd.S_drew)); exact HO_6.out) hb); have n1_ := Aside0.mk (Kd.S_below (by (with_reducible repeat (first | apply Kd.S_alloc | apply Kd.S_drewN | apply Kd.S_drew)); exact HO_10.out) hb); have n2_ := Aside0.mk (Kd.R_below (by (with_reducible repeat (first | apply Kd.R_alloc | apply Kd.R_drewN | apply Kd.R_drew)); exact HO_14.out) hb); have n3_ := Aside0.mk (Kd.R_below (by (with_reducible repeat (first | apply Kd.R_alloc | apply Kd.R_drewN | apply Kd.R_drew)); exact HO_15.out) hb); have n4_ := Aside0.mk (blk_below (g := gb429) (o := .cells #[.int .i64 a1_0, .int .i64 a1_1] 73 (0, 0)) (by (with_reducible repeat (first | refine blk_drewN ?_ _ | refine blk_drew ?_ | refine blk_alloc ?_ _)); exact BK429.out) hb); have n5_ := Aside0.mk (below_step (by repeat (first | (with_reducible first | exact HB.out | apply below_alloc | apply pw_below_drewN | apply below_drew1 | refine below_set ?_ GE429.out) | exact HB.out)) hb); clear HO_6; clear HO_10; clear HO_14; clear HO_15; clear BK429; clear HB; have HO_6 := n0_; have HO_10 := n1_; have HO_14 := n2_; have HO_15 := n3_; have BK429 := n4_; have HB := n5_; clear n0_ n1_ n2_ n3_ n4_ n5_; (try clear hb); (try clear hb2); (try clear hk); (try clear hi); obtain ⟨Ao62, co62, eo62⟩ := Kd.R_slice HO_15.out; subst eo62) | (go_at_call 32; (with_reducible refine (graph_Dominates.calls _ _ t468 x16_3 x17_4 t472 _ ?side1 ?side2 A58.out).mono ?_); (case side1 => repeat (first | exact (Kd.R_reads' HO_15.out).2.2 | (with_reducible refine Kd.C_alloc ?_ _) | (with_reducible refine Kd.C_drewN ?_ _) | (with_reducible refine Kd.C_drew ?_))); (case side2 => exact (Kd.R_reads' HO_15.out).2.1); rintro e w63 ⟨rfl, hb⟩; have n0_ := Aside0.mk (Kd.S_below (by (with_reducible repeat (first | apply Kd.S_alloc | apply Kd.S_drewN | apply Kd.S_drew)); exact HO_6.out) hb); have n1_ := Aside0.mk (Kd.S_below (by (with_reducible repeat (first | apply Kd.S_alloc | apply Kd.S_drewN | apply Kd.S_drew)); exact HO_10.out) hb); have n2_ := Aside0.mk (Kd.R_below (by (with_reducible repeat (first | apply Kd.R_alloc | apply Kd.R_drewN | apply Kd.R_drew)); exact HO_14.out) hb); have n3_ := Aside0.mk (Kd.R_below (by (with_reducible repeat (first | apply Kd.R_alloc | apply Kd.R_drewN | apply Kd.R_drew)); exact HO_15.out) hb); have n4_ := Aside0.mk (blk_below (g := gb429) (o := .cells #[.int .i64 a1_0, .int .i64 a1_1] 73 (0, 0)) (by (with_reducible repeat (first | refine blk_drewN ?_ _ | refine blk_drew ?_ | refine blk_alloc ?_ _)); exact BK429.out) hb); have n5_ := Aside0.mk (below_step (by repeat (first | (with_reducible first | exact HB.out | apply below_alloc | apply pw_below_drewN | apply below_drew1 | refine below_set ?_ GE429.out) | exact HB.out)) hb); clear HO_6; clear HO_10; clear HO_14; clear HO_15; clear BK429; clear HB; have HO_6 := n0_; have HO_10 := n1_; have HO_14 := n2_; have HO_15 := n3_; have BK429 := n4_; have HB := n5_; clear n0_ n1_ n2_ n3_ n4_ n5_; (try clear hb); (try clear hb2); (try clear hk); (try clear hi)))
                                        repeat (go_quiet (first | (go_at_call 32; (with_reducible refine (graph_Dominates.calls _ _ t465 x16_3 x17_4 t471 _ ?side1 ?side2 A57.out).mono ?_); (case side1 => repeat (first | exact (Kd.R_reads' HO_14.out).2.2 | (with_reducible refine Kd.C_alloc ?_ _) | (with_reducible refine Kd.C_drewN ?_ _) | (with_reducible refine Kd.C_drew ?_))); (case side2 => exact (Kd.R_reads' HO_14.out).2.1); rintro e w61 ⟨rfl, hb⟩; have n0_ := Aside0.mk (Kd.S_below (by (with_reducible repeat (first | apply Kd.S_alloc | apply Kd.S_drewN | apply Kd.S_drew)); exact HO_6.out) hb); have n1_ := Aside0.mk (Kd.S_below (by (with_reducible repeat (first | apply Kd.S_alloc | apply Kd.S_drewN | apply Kd.S_drew)); exact HO_10.out) hb); have n2_ := Aside0.mk (Kd.R_below (by (with_reducible repeat (first | apply Kd.R_alloc | apply Kd.R_drewN | apply Kd.R_drew)); exact HO_14.out) hb); have n3_ := Aside0.mk (Kd.R_below (by (with_reducible repeat (first | apply Kd.R_alloc | apply Kd.R_drewN | apply Kd.R_drew)); exact HO_15.out) hb); have n4_ := Aside0.mk (blk_below (g := gb429) (o := .cells #[.int .i64 a1_0, .int .i64 a1_1] 73 (0, 0)) (by (with_reducible repeat (first | refine blk_drewN ?_ _ | refine blk_drew ?_ | refine blk_alloc ?_ _)); exact BK429.out) hb); have n5_ := Aside0.mk (below_step (by repeat (first | (with_reducible first | exact HB.out | apply below_alloc | apply pw_below_drewN | apply below_drew1 | refine below_set ?_ GE429.out) | exact HB.out)) hb); clear HO_6; clear HO_10; clear HO_14; clear HO_15; clear BK429; clear HB; have HO_6 := n0_; have HO_10 := n1_; have HO_14 := n2_; have HO_15 := n3_; have BK429 := n4_; have HB := n5_; clear n0_ n1_ n2_ n3_ n4_ n5_; (try clear hb); (try clear hb2); (try clear hk); (try clear hi); obtain ⟨Ao62, co62, eo62⟩ := Kd.R_slice HO_15.out; subst eo62) | (go_at_call 32; (with_reducible refine (graph_Dominates.calls _ _ t468 x16_3 x17_4 t472 _ ?side1 ?side2 A58.out).mono ?_); (case side1 => repeat (first | exact (Kd.R_reads' HO_15.out).2.2 | (with_reducible refine Kd.C_alloc ?_ _) | (with_reducible refine Kd.C_drewN ?_ _) | (with_reducible refine Kd.C_drew ?_))); (case side2 => exact (Kd.R_reads' HO_15.out).2.1); rintro e w63 ⟨rfl, hb⟩; have n0_ := Aside0.mk (Kd.S_below (by (with_reducible repeat (first | apply Kd.S_alloc | apply Kd.S_drewN | apply Kd.S_drew)); exact HO_6.out) hb); have n1_ := Aside0.mk (Kd.S_below (by (with_reducible repeat (first | apply Kd.S_alloc | apply Kd.S_drewN | apply Kd.S_drew)); exact HO_10.out) hb); have n2_ := Aside0.mk (Kd.R_below (by (with_reducible repeat (first | apply Kd.R_alloc | apply Kd.R_drewN | apply Kd.R_drew)); exact HO_14.out) hb); have n3_ := Aside0.mk (Kd.R_below (by (with_reducible repeat (first | apply Kd.R_alloc | apply Kd.R_drewN | apply Kd.R_drew)); exact HO_15.out) hb); have n4_ := Aside0.mk (blk_below (g := gb429) (o := .cells #[.int .i64 a1_0, .int .i64 a1_1] 73 (0, 0)) (by (with_reducible repeat (first | refine blk_drewN ?_ _ | refine blk_drew ?_ | refine blk_alloc ?_ _)); exact BK429.out) hb); have n5_ := Aside0.mk (below_step (by repeat (first | (with_reducible first | exact HB.out | apply below_alloc | apply pw_below_drewN | apply below_drew1 | refine below_set ?_ GE429.out) | exact HB.out)) hb); clear HO_6; clear HO_10; clear HO_14; clear HO_15; clear BK429; clear HB; have HO_6 := n0_; have HO_10 := n1_; have HO_14 := n2_; have HO_15 := n3_; have BK429 := n4_; have HB := n5_; clear n0_ n1_ n2_ n3_ n4_ n5_; (try clear hb); (try clear hb2); (try clear hk); (try clear hi))); try go_wp2_with (first | (go_at_call 32; (with_reducible refine (graph_Dominates.calls _ _ t465 x16_3 x17_4 t471 _ ?side1 ?side2 A57.out).mono ?_); (case side1 => repeat (first | exact (Kd.R_reads' HO_14.out).2.2 | (with_reducible refine Kd.C_alloc ?_ _) | (with_reducible refine Kd.C_drewN ?_ _) | (with_reducible refine Kd.C_drew ?_))); (case side2 => exact (Kd.R_reads' HO_14.out).2.1); rintro e w61 ⟨rfl, hb⟩; have n0_ := Aside0.mk (Kd.S_below (by (with_reducible repeat (first | apply Kd.S_alloc | apply Kd.S_drewN | apply Kd.S_drew)); exact HO_6.out) hb); have n1_ := Aside0.mk (Kd.S_below (by (with_reducible repeat (first | apply Kd.S_alloc | apply Kd.S_drewN | apply Kd.S_drew)); exact HO_10.out) hb); have n2_ := Aside0.mk (Kd.R_below (by (with_reducible repeat (first | apply Kd.R_alloc | apply Kd.R_drewN | apply Kd.R_drew)); exact HO_14.out) hb); have n3_ := Aside0.mk (Kd.R_below (by (with_reducible repeat (first | apply Kd.R_alloc | apply Kd.R_drewN | apply Kd.R_drew)); exact HO_15.out) hb); have n4_ := Aside0.mk (blk_below (g := gb429) (o := .cells #[.int .i64 a1_0, .int .i64 a1_1] 73 (0, 0)) (by (with_reducible repeat (first | refine blk_drewN ?_ _ | refine blk_drew ?_ | refine blk_alloc ?_ _)); exact BK429.out) hb); have n5_ := Aside0.mk (below_step (by repeat (first | (with_reducible first | exact HB.out | apply below_alloc | apply pw_below_drewN | apply below_drew1 | refine below_set ?_ GE429.out) | exact HB.out)) hb); clear HO_6; clear HO_10; clear HO_14; clear HO_15; clear BK429; clear HB; have HO_6 := n0_; have HO_10 := n1_; have HO_14 := n2_; have HO_15 := n3_; have BK429 := n4_; have HB := n5_; clear n0_ n1_ n2_ n3_ n4_ n5_; (try clear hb); (try clear hb2); (try clear hk); (try clear hi); obtain ⟨Ao62, co62, eo62⟩ := Kd.R_slice HO_15.out; subst eo62) | (go_at_call 32; (with_reducible refine (graph_Dominates.calls _ _ t468 x16_3 x17_4 t472 _ ?side1 ?side2 A58.out).mono ?_); (case side1 => repeat (first | exact (Kd.R_reads' HO_15.out).2.2 | (with_reducible refine Kd.C_alloc ?_ _) | (with_reducible refine Kd.C_drewN ?_ _) | (with_reducible refine Kd.C_drew ?_))); (case side2 => exact (Kd.R_reads' HO_15.out).2.1); rintro e w63 ⟨rfl, hb⟩; have n0_ := Aside0.mk (Kd.S_below (by (with_reducible repeat (first | apply Kd.S_alloc | apply Kd.S_drewN | apply Kd.S_drew)); exact HO_6.out) hb); have n1_ := Aside0.mk (Kd.S_below (by (with_reducible repeat (first | apply Kd.S_alloc | apply Kd.S_drewN | apply Kd.S_drew)); exact HO_10.out) hb); have n2_ := Aside0.mk (Kd.R_below (by (with_reducible repeat (first | apply Kd.R_alloc | apply Kd.R_drewN | apply Kd.R_drew)); exact HO_14.out) hb); have n3_ := Aside0.mk (Kd.R_below (by (with_reducible repeat (first | apply Kd.R_alloc | apply Kd.R_drewN | apply Kd.R_drew)); exact HO_15.out) hb); have n4_ := Aside0.mk (blk_below (g := gb429) (o := .cells #[.int .i64 a1_0, .int .i64 a1_1] 73 (0, 0)) (by (with_reducible repeat (first | refine blk_drewN ?_ _ | refine blk_drew ?_ | refine blk_alloc ?_ _)); exact BK429.out) hb); have n5_ := Aside0.mk (below_step (by repeat (first | (with_reducible first | exact HB.out | apply below_alloc | apply pw_below_drewN | apply below_drew1 | refine below_set ?_ GE429.out) | exact HB.out)) hb); clear HO_6; clear HO_10; clear HO_14; clear HO_15; clear BK429; clear HB; have HO_6 := n0_; have HO_10 := n1_; have HO_14 := n2_; have HO_15 := n3_; have BK429 := n4_; have HB := n5_; clear n0_ n1_ n2_ n3_ n4_ n5_; (try clear hb); (try clear hb2); (try clear hk); (try clear hi))))
                                        go_ret
                                        exact ⟨by first | rfl | (simp [errW_none, errW_some] <;> rfl) | (simp [*, errW_none, errW_some] <;> rfl), by repeat (first | (with_reducible first | exact HB.out | apply below_alloc | apply pw_below_drewN | apply below_drew1 | refine below_set ?_ GE429.out) | exact HB.out)⟩
                                      · rw [if_neg c59] at H
                                        have c59b0 : (t471 != t472) = false := by simpa using c59
                                        (try (have c59b1 : decide (t471 = t472) = true := by simpa using c59))
                                        (try (have c59b2 : (t471 == t472) = true := by simpa using c59))
                                        clear c59
                                        have H' := Aside0.mk H
                                        clear H
                                        obtain ⟨Ao64, co64, eo64⟩ := Kd.R_slice HO_14.out
                                        subst eo64
                                        go_wp2_with (first | (go_at_call 32; (with_reducible refine (graph_Dominates.calls _ _ t465 x16_3 x17_4 t471 _ ?side1 ?side2 A57.out).mono ?_); (case side1 => repeat (first | exact (Kd.R_reads' HO_14.out).2.2 | (with_reducible refine Kd.C_alloc ?_ _) | (with_reducible refine Kd.C_drewN ?_ _) | (with_reducible refine Kd.C_drew ?_))); (case side2 => exact (Kd.R_reads' HO_14.out).2.1); rintro e w65 ⟨rfl, hb⟩; have n0_ := Aside0.mk (Kd.S_below (by (with_reducible repeat (first | apply Kd.S_alloc | apply Kd.S_drewN | apply Kd.S_drew)); exact HO_6.out) hb); have n1_ := Aside0.mk (Kd.S_below (by (with_reducible repeat (first | apply Kd.S_alloc | apply Kd.S_drewN | apply Kd.S_drew)); exact HO_10.out) hb); have n2_ := Aside0.mk (Kd.R_below (by (with_reducible repeat (first | apply Kd.R_alloc | apply Kd.R_drewN | apply Kd.R_drew)); exact HO_14.out) hb); have n3_ := Aside0.mk (Kd.R_below (by (with_reducible repeat (first | apply Kd.R_alloc | apply Kd.R_drewN | apply Kd.R_drew)); exact HO_15.out) hb); have n4_ := Aside0.mk (blk_below (g := gb429) (o := .cells #[.int .i64 a1_0, .int .i64 a1_1] 73 (0, 0)) (by (with_reducible repeat (first | refine blk_drewN ?_ _ | refine blk_drew ?_ | refine blk_alloc ?_ _)); exact BK429.out) hb); have n5_ := Aside0.mk (below_step (by repeat (first | (with_reducible first | exact HB.out | apply below_alloc | apply pw_below_drewN | apply below_drew1 | refine below_set ?_ GE429.out) | exact HB.out)) hb); clear HO_6; clear HO_10; clear HO_14; clear HO_15; clear BK429; clear HB; have HO_6 := n0_; have HO_10 := n1_; have HO_14 := n2_; have HO_15 := n3_; have BK429 := n4_; have HB := n5_; clear n0_ n1_ n2_ n3_ n4_ n5_; (try clear hb); (try clear hb2); (try clear hk); (try clear hi); obtain ⟨Ao66, co66, eo66⟩ := Kd.R_slice HO_15.out; subst eo66) | (go_at_call 32; (with_reducible refine (graph_Dominates.calls _ _ t468 x16_3 x17_4 t472 _ ?side1 ?side2 A58.out).mono ?_); (case side1 => repeat (first | exact (Kd.R_reads' HO_15.out).2.2 | (with_reducible refine Kd.C_alloc ?_ _) | (with_reducible refine Kd.C_drewN ?_ _) | (with_reducible refine Kd.C_drew ?_))); (case side2 => exact (Kd.R_reads' HO_15.out).2.1); rintro e w67 ⟨rfl, hb⟩; have n0_ := Aside0.mk (Kd.S_below (by (with_reducible repeat (first | apply Kd.S_alloc | apply Kd.S_drewN | apply Kd.S_drew)); exact HO_6.out) hb); have n1_ := Aside0.mk (Kd.S_below (by (with_reducible repeat (first | apply Kd.S_alloc | apply Kd.S_drewN | apply Kd.S_drew)); exact HO_10.out) hb); have n2_ := Aside0.mk (Kd.R_below (by (with_reducible repeat (first | apply Kd.R_alloc | apply Kd.R_drewN | apply Kd.R_drew)); exact HO_14.out) hb); have n3_ := Aside0.mk (Kd.R_below (by (with_reducible repeat (first | apply Kd.R_alloc | apply Kd.R_drewN | apply Kd.R_drew)); exact HO_15.out) hb); have n4_ := Aside0.mk (blk_below (g := gb429) (o := .cells #[.int .i64 a1_0, .int .i64 a1_1] 73 (0, 0)) (by (with_reducible repeat (first | refine blk_drewN ?_ _ | refine blk_drew ?_ | refine blk_alloc ?_ _)); exact BK429.out) hb); have n5_ := Aside0.mk (below_step (by repeat (first | (with_reducible first | exact HB.out | apply below_alloc | apply pw_below_drewN | apply below_drew1 | refine below_set ?_ GE429.out) | exact HB.out)) hb); clear HO_6; clear HO_10; clear HO_14; clear HO_15; clear BK429; clear HB; have HO_6 := n0_; have HO_10 := n1_; have HO_14 := n2_; have HO_15 := n3_; have BK429 := n4_; have HB := n5_; clear n0_ n1_ n2_ n3_ n4_ n5_; (try clear hb); (try clear hb2); (try clear hk); (try clear hi)))
                                        repeat (go_quiet (first | (go_at_call 32; (with_reducible refine (graph_Dominates.calls _ _ t465 x16_3 x17_4 t471 _ ?side1 ?side2 A57.out).mono ?_); (case side1 => repeat (first | exact (Kd.R_reads' HO_14.out).2.2 | (with_reducible refine Kd.C_alloc ?_ _) | (with_reducible refine Kd.C_drewN ?_ _) | (with_reducible refine Kd.C_drew ?_))); (case side2 => exact (Kd.R_reads' HO_14.out).2.1); rintro e w65 ⟨rfl, hb⟩; have n0_ := Aside0.mk (Kd.S_below (by (with_reducible repeat (first | apply Kd.S_alloc | apply Kd.S_drewN | apply Kd.S_drew)); exact HO_6.out) hb); have n1_ := Aside0.mk (Kd.S_below (by (with_reducible repeat (first | apply Kd.S_alloc | apply Kd.S_drewN | apply Kd.S_drew)); exact HO_10.out) hb); have n2_ := Aside0.mk (Kd.R_below (by (with_reducible repeat (first | apply Kd.R_alloc | apply Kd.R_drewN | apply Kd.R_drew)); exact HO_14.out) hb); have n3_ := Aside0.mk (Kd.R_below (by (with_reducible repeat (first | apply Kd.R_alloc | apply Kd.R_drewN | apply Kd.R_drew)); exact HO_15.out) hb); have n4_ := Aside0.mk (blk_below (g := gb429) (o := .cells #[.int .i64 a1_0, .int .i64 a1_1] 73 (0, 0)) (by (with_reducible repeat (first | refine blk_drewN ?_ _ | refine blk_drew ?_ | refine blk_alloc ?_ _)); exact BK429.out) hb); have n5_ := Aside0.mk (below_step (by repeat (first | (with_reducible first | exact HB.out | apply below_alloc | apply pw_below_drewN | apply below_drew1 | refine below_set ?_ GE429.out) | exact HB.out)) hb); clear HO_6; clear HO_10; clear HO_14; clear HO_15; clear BK429; clear HB; have HO_6 := n0_; have HO_10 := n1_; have HO_14 := n2_; have HO_15 := n3_; have BK429 := n4_; have HB := n5_; clear n0_ n1_ n2_ n3_ n4_ n5_; (try clear hb); (try clear hb2); (try clear hk); (try clear hi); obtain ⟨Ao66, co66, eo66⟩ := Kd.R_slice HO_15.out; subst eo66) | (go_at_call 32; (with_reducible refine (graph_Dominates.calls _ _ t468 x16_3 x17_4 t472 _ ?side1 ?side2 A58.out).mono ?_); (case side1 => repeat (first | exact (Kd.R_reads' HO_15.out).2.2 | (with_reducible refine Kd.C_alloc ?_ _) | (with_reducible refine Kd.C_drewN ?_ _) | (with_reducible refine Kd.C_drew ?_))); (case side2 => exact (Kd.R_reads' HO_15.out).2.1); rintro e w67 ⟨rfl, hb⟩; have n0_ := Aside0.mk (Kd.S_below (by (with_reducible repeat (first | apply Kd.S_alloc | apply Kd.S_drewN | apply Kd.S_drew)); exact HO_6.out) hb); have n1_ := Aside0.mk (Kd.S_below (by (with_reducible repeat (first | apply Kd.S_alloc | apply Kd.S_drewN | apply Kd.S_drew)); exact HO_10.out) hb); have n2_ := Aside0.mk (Kd.R_below (by (with_reducible repeat (first | apply Kd.R_alloc | apply Kd.R_drewN | apply Kd.R_drew)); exact HO_14.out) hb); have n3_ := Aside0.mk (Kd.R_below (by (with_reducible repeat (first | apply Kd.R_alloc | apply Kd.R_drewN | apply Kd.R_drew)); exact HO_15.out) hb); have n4_ := Aside0.mk (blk_below (g := gb429) (o := .cells #[.int .i64 a1_0, .int .i64 a1_1] 73 (0, 0)) (by (with_reducible repeat (first | refine blk_drewN ?_ _ | refine blk_drew ?_ | refine blk_alloc ?_ _)); exact BK429.out) hb); have n5_ := Aside0.mk (below_step (by repeat (first | (with_reducible first | exact HB.out | apply below_alloc | apply pw_below_drewN | apply below_drew1 | refine below_set ?_ GE429.out) | exact HB.out)) hb); clear HO_6; clear HO_10; clear HO_14; clear HO_15; clear BK429; clear HB; have HO_6 := n0_; have HO_10 := n1_; have HO_14 := n2_; have HO_15 := n3_; have BK429 := n4_; have HB := n5_; clear n0_ n1_ n2_ n3_ n4_ n5_; (try clear hb); (try clear hb2); (try clear hk); (try clear hi))); try go_wp2_with (first | (go_at_call 32; (with_reducible refine (graph_Dominates.calls _ _ t465 x16_3 x17_4 t471 _ ?side1 ?side2 A57.out).mono ?_); (case side1 => repeat (first | exact (Kd.R_reads' HO_14.out).2.2 | (with_reducible refine Kd.C_alloc ?_ _) | (with_reducible refine Kd.C_drewN ?_ _) | (with_reducible refine Kd.C_drew ?_))); (case side2 => exact (Kd.R_reads' HO_14.out).2.1); rintro e w65 ⟨rfl, hb⟩; have n0_ := Aside0.mk (Kd.S_below (by (with_reducible repeat (first | apply Kd.S_alloc | apply Kd.S_drewN | apply Kd.S_drew)); exact HO_6.out) hb); have n1_ := Aside0.mk (Kd.S_below (by (with_reducible repeat (first | apply Kd.S_alloc | apply Kd.S_drewN | apply Kd.S_drew)); exact HO_10.out) hb); have n2_ := Aside0.mk (Kd.R_below (by (with_reducible repeat (first | apply Kd.R_alloc | apply Kd.R_drewN | apply Kd.R_drew)); exact HO_14.out) hb); have n3_ := Aside0.mk (Kd.R_below (by (with_reducible repeat (first | apply Kd.R_alloc | apply Kd.R_drewN | apply Kd.R_drew)); exact HO_15.out) hb); have n4_ := Aside0.mk (blk_below (g := gb429) (o := .cells #[.int .i64 a1_0, .int .i64 a1_1] 73 (0, 0)) (by (with_reducible repeat (first | refine blk_drewN ?_ _ | refine blk_drew ?_ | refine blk_alloc ?_ _)); exact BK429.out) hb); have n5_ := Aside0.mk (below_step (by repeat (first | (with_reducible first | exact HB.out | apply below_alloc | apply pw_below_drewN | apply below_drew1 | refine below_set ?_ GE429.out) | exact HB.out)) hb); clear HO_6; clear HO_10; clear HO_14; clear HO_15; clear BK429; clear HB; have HO_6 := n0_; have HO_10 := n1_; have HO_14 := n2_; have HO_15 := n3_; have BK429 := n4_; have HB := n5_; clear n0_ n1_ n2_ n3_ n4_ n5_; (try clear hb); (try clear hb2); (try clear hk); (try clear hi); obtain ⟨Ao66, co66, eo66⟩ := Kd.R_slice HO_15.out; subst eo66) | (go_at_call 32; (with_reducible refine (graph_Dominates.calls _ _ t468 x16_3 x17_4 t472 _ ?side1 ?side2 A58.out).mono ?_); (case side1 => repeat (first | exact (Kd.R_reads' HO_15.out).2.2 | (with_reducible refine Kd.C_alloc ?_ _) | (with_reducible refine Kd.C_drewN ?_ _) | (with_reducible refine Kd.C_drew ?_))); (case side2 => exact (Kd.R_reads' HO_15.out).2.1); rintro e w67 ⟨rfl, hb⟩; have n0_ := Aside0.mk (Kd.S_below (by (with_reducible repeat (first | apply Kd.S_alloc | apply Kd.S_drewN | apply Kd.S_drew)); exact HO_6.out) hb); have n1_ := Aside0.mk (Kd.S_below (by (with_reducible repeat (first | apply Kd.S_alloc | apply Kd.S_drewN | apply Kd.S_drew)); exact HO_10.out) hb); have n2_ := Aside0.mk (Kd.R_below (by (with_reducible repeat (first | apply Kd.R_alloc | apply Kd.R_drewN | apply Kd.R_drew)); exact HO_14.out) hb); have n3_ := Aside0.mk (Kd.R_below (by (with_reducible repeat (first | apply Kd.R_alloc | apply Kd.R_drewN | apply Kd.R_drew)); exact HO_15.out) hb); have n4_ := Aside0.mk (blk_below (g := gb429) (o := .cells #[.int .i64 a1_0, .int .i64 a1_1] 73 (0, 0)) (by (with_reducible repeat (first | refine blk_drewN ?_ _ | refine blk_drew ?_ | refine blk_alloc ?_ _)); exact BK429.out) hb); have n5_ := Aside0.mk (below_step (by repeat (first | (with_reducible first | exact HB.out | apply below_alloc | apply pw_below_drewN | apply below_drew1 | refine below_set ?_ GE429.out) | exact HB.out)) hb); clear HO_6; clear HO_10; clear HO_14; clear HO_15; clear BK429; clear HB; have HO_6 := n0_; have HO_10 := n1_; have HO_14 := n2_; have HO_15 := n3_; have BK429 := n4_; have HB := n5_; clear n0_ n1_ n2_ n3_ n4_ n5_; (try clear hb); (try clear hb2); (try clear hk); (try clear hi))))
                                        go_roundg k4
                                        case measure => have := HK1.out; have := HJ41.out; have := HK3.out; have := HK4.out; omega
                                        case rel => exact ⟨(wrap64 (x17_4 + 1)), (by first | rfl | (simp; done) | (simp [*]; done)), H', ⟨by have := HK1.out; have := HJ41.out; have := HK3.out; have := HK4.out; omega⟩, ⟨by (with_reducible repeat (first | apply Kd.S_alloc | apply Kd.S_drewN | apply Kd.S_drew)); exact HO_6.out⟩, ⟨by (with_reducible repeat (first | apply Kd.S_alloc | apply Kd.S_drewN | apply Kd.S_drew)); exact HO_10.out⟩, ⟨by (with_reducible repeat (first | apply Kd.R_alloc | apply Kd.R_drewN | apply Kd.R_drew)); exact HO_14.out⟩, ⟨by (with_reducible repeat (first | apply Kd.R_alloc | apply Kd.R_drewN | apply Kd.R_drew)); exact HO_15.out⟩, ⟨by (with_reducible repeat (first | refine blk_drewN ?_ _ | refine blk_drew ?_ | refine blk_alloc ?_ _)); exact BK429.out⟩, ⟨by repeat (first | (with_reducible first | exact HB.out | apply below_alloc | apply pw_below_drewN | apply below_drew1 | refine below_set ?_ GE429.out) | exact HB.out)⟩⟩
                                    · rw [if_neg c56] at H
                                      have c56b0 : decide (x17_4 < (t431.length : Int)) = false := decide_eq_false c56
                                      clear c56
                                      have H' := Aside0.mk H
                                      clear H
                                      go_wp2
                                      repeat (go_quiet (fail); try go_wp2)
                                      go_roundg k4
                                      case measure => have := HK1.out; have := HJ41.out; have := HK3.out; have := HK4.out; omega
                                      case rel => exact ⟨(wrap64 (x16_3 + 1)), (by first | rfl | (simp; done) | (simp [*]; done)), H', ⟨by have := HK1.out; have := HJ41.out; have := HK3.out; have := HK4.out; omega⟩, ⟨by (with_reducible repeat (first | apply Kd.S_alloc | apply Kd.S_drewN | apply Kd.S_drew)); exact HO_6.out⟩, ⟨by (with_reducible repeat (first | apply Kd.S_alloc | apply Kd.S_drewN | apply Kd.S_drew)); exact HO_10.out⟩, ⟨by (with_reducible repeat (first | apply Kd.R_alloc | apply Kd.R_drewN | apply Kd.R_drew)); exact HO_14.out⟩, ⟨by (with_reducible repeat (first | apply Kd.R_alloc | apply Kd.R_drewN | apply Kd.R_drew)); exact HO_15.out⟩, ⟨by (with_reducible repeat (first | refine blk_drewN ?_ _ | refine blk_drew ?_ | refine blk_alloc ?_ _)); exact BK429.out⟩, ⟨by repeat (first | (with_reducible first | exact HB.out | apply below_alloc | apply pw_below_drewN | apply below_drew1 | refine below_set ?_ GE429.out) | exact HB.out)⟩⟩
                              · rw [if_neg c55] at H
                                have c55b0 : decide (x16_3 < (t431.length : Int)) = false := decide_eq_false c55
                                clear c55
                                replace H := Option.bind_eq_some_iff.mp H
                                obtain ⟨t473, A680, H⟩ := H
                                replace H : (jacquardlaw02_GraphPut.l4 k3 t430 t431 (t431.length : Int) y462 t473 0) = some r := H
                                have A68 := Aside0.mk A680
                                clear A680
                                have H' := Aside0.mk H
                                clear H
                                go_wp2_with (first | (go_at_call 48; (with_reducible refine (graph_Critical.calls _ _ y462 t473 _ ?side1 ?side2 A68.out).mono ?_); (case side1 => repeat (first | exact (Kd.S_reads' HO_10.out).2.2 | (with_reducible refine Kd.C_alloc ?_ _) | (with_reducible refine Kd.C_drewN ?_ _) | (with_reducible refine Kd.C_drew ?_))); (case side2 => exact (Kd.S_reads' HO_10.out).2.1); rintro e w69 ⟨v474, rfl, ho0, hb⟩; have n0_ := Aside0.mk (Kd.S_below (by (with_reducible repeat (first | apply Kd.S_alloc | apply Kd.S_drewN | apply Kd.S_drew)); exact HO_6.out) hb); have n1_ := Aside0.mk (Kd.S_below (by (with_reducible repeat (first | apply Kd.S_alloc | apply Kd.S_drewN | apply Kd.S_drew)); exact HO_10.out) hb); have n2_ := Aside0.mk (Kd.R_below (by (with_reducible repeat (first | apply Kd.R_alloc | apply Kd.R_drewN | apply Kd.R_drew)); exact HO_14.out) hb); have n3_ := Aside0.mk (Kd.R_below (by (with_reducible repeat (first | apply Kd.R_alloc | apply Kd.R_drewN | apply Kd.R_drew)); exact HO_15.out) hb); have n4_ := Aside0.mk (Kd.R_lower (Kd.R_newB ho0 (g := gb429) (o := .cells #[.int .i64 a1_0, .int .i64 a1_1] 73 (0, 0)) (by (with_reducible repeat (first | refine blk_drewN ?_ _ | refine blk_drew ?_ | refine blk_alloc ?_ _)); exact BK429.out)) (below_size (by repeat (first | (with_reducible first | exact HB.out | apply below_alloc | apply pw_below_drewN | apply below_drew1 | refine below_set ?_ GE429.out) | exact HB.out)))); have n5_ := Aside0.mk (blk_below (g := gb429) (o := .cells #[.int .i64 a1_0, .int .i64 a1_1] 73 (0, 0)) (by (with_reducible repeat (first | refine blk_drewN ?_ _ | refine blk_drew ?_ | refine blk_alloc ?_ _)); exact BK429.out) hb); have n6_ := Aside0.mk (below_step (by repeat (first | (with_reducible first | exact HB.out | apply below_alloc | apply pw_below_drewN | apply below_drew1 | refine below_set ?_ GE429.out) | exact HB.out)) hb); clear HO_6; clear HO_10; clear HO_14; clear HO_15; clear BK429; clear HB; have HO_6 := n0_; have HO_10 := n1_; have HO_14 := n2_; have HO_15 := n3_; have HO475 := n4_; have BK429 := n5_; have HB := n6_; clear n0_ n1_ n2_ n3_ n4_ n5_ n6_; (try clear hb); (try clear hb2); (try clear hk); (try clear hi); (try clear ho0)))
                                repeat (go_quiet (first | (go_at_call 48; (with_reducible refine (graph_Critical.calls _ _ y462 t473 _ ?side1 ?side2 A68.out).mono ?_); (case side1 => repeat (first | exact (Kd.S_reads' HO_10.out).2.2 | (with_reducible refine Kd.C_alloc ?_ _) | (with_reducible refine Kd.C_drewN ?_ _) | (with_reducible refine Kd.C_drew ?_))); (case side2 => exact (Kd.S_reads' HO_10.out).2.1); rintro e w69 ⟨v474, rfl, ho0, hb⟩; have n0_ := Aside0.mk (Kd.S_below (by (with_reducible repeat (first | apply Kd.S_alloc | apply Kd.S_drewN | apply Kd.S_drew)); exact HO_6.out) hb); have n1_ := Aside0.mk (Kd.S_below (by (with_reducible repeat (first | apply Kd.S_alloc | apply Kd.S_drewN | apply Kd.S_drew)); exact HO_10.out) hb); have n2_ := Aside0.mk (Kd.R_below (by (with_reducible repeat (first | apply Kd.R_alloc | apply Kd.R_drewN | apply Kd.R_drew)); exact HO_14.out) hb); have n3_ := Aside0.mk (Kd.R_below (by (with_reducible repeat (first | apply Kd.R_alloc | apply Kd.R_drewN | apply Kd.R_drew)); exact HO_15.out) hb); have n4_ := Aside0.mk (Kd.R_lower (Kd.R_newB ho0 (g := gb429) (o := .cells #[.int .i64 a1_0, .int .i64 a1_1] 73 (0, 0)) (by (with_reducible repeat (first | refine blk_drewN ?_ _ | refine blk_drew ?_ | refine blk_alloc ?_ _)); exact BK429.out)) (below_size (by repeat (first | (with_reducible first | exact HB.out | apply below_alloc | apply pw_below_drewN | apply below_drew1 | refine below_set ?_ GE429.out) | exact HB.out)))); have n5_ := Aside0.mk (blk_below (g := gb429) (o := .cells #[.int .i64 a1_0, .int .i64 a1_1] 73 (0, 0)) (by (with_reducible repeat (first | refine blk_drewN ?_ _ | refine blk_drew ?_ | refine blk_alloc ?_ _)); exact BK429.out) hb); have n6_ := Aside0.mk (below_step (by repeat (first | (with_reducible first | exact HB.out | apply below_alloc | apply pw_below_drewN | apply below_drew1 | refine below_set ?_ GE429.out) | exact HB.out)) hb); clear HO_6; clear HO_10; clear HO_14; clear HO_15; clear BK429; clear HB; have HO_6 := n0_; have HO_10 := n1_; have HO_14 := n2_; have HO_15 := n3_; have HO475 := n4_; have BK429 := n5_; have HB := n6_; clear n0_ n1_ n2_ n3_ n4_ n5_ n6_; (try clear hb); (try clear hb2); (try clear hk); (try clear hi); (try clear ho0))); try go_wp2_with (first | (go_at_call 48; (with_reducible refine (graph_Critical.calls _ _ y462 t473 _ ?side1 ?side2 A68.out).mono ?_); (case side1 => repeat (first | exact (Kd.S_reads' HO_10.out).2.2 | (with_reducible refine Kd.C_alloc ?_ _) | (with_reducible refine Kd.C_drewN ?_ _) | (with_reducible refine Kd.C_drew ?_))); (case side2 => exact (Kd.S_reads' HO_10.out).2.1); rintro e w69 ⟨v474, rfl, ho0, hb⟩; have n0_ := Aside0.mk (Kd.S_below (by (with_reducible repeat (first | apply Kd.S_alloc | apply Kd.S_drewN | apply Kd.S_drew)); exact HO_6.out) hb); have n1_ := Aside0.mk (Kd.S_below (by (with_reducible repeat (first | apply Kd.S_alloc | apply Kd.S_drewN | apply Kd.S_drew)); exact HO_10.out) hb); have n2_ := Aside0.mk (Kd.R_below (by (with_reducible repeat (first | apply Kd.R_alloc | apply Kd.R_drewN | apply Kd.R_drew)); exact HO_14.out) hb); have n3_ := Aside0.mk (Kd.R_below (by (with_reducible repeat (first | apply Kd.R_alloc | apply Kd.R_drewN | apply Kd.R_drew)); exact HO_15.out) hb); have n4_ := Aside0.mk (Kd.R_lower (Kd.R_newB ho0 (g := gb429) (o := .cells #[.int .i64 a1_0, .int .i64 a1_1] 73 (0, 0)) (by (with_reducible repeat (first | refine blk_drewN ?_ _ | refine blk_drew ?_ | refine blk_alloc ?_ _)); exact BK429.out)) (below_size (by repeat (first | (with_reducible first | exact HB.out | apply below_alloc | apply pw_below_drewN | apply below_drew1 | refine below_set ?_ GE429.out) | exact HB.out)))); have n5_ := Aside0.mk (blk_below (g := gb429) (o := .cells #[.int .i64 a1_0, .int .i64 a1_1] 73 (0, 0)) (by (with_reducible repeat (first | refine blk_drewN ?_ _ | refine blk_drew ?_ | refine blk_alloc ?_ _)); exact BK429.out) hb); have n6_ := Aside0.mk (below_step (by repeat (first | (with_reducible first | exact HB.out | apply below_alloc | apply pw_below_drewN | apply below_drew1 | refine below_set ?_ GE429.out) | exact HB.out)) hb); clear HO_6; clear HO_10; clear HO_14; clear HO_15; clear BK429; clear HB; have HO_6 := n0_; have HO_10 := n1_; have HO_14 := n2_; have HO_15 := n3_; have HO475 := n4_; have BK429 := n5_; have HB := n6_; clear n0_ n1_ n2_ n3_ n4_ n5_ n6_; (try clear hb); (try clear hb2); (try clear hk); (try clear hi); (try clear ho0))))
                                go_loopg [19] k3 (fun kq v19 w' => ∃ (x19_4 : Int), v19 = .int .i64 x19_4 ∧ Aside0 (jacquardlaw02_GraphPut.l4 kq t430 t431 (t431.length : Int) y462 t473 x19_4 = some r) ∧ Aside0 (kq ≤ k3) ∧ Aside0 (Kd.S (Kd.slice 3 (Kd.int .i64)) 23 w' w.heap.size (fun k_ => some k_ ≠ ((.slice Ao48 y462.length co48) : Value).ownBlock) (.slice (some ad435) t431.length co21) t431) ∧ Aside0 (Kd.S (Kd.slice 3 (Kd.int .i64)) 23 w' w.heap.size (fun k_ => some k_ ≠ ((.slice (some ad435) t431.length co21) : Value).ownBlock) (.slice Ao48 y462.length co48) y462) ∧ Aside0 (Kd.R k73 73 w' w.heap.size (fun k_ => k_ ≠ gb429) v474 t473) ∧ Aside0 (w'.heap[gb429]? = some (.cells #[.int .i64 a1_0, .int .i64 a1_1] 73 (0, 0))) ∧ Aside0 (Below w.heap.size w w'))
                                case atStart => exact ⟨(0), (by first | rfl | (simp; done) | (simp [*]; done)), H', ⟨Nat.le_refl _⟩, ⟨by (with_reducible repeat (first | apply Kd.S_alloc | apply Kd.S_drewN | apply Kd.S_drew)); exact Kd.S_mono HO_6.out (fun _ hk => hk.1)⟩, ⟨by (with_reducible repeat (first | apply Kd.S_alloc | apply Kd.S_drewN | apply Kd.S_drew)); exact Kd.S_mono HO_10.out (fun _ hk => hk.1)⟩, ⟨by (with_reducible repeat (first | apply Kd.R_alloc | apply Kd.R_drewN | apply Kd.R_drew)); exact Kd.R_mono HO475.out (fun _ hk => hk.2)⟩, ⟨by (with_reducible repeat (first | refine blk_drewN ?_ _ | refine blk_drew ?_ | refine blk_alloc ?_ _)); exact BK429.out⟩, ⟨by repeat (first | (with_reducible first | exact HB.out | apply below_alloc | apply pw_below_drewN | apply below_drew1 | refine below_set ?_ GE429.out) | exact HB.out)⟩⟩
                                case round =>
                                  clear H'; (try clear c1); (try clear c2); (try clear p2); (try clear c3); (try clear c4); (try clear p4); (try clear q4); (try clear hx4); (try clear c5); (try clear c6); (try clear c6b0); (try clear p6); (try clear c7); (try clear c7b0); (try clear c8); (try clear c8b0); (try clear c8b1); (try clear c8b2); (try clear c11); (try clear c15); (try clear c15b0); (try clear c16); (try clear c16b0); (try clear c22); (try clear c22b0); (try clear c23); (try clear c23b0); (try clear c24); (try clear c24b0); (try clear c25); (try clear c25b0); (try clear c26); (try clear c26b0); (try clear c26b1); (try clear c27); (try clear c27b0); (try clear c28); (try clear c28b0); (try clear c28b1); (try clear c29); (try clear c31); (try clear c33); (try clear c33b0); (try clear c34); (try clear c36); (try clear c39); (try clear c43); (try clear p43); (try clear q43); (try clear hx43); (try clear c44); (try clear p44); (try clear q44); (try clear hx44); (try clear c45); (try clear p45); (try clear q45); (try clear hx45); (try clear c50); (try clear c50b0); (try clear c50b1); (try clear c54); (try clear c55); (try clear c55b0); (try clear c56); (try clear c56b0); (try clear c59); (try clear c59b0); (try clear c59b1); (try clear c59b2); (try clear p64); (try clear hcz12_0); (try clear hcz12_1); (try clear hcz20_0); (try clear hcz20_1); (try clear hfz12_0); (try clear hfz12_1); (try clear hfz20_0); (try clear hfz20_1); (try clear hx435_0); (try clear hx436_0); (try clear hx437_0); (try clear hx439_0); (try clear hx440_0); (try clear hx441_0); (try clear hx442_0); (try clear hx446_0); (try clear hx447_0); (try clear hx451_0); (try clear hx452_0); (try clear p2); (try clear p4); (try clear p43); (try clear p435); (try clear p436); (try clear p437); (try clear p439); (try clear p44); (try clear p440); (try clear p441); (try clear p442); (try clear p446); (try clear p447); (try clear p45); (try clear p451); (try clear p452); (try clear p6); (try clear q4); (try clear q43); (try clear q435); (try clear q436)
                                  (try clear q437); (try clear q439); (try clear q44); (try clear q440); (try clear q441); (try clear q442); (try clear q446); (try clear q447); (try clear q45); (try clear q451); (try clear q452)
                                  obtain ⟨x19_4, rfl, HA, HK4, HO_6, HO_10, HO_18, BK429, HB⟩ := hrel
                                  cases gk with
                                  | zero => exact absurd HA.out (by simp [jacquardlaw02_GraphPut.l4])
                                  | succ k4 =>
                                    have H := HA.out
                                    clear HA
                                    simp only [jacquardlaw02_GraphPut.l4] at H
                                    by_cases c70 : x19_4 < (t473.length : Int)
                                    · rw [if_pos c70] at H
                                      have c70b0 : decide (x19_4 < (t473.length : Int)) = true := decide_eq_true c70
                                      clear c70
                                      by_cases c71 : 0 ≤ x19_4
                                      · rw [if_pos c71] at H
                                        have c71b0 : decide (0 ≤ x19_4) = true := decide_eq_true c71
                                        clear c71
                                        by_cases c72 : ((rd_T73 t473 x19_4).f0) = (t431.length : Int)
                                        · rw [if_pos c72] at H
                                          have c72b0 : (((rd_T73 t473 x19_4).f0) == (t431.length : Int)) = true := beq_iff_eq.mpr c72
                                          have c72b1 : (((rd_T73 t473 x19_4).f0) != (t431.length : Int)) = false := bne_eq_false_iff_eq.mpr c72
                                          clear c72
                                          obtain rfl := Option.some.inj H
                                          obtain ⟨Ao73, co73, eo73⟩ := Kd.R_slice HO_18.out
                                          subst eo73
                                          have p476 : 0 ≤ (x19_4 : Int) := of_decide_eq_true (by first | (with_reducible assumption) | assumption)
                                          have q476 : x19_4 < (t473.length : Int) := of_decide_eq_true (by first | (with_reducible assumption) | assumption)
                                          obtain ⟨ad476, e476, hx476_0, hx476_1⟩ := at_T73 (Kd.R_reads' HO_18.out).2.2 x19_4 p476 q476
                                          cases e476
                                          replace p476 := eq_true p476
                                          replace q476 := eq_true q476
                                          go_wp2
                                          repeat (go_quiet (fail); try go_wp2)
                                          go_ret
                                          exact ⟨by first | rfl | (simp [errW_none, errW_some] <;> rfl) | (simp [*, errW_none, errW_some] <;> rfl), by repeat (first | (with_reducible first | exact HB.out | apply below_alloc | apply pw_below_drewN | apply below_drew1 | refine below_set ?_ GE429.out) | exact HB.out)⟩
                                        · rw [if_neg c72] at H
                                          have c72b0 : (((rd_T73 t473 x19_4).f0) == (t431.length : Int)) = false := beq_eq_false_iff_ne.mpr c72
                                          have c72b1 : (((rd_T73 t473 x19_4).f0) != (t431.length : Int)) = true := bne_iff_ne.mpr c72
                                          by_cases c74 : ((rd_T73 t473 x19_4).f1) = (t431.length : Int)
                                          · rw [if_pos c74] at H
                                            have c74b0 : (((rd_T73 t473 x19_4).f1) == (t431.length : Int)) = true := beq_iff_eq.mpr c74
                                            have c74b1 : (((rd_T73 t473 x19_4).f1) != (t431.length : Int)) = false := bne_eq_false_iff_eq.mpr c74
                                            clear c74
                                            obtain rfl := Option.some.inj H
                                            obtain ⟨Ao75, co75, eo75⟩ := Kd.R_slice HO_18.out
                                            subst eo75
                                            have p476 : 0 ≤ (x19_4 : Int) := of_decide_eq_true (by first | (with_reducible assumption) | assumption)
                                            have q476 : x19_4 < (t473.length : Int) := of_decide_eq_true (by first | (with_reducible assumption) | assumption)
                                            obtain ⟨ad476, e476, hx476_0, hx476_1⟩ := at_T73 (Kd.R_reads' HO_18.out).2.2 x19_4 p476 q476
                                            cases e476
                                            replace p476 := eq_true p476
                                            replace q476 := eq_true q476
                                            have p477 : 0 ≤ (x19_4 : Int) := of_decide_eq_true (by first | (with_reducible assumption) | assumption)
                                            have q477 : x19_4 < (t473.length : Int) := of_decide_eq_true (by first | (with_reducible assumption) | assumption)
                                            obtain ⟨ad477, e477, hx477_0, hx477_1⟩ := at_T73 (Kd.R_reads' HO_18.out).2.2 x19_4 p477 q477
                                            obtain rfl : ad476 = ad477 := (by injection e477)
                                            replace p477 := eq_true p477
                                            replace q477 := eq_true q477
                                            go_wp2
                                            repeat (go_quiet (fail); try go_wp2)
                                            go_ret
                                            exact ⟨by first | rfl | (simp [errW_none, errW_some] <;> rfl) | (simp [*, errW_none, errW_some] <;> rfl), by repeat (first | (with_reducible first | exact HB.out | apply below_alloc | apply pw_below_drewN | apply below_drew1 | refine below_set ?_ GE429.out) | exact HB.out)⟩
                                          · rw [if_neg c74] at H
                                            have c74b0 : (((rd_T73 t473 x19_4).f1) == (t431.length : Int)) = false := beq_eq_false_iff_ne.mpr c74
                                            have c74b1 : (((rd_T73 t473 x19_4).f1) != (t431.length : Int)) = true := bne_iff_ne.mpr c74
                                            have H' := Aside0.mk H
                                            clear H
                                            obtain ⟨Ao76, co76, eo76⟩ := Kd.R_slice HO_18.out
                                            subst eo76
                                            have p476 : 0 ≤ (x19_4 : Int) := of_decide_eq_true (by first | (with_reducible assumption) | assumption)
                                            have q476 : x19_4 < (t473.length : Int) := of_decide_eq_true (by first | (with_reducible assumption) | assumption)
                                            obtain ⟨ad476, e476, hx476_0, hx476_1⟩ := at_T73 (Kd.R_reads' HO_18.out).2.2 x19_4 p476 q476
                                            cases e476
                                            replace p476 := eq_true p476
                                            replace q476 := eq_true q476
                                            have p477 : 0 ≤ (x19_4 : Int) := of_decide_eq_true (by first | (with_reducible assumption) | assumption)
                                            have q477 : x19_4 < (t473.length : Int) := of_decide_eq_true (by first | (with_reducible assumption) | assumption)
                                            obtain ⟨ad477, e477, hx477_0, hx477_1⟩ := at_T73 (Kd.R_reads' HO_18.out).2.2 x19_4 p477 q477
                                            obtain rfl : ad476 = ad477 := (by injection e477)
                                            replace p477 := eq_true p477
                                            replace q477 := eq_true q477
                                            go_wp2
                                            repeat (go_quiet (fail); try go_wp2)
                                            go_roundg k4
                                            case measure => have := HK1.out; have := HJ41.out; have := HK3.out; have := HK4.out; omega
                                            case rel => exact ⟨(wrap64 (x19_4 + 1)), (by first | rfl | (simp; done) | (simp [*]; done)), H', ⟨by have := HK1.out; have := HJ41.out; have := HK3.out; have := HK4.out; omega⟩, ⟨by (with_reducible repeat (first | apply Kd.S_alloc | apply Kd.S_drewN | apply Kd.S_drew)); exact HO_6.out⟩, ⟨by (with_reducible repeat (first | apply Kd.S_alloc | apply Kd.S_drewN | apply Kd.S_drew)); exact HO_10.out⟩, ⟨by (with_reducible repeat (first | apply Kd.R_alloc | apply Kd.R_drewN | apply Kd.R_drew)); exact HO_18.out⟩, ⟨by (with_reducible repeat (first | refine blk_drewN ?_ _ | refine blk_drew ?_ | refine blk_alloc ?_ _)); exact BK429.out⟩, ⟨by repeat (first | (with_reducible first | exact HB.out | apply below_alloc | apply pw_below_drewN | apply below_drew1 | refine below_set ?_ GE429.out) | exact HB.out)⟩⟩
                                      · rw [if_neg c71] at H
                                        exact absurd H (by simp)
                                    · rw [if_neg c70] at H
                                      have c70b0 : decide (x19_4 < (t473.length : Int)) = false := decide_eq_false c70
                                      clear c70
                                      by_cases c77 : t430 = true
                                      · subst c77
                                        have H1 : ((graph_Reducible.f k4 t431).bind fun t478 => ((graph_Reducible.f k4 y462).bind fun t479 => (some (t478 == t479)))) = some r := by rw [if_pos rfl] at H; exact H
                                        clear H
                                        have H := H1
                                        clear H1
                                        replace H := Option.bind_eq_some_iff.mp H
                                        obtain ⟨t478, A780, H⟩ := H
                                        replace H : ((graph_Reducible.f k4 y462).bind fun t479 => (some (t478 == t479))) = some r := H
                                        have A78 := Aside0.mk A780
                                        clear A780
                                        replace H := Option.bind_eq_some_iff.mp H
                                        obtain ⟨t479, A790, H⟩ := H
                                        replace H : (some (t478 == t479)) = some r := H
                                        have A79 := Aside0.mk A790
                                        clear A790
                                        obtain rfl := Option.some.inj H
                                        obtain ⟨Ao80, co80, eo80⟩ := Kd.R_slice HO_18.out
                                        subst eo80
                                        go_wp2_with (first | (go_at_call 49; (with_reducible refine (graph_Reducible.calls k4 _ _ t431 t478 _ ?side1 ?side2 A78.out).mono ?_); (case side1 => repeat (first | exact (Kd.S_reads' HO_6.out).2.2 | (with_reducible refine Kd.C_alloc ?_ _) | (with_reducible refine Kd.C_drewN ?_ _) | (with_reducible refine Kd.C_drew ?_))); (case side2 => exact (Kd.S_reads' HO_6.out).2.1); rintro e w81 ⟨rfl, hb⟩; have n0_ := Aside0.mk (Kd.S_below (by (with_reducible repeat (first | apply Kd.S_alloc | apply Kd.S_drewN | apply Kd.S_drew)); exact HO_6.out) hb); have n1_ := Aside0.mk (Kd.S_below (by (with_reducible repeat (first | apply Kd.S_alloc | apply Kd.S_drewN | apply Kd.S_drew)); exact HO_10.out) hb); have n2_ := Aside0.mk (Kd.R_below (by (with_reducible repeat (first | apply Kd.R_alloc | apply Kd.R_drewN | apply Kd.R_drew)); exact HO_18.out) hb); have n3_ := Aside0.mk (blk_below (g := gb429) (o := .cells #[.int .i64 a1_0, .int .i64 a1_1] 73 (0, 0)) (by (with_reducible repeat (first | refine blk_drewN ?_ _ | refine blk_drew ?_ | refine blk_alloc ?_ _)); exact BK429.out) hb); have n4_ := Aside0.mk (below_step (by repeat (first | (with_reducible first | exact HB.out | apply below_alloc | apply pw_below_drewN | apply below_drew1 | refine below_set ?_ GE429.out) | exact HB.out)) hb); clear HO_6; clear HO_10; clear HO_18; clear BK429; clear HB; have HO_6 := n0_; have HO_10 := n1_; have HO_18 := n2_; have BK429 := n3_; have HB := n4_; clear n0_ n1_ n2_ n3_ n4_; (try clear hb); (try clear hb2); (try clear hk); (try clear hi)) | (go_at_call 49; (with_reducible refine (graph_Reducible.calls k4 _ _ y462 t479 _ ?side1 ?side2 A79.out).mono ?_); (case side1 => repeat (first | exact (Kd.S_reads' HO_10.out).2.2 | (with_reducible refine Kd.C_alloc ?_ _) | (with_reducible refine Kd.C_drewN ?_ _) | (with_reducible refine Kd.C_drew ?_))); (case side2 => exact (Kd.S_reads' HO_10.out).2.1); rintro e w82 ⟨rfl, hb⟩; have n0_ := Aside0.mk (Kd.S_below (by (with_reducible repeat (first | apply Kd.S_alloc | apply Kd.S_drewN | apply Kd.S_drew)); exact HO_6.out) hb); have n1_ := Aside0.mk (Kd.S_below (by (with_reducible repeat (first | apply Kd.S_alloc | apply Kd.S_drewN | apply Kd.S_drew)); exact HO_10.out) hb); have n2_ := Aside0.mk (Kd.R_below (by (with_reducible repeat (first | apply Kd.R_alloc | apply Kd.R_drewN | apply Kd.R_drew)); exact HO_18.out) hb); have n3_ := Aside0.mk (blk_below (g := gb429) (o := .cells #[.int .i64 a1_0, .int .i64 a1_1] 73 (0, 0)) (by (with_reducible repeat (first | refine blk_drewN ?_ _ | refine blk_drew ?_ | refine blk_alloc ?_ _)); exact BK429.out) hb); have n4_ := Aside0.mk (below_step (by repeat (first | (with_reducible first | exact HB.out | apply below_alloc | apply pw_below_drewN | apply below_drew1 | refine below_set ?_ GE429.out) | exact HB.out)) hb); clear HO_6; clear HO_10; clear HO_18; clear BK429; clear HB; have HO_6 := n0_; have HO_10 := n1_; have HO_18 := n2_; have BK429 := n3_; have HB := n4_; clear n0_ n1_ n2_ n3_ n4_; (try clear hb); (try clear hb2); (try clear hk); (try clear hi)))
                                        repeat (go_quiet (first | (go_at_call 49; (with_reducible refine (graph_Reducible.calls k4 _ _ t431 t478 _ ?side1 ?side2 A78.out).mono ?_); (case side1 => repeat (first | exact (Kd.S_reads' HO_6.out).2.2 | (with_reducible refine Kd.C_alloc ?_ _) | (with_reducible refine Kd.C_drewN ?_ _) | (with_reducible refine Kd.C_drew ?_))); (case side2 => exact (Kd.S_reads' HO_6.out).2.1); rintro e w81 ⟨rfl, hb⟩; have n0_ := Aside0.mk (Kd.S_below (by (with_reducible repeat (first | apply Kd.S_alloc | apply Kd.S_drewN | apply Kd.S_drew)); exact HO_6.out) hb); have n1_ := Aside0.mk (Kd.S_below (by (with_reducible repeat (first | apply Kd.S_alloc | apply Kd.S_drewN | apply Kd.S_drew)); exact HO_10.out) hb); have n2_ := Aside0.mk (Kd.R_below (by (with_reducible repeat (first | apply Kd.R_alloc | apply Kd.R_drewN | apply Kd.R_drew)); exact HO_18.out) hb); have n3_ := Aside0.mk (blk_below (g := gb429) (o := .cells #[.int .i64 a1_0, .int .i64 a1_1] 73 (0, 0)) (by (with_reducible repeat (first | refine blk_drewN ?_ _ | refine blk_drew ?_ | refine blk_alloc ?_ _)); exact BK429.out) hb); have n4_ := Aside0.mk (below_step (by repeat (first | (with_reducible first | exact HB.out | apply below_alloc | apply pw_below_drewN | apply below_drew1 | refine below_set ?_ GE429.out) | exact HB.out)) hb); clear HO_6; clear HO_10; clear HO_18; clear BK429; clear HB; have HO_6 := n0_; have HO_10 := n1_; have HO_18 := n2_; have BK429 := n3_; have HB := n4_; clear n0_ n1_ n2_ n3_ n4_; (try clear hb); (try clear hb2); (try clear hk); (try clear hi)) | (go_at_call 49; (with_reducible refine (graph_Reducible.calls k4 _ _ y462 t479 _ ?side1 ?side2 A79.out).mono ?_); (case side1 => repeat (first | exact (Kd.S_reads' HO_10.out).2.2 | (with_reducible refine Kd.C_alloc ?_ _) | (with_reducible refine Kd.C_drewN ?_ _) | (with_reducible refine Kd.C_drew ?_))); (case side2 => exact (Kd.S_reads' HO_10.out).2.1); rintro e w82 ⟨rfl, hb⟩; have n0_ := Aside0.mk (Kd.S_below (by (with_reducible repeat (first | apply Kd.S_alloc | apply Kd.S_drewN | apply Kd.S_drew)); exact HO_6.out) hb); have n1_ := Aside0.mk (Kd.S_below (by (with_reducible repeat (first | apply Kd.S_alloc | apply Kd.S_drewN | apply Kd.S_drew)); exact HO_10.out) hb); have n2_ := Aside0.mk (Kd.R_below (by (with_reducible repeat (first | apply Kd.R_alloc | apply Kd.R_drewN | apply Kd.R_drew)); exact HO_18.out) hb); have n3_ := Aside0.mk (blk_below (g := gb429) (o := .cells #[.int .i64 a1_0, .int .i64 a1_1] 73 (0, 0)) (by (with_reducible repeat (first | refine blk_drewN ?_ _ | refine blk_drew ?_ | refine blk_alloc ?_ _)); exact BK429.out) hb); have n4_ := Aside0.mk (below_step (by repeat (first | (with_reducible first | exact HB.out | apply below_alloc | apply pw_below_drewN | apply below_drew1 | refine below_set ?_ GE429.out) | exact HB.out)) hb); clear HO_6; clear HO_10; clear HO_18; clear BK429; clear HB; have HO_6 := n0_; have HO_10 := n1_; have HO_18 := n2_; have BK429 := n3_; have HB := n4_; clear n0_ n1_ n2_ n3_ n4_; (try clear hb); (try clear hb2); (try clear hk); (try clear hi))); try go_wp2_with (first | (go_at_call 49; (with_reducible refine (graph_Reducible.calls k4 _ _ t431 t478 _ ?side1 ?side2 A78.out).mono ?_); (case side1 => repeat (first | exact (Kd.S_reads' HO_6.out).2.2 | (with_reducible refine Kd.C_alloc ?_ _) | (with_reducible refine Kd.C_drewN ?_ _) | (with_reducible refine Kd.C_drew ?_))); (case side2 => exact (Kd.S_reads' HO_6.out).2.1); rintro e w81 ⟨rfl, hb⟩; have n0_ := Aside0.mk (Kd.S_below (by (with_reducible repeat (first | apply Kd.S_alloc | apply Kd.S_drewN | apply Kd.S_drew)); exact HO_6.out) hb); have n1_ := Aside0.mk (Kd.S_below (by (with_reducible repeat (first | apply Kd.S_alloc | apply Kd.S_drewN | apply Kd.S_drew)); exact HO_10.out) hb); have n2_ := Aside0.mk (Kd.R_below (by (with_reducible repeat (first | apply Kd.R_alloc | apply Kd.R_drewN | apply Kd.R_drew)); exact HO_18.out) hb); have n3_ := Aside0.mk (blk_below (g := gb429) (o := .cells #[.int .i64 a1_0, .int .i64 a1_1] 73 (0, 0)) (by (with_reducible repeat (first | refine blk_drewN ?_ _ | refine blk_drew ?_ | refine blk_alloc ?_ _)); exact BK429.out) hb); have n4_ := Aside0.mk (below_step (by repeat (first | (with_reducible first | exact HB.out | apply below_alloc | apply pw_below_drewN | apply below_drew1 | refine below_set ?_ GE429.out) | exact HB.out)) hb); clear HO_6; clear HO_10; clear HO_18; clear BK429; clear HB; have HO_6 := n0_; have HO_10 := n1_; have HO_18 := n2_; have BK429 := n3_; have HB := n4_; clear n0_ n1_ n2_ n3_ n4_; (try clear hb); (try clear hb2); (try clear hk); (try clear hi)) | (go_at_call 49; (with_reducible refine (graph_Reducible.calls k4 _ _ y462 t479 _ ?side1 ?side2 A79.out).mono ?_); (case side1 => repeat (first | exact (Kd.S_reads' HO_10.out).2.2 | (with_reducible refine Kd.C_alloc ?_ _) | (with_reducible refine Kd.C_drewN ?_ _) | (with_reducible refine Kd.C_drew ?_))); (case side2 => exact (Kd.S_reads' HO_10.out).2.1); rintro e w82 ⟨rfl, hb⟩; have n0_ := Aside0.mk (Kd.S_below (by (with_reducible repeat (first | apply Kd.S_alloc | apply Kd.S_drewN | apply Kd.S_drew)); exact HO_6.out) hb); have n1_ := Aside0.mk (Kd.S_below (by (with_reducible repeat (first | apply Kd.S_alloc | apply Kd.S_drewN | apply Kd.S_drew)); exact HO_10.out) hb); have n2_ := Aside0.mk (Kd.R_below (by (with_reducible repeat (first | apply Kd.R_alloc | apply Kd.R_drewN | apply Kd.R_drew)); exact HO_18.out) hb); have n3_ := Aside0.mk (blk_below (g := gb429) (o := .cells #[.int .i64 a1_0, .int .i64 a1_1] 73 (0, 0)) (by (with_reducible repeat (first | refine blk_drewN ?_ _ | refine blk_drew ?_ | refine blk_alloc ?_ _)); exact BK429.out) hb); have n4_ := Aside0.mk (below_step (by repeat (first | (with_reducible first | exact HB.out | apply below_alloc | apply pw_below_drewN | apply below_drew1 | refine below_set ?_ GE429.out) | exact HB.out)) hb); clear HO_6; clear HO_10; clear HO_18; clear BK429; clear HB; have HO_6 := n0_; have HO_10 := n1_; have HO_18 := n2_; have BK429 := n3_; have HB := n4_; clear n0_ n1_ n2_ n3_ n4_; (try clear hb); (try clear hb2); (try clear hk); (try clear hi))))
                                        go_ret
                                        exact ⟨by first | rfl | (simp [errW_none, errW_some] <;> rfl) | (simp [*, errW_none, errW_some] <;> rfl), by repeat (first | (with_reducible first | exact HB.out | apply below_alloc | apply pw_below_drewN | apply below_drew1 | refine below_set ?_ GE429.out) | exact HB.out)⟩
                                      · replace c77 := Bool.eq_false_iff.mpr c77
                                        subst c77
                                        have H1 : (some false) = some r := by rw [if_neg (show ¬ (false = true) by decide)] at H; exact H
                                        clear H
                                        have H := H1
                                        clear H1
                                        obtain rfl := Option.some.inj H
                                        obtain ⟨Ao83, co83, eo83⟩ := Kd.R_slice HO_18.out
                                        subst eo83
                                        go_wp2
                                        repeat (go_quiet (fail); try go_wp2)
                                        go_ret
                                        exact ⟨by first | rfl | (simp [errW_none, errW_some] <;> rfl) | (simp [*, errW_none, errW_some] <;> rfl), by repeat (first | (with_reducible first | exact HB.out | apply below_alloc | apply pw_below_drewN | apply below_drew1 | refine below_set ?_ GE429.out) | exact HB.out)⟩
                  · rw [if_neg c39] at H
                    exact absurd H (by simp)
          · rw [if_neg c16] at H
            exact absurd H (by simp)
        · rw [if_neg c15] at H
          exact absurd H (by simp)
    · rw [if_neg c7] at H
      exact absurd H (by simp)
  · rw [if_neg c6] at H
    exact absurd H (by simp)

end Go.Proofs.Ytnmeomdjhjgnfaa.X
end
section
/-! Plain: what a walk over blocks (overL) comes to, in which order. -/
set_option linter.unusedVariables false
set_option linter.unusedSimpArgs false
namespace Go.Proofs.Ytnmeomdjhjgnfaa.X
open Go.RowKit Go.Proofs.YtnmeomdjhjgnfaaW.PrintWords Go.Proofs.YtnmeomdjhjgnfaaW.PrintLast Go.Proofs.YtnmeomdjhjgnfaaW.PrintMore

/-- y stands ahead of x. -/
def Bef (L : List Int) (y x : Int) : Prop := ∃ l1 l2, L = l1 ++ l2 ∧ y ∈ l1 ∧ x ∈ l2
theorem Bef.left {L : List Int} {y x : Int} (h : Bef L y x) (M : List Int) : Bef (L ++ M) y x := by
  obtain ⟨l1, l2, rfl, h1, h2⟩ := h
  exact ⟨l1, l2 ++ M, by simp, h1, by simp [h2]⟩
theorem Bef.right {L : List Int} {y x : Int} (h : Bef L y x) (M : List Int) : Bef (M ++ L) y x := by
  obtain ⟨l1, l2, rfl, h1, h2⟩ := h
  exact ⟨M ++ l1, l2, by simp, by simp [h1], h2⟩
theorem Bef.cross {L M : List Int} {y x : Int} (h : y ∈ L) (k : x ∈ M) : Bef (L ++ M) y x := ⟨L, M, rfl, h, k⟩
/-- A way from y on, each step to a block that is left earlier. -/
inductive FP (E : Int → Int → Prop) (L : List Int) (y : Int) : Int → Prop
  | refl : FP E L y y
  | step {z x : Int} : FP E L y z → E z x → Bef L x z → FP E L y x
theorem FP.mono {E : Int → Int → Prop} {L M : List Int} (hb : ∀ a b, Bef L a b → Bef M a b) {y x : Int} (h : FP E L y x) : FP E M y x := by
  induction h with
  | refl => exact .refl
  | step _ he hbf ih => exact .step ih he (hb _ _ hbf)
theorem FP.trans {E : Int → Int → Prop} {L : List Int} {w y x : Int} (h : FP E L w y) (k : FP E L y x) : FP E L w x := by
  induction k with
  | refl => exact h
  | step _ he hbf ih => exact .step ih he hbf

def on (t : List Bool) (y : Int) : Prop := t.getD y.toNat false = true
theorem on_set {t : List Bool} {a y : Int} (ha : 0 ≤ a ∧ a < t.length) (hy : 0 ≤ y) : on (t.set a.toNat true) y ↔ on t y ∨ y = a := by
  unfold on
  rw [List.getD_eq_getElem?_getD, List.getD_eq_getElem?_getD]
  by_cases h : a.toNat = y.toNat
  · rw [← h, List.getElem?_set_self (by omega)]
    simp; right; omega
  · rw [List.getElem?_set_ne h]
    constructor
    · exact .inl
    · rintro (h2 | h2)
      · exact h2
      · exfalso; apply h; rw [h2]
def cf (t : List Bool) : Nat := t.count false
theorem cf_set (t : List Bool) : ∀ (i : Nat), i < t.length → t.getD i false = false → cf (t.set i true) + 1 = cf t := by
  unfold cf
  induction t with
  | nil => intro i h; simp at h
  | cons x t ih =>
    intro i h hf
    cases i with
    | zero => simp at hf; subst hf; simp
    | succ i =>
      have := ih i (by simpa using h) (by simpa using hf)
      simp only [List.set_cons_succ, List.count_cons]
      omega
theorem cf_mono (t : List Bool) : ∀ (s : List Bool), t.length = s.length → (∀ i, t.getD i false = true → s.getD i false = true) → cf s ≤ cf t := by
  unfold cf
  induction t with
  | nil => intro s h _; have : s = [] := List.length_eq_zero_iff.1 h.symm; subst this; simp
  | cons x t ih =>
    intro s h hm
    cases s with
    | nil => simp at h
    | cons y s =>
      have h1 := ih s (by simpa using h) (fun i => by have := hm (i + 1); simpa using this)
      have h2 := hm 0
      simp only [List.getD_cons_zero] at h2
      simp only [List.count_cons]
      cases x <;> cases y <;> simp_all <;> omega

/-- What is new from t to t'. -/
structure DfsNew (E : Int → Int → Prop) (n : Nat) (t t' : List Bool) (new : List Int) : Prop where
  len : t'.length = t.length
  mark : ∀ y : Int, 0 ≤ y → y < (n : Int) → (on t' y ↔ on t y ∨ y ∈ new)
  rng : ∀ x ∈ new, 0 ≤ x ∧ x < (n : Int)
  fresh : ∀ x ∈ new, ¬ on t x
  nodup : new.Nodup
  closed : ∀ x ∈ new, ∀ y, E x y → on t' y
  back : ∀ x ∈ new, ∀ y ∈ new, E x y → Bef new y x ∨ FP E new y x
theorem DfsNew.nil (E : Int → Int → Prop) (n : Nat) (t : List Bool) : DfsNew E n t t [] :=
  ⟨rfl, (fun y _ _ => by simp), (fun x (h : x ∈ []) => nomatch h), (fun x (h : x ∈ []) => nomatch h), List.nodup_nil, (fun x (h : x ∈ []) => nomatch h), (fun x (h : x ∈ []) => nomatch h)⟩
theorem DfsNew.join {E : Int → Int → Prop} {n : Nat} (hE : ∀ x y, E x y → 0 ≤ y ∧ y < n) {t s u : List Bool} {l m : List Int} (h : DfsNew E n t s l) (k : DfsNew E n s u m) : DfsNew E n t u (l ++ m) := by
  have hsu : ∀ y, 0 ≤ y → y < (n : Int) → on s y → on u y := fun y h0 h1 hy => (k.mark y h0 h1).2 (.inl hy)
  refine ⟨k.len.trans h.len, fun y h0 h1 => ?_, fun x hx => ?_, fun x hx => ?_, ?_, fun x hx y he => ?_, fun x hx y hy he => ?_⟩
  · rw [k.mark y h0 h1, h.mark y h0 h1, List.mem_append, or_assoc]
  · rcases List.mem_append.1 hx with hx | hx
    · exact h.rng x hx
    · exact k.rng x hx
  · rcases List.mem_append.1 hx with hx | hx
    · exact h.fresh x hx
    · have hr := k.rng x hx
      exact fun hy => k.fresh x hx ((h.mark x hr.1 hr.2).2 (.inl hy))
  · rw [List.nodup_append]
    refine ⟨h.nodup, k.nodup, fun x hx y hy e => ?_⟩
    subst e
    have hr := h.rng x hx
    exact k.fresh x hy ((h.mark x hr.1 hr.2).2 (.inr hx))
  · have hr := hE x y he
    rcases List.mem_append.1 hx with hx | hx
    · exact hsu y hr.1 hr.2 (h.closed x hx y he)
    · exact k.closed x hx y he
  · rcases List.mem_append.1 hx with hx | hx <;> rcases List.mem_append.1 hy with hy | hy
    · exact (h.back x hx y hy he).imp (fun b => b.left m) (fun f => f.mono (fun a b hb => hb.left m))
    · exact absurd (h.closed x hx y he) (k.fresh y hy)
    · exact .inl (Bef.cross hy hx)
    · exact (k.back x hx y hy he).imp (fun b => b.right l) (fun f => f.mono (fun a b hb => hb.right l))

def RE (rows : List (List Int)) (x y : Int) : Prop := 0 ≤ x ∧ y ∈ rows.getD x.toNat []
theorem RE_in {rows : List (List Int)} {n : Nat} (hrows : ∀ row ∈ rows, ∀ b ∈ row, 0 ≤ b ∧ b < (n : Int)) (x y : Int) (h : RE rows x y) : 0 ≤ y ∧ y < (n : Int) := by
  obtain ⟨_, h⟩ := h
  rcases Nat.lt_or_ge x.toNat rows.length with hl | hl
  · rw [List.getD_eq_getElem?_getD, List.getElem?_eq_getElem hl] at h
    exact hrows _ (List.getElem_mem hl) y h
  · rw [List.getD_eq_getElem?_getD, List.getElem?_eq_none hl] at h
    cases h
def oStep (rows : List (List Int)) (k : Nat) (s : List Bool × List Int) (b : Int) : Option (List Bool × List Int) :=
  if s.1.getD b.toNat false = true then some s else overL rows k b s
theorem oL_eq (rows : List (List Int)) (k : Nat) (a : Int) (s : List Bool × List Int) :
    overL rows (k + 1) a s = ((rows.getD a.toNat []).foldlM (oStep rows k) (s.1.set a.toNat true, s.2)).map fun s => (s.1, s.2 ++ [a]) := rfl

theorem dfs (rows : List (List Int)) (n : Nat) (hrows : ∀ row ∈ rows, ∀ b ∈ row, 0 ≤ b ∧ b < (n : Int)) : ∀ (k : Nat) (a : Int) (t : List Bool) (o : List Int), t.length = n → 0 ≤ a → a < n → ¬ on t a → cf t ≤ k →
    ∃ t' new, overL rows k a (t, o) = some (t', o ++ (new ++ [a])) ∧ DfsNew (RE rows) n t t' (new ++ [a]) ∧ ∀ x ∈ new ++ [a], FP (RE rows) (new ++ [a]) a x := by
  have hE := RE_in hrows
  intro k
  induction k with
  | zero =>
    intro a t o hl h0 h1 hn hc
    have h2 := cf_set t a.toNat (by omega) (by unfold on at hn; simpa using hn)
    omega
  | succ k ih =>
    have key : ∀ (l : List Int) (t : List Bool) (o : List Int), (∀ b ∈ l, 0 ≤ b ∧ b < (n : Int)) → t.length = n → cf t ≤ k →
        ∃ t' new, l.foldlM (oStep rows k) (t, o) = some (t', o ++ new) ∧ DfsNew (RE rows) n t t' new ∧ (∀ b ∈ l, on t' b) ∧ ∀ x ∈ new, ∃ b, b ∈ l ∧ b ∈ new ∧ FP (RE rows) new b x := by
      intro l
      induction l with
      | nil => intro t o _ hl _; exact ⟨t, [], by simp [pure], DfsNew.nil _ _ _, (fun b (hb : b ∈ []) => by cases hb), (fun x (hx : x ∈ []) => by cases hx)⟩
      | cons b l ihl =>
        intro t o hb hl hc
        have hbr := hb b List.mem_cons_self
        by_cases ht : on t b
        · obtain ⟨t', new, h1, h2, h3, h4⟩ := ihl t o (fun x hx => hb x (List.mem_cons_of_mem _ hx)) hl hc
          refine ⟨t', new, ?_, h2, fun x hx => ?_, fun x hx => ?_⟩
          · rw [List.foldlM_cons, show oStep rows k (t, o) b = some (t, o) from by unfold oStep; exact if_pos ht]
            exact h1
          · rcases List.mem_cons.1 hx with rfl | hx
            · exact (h2.mark x hbr.1 hbr.2).2 (.inl ht)
            · exact h3 x hx
          · obtain ⟨c, hc1, hc2, hc3⟩ := h4 x hx
            exact ⟨c, List.mem_cons_of_mem _ hc1, hc2, hc3⟩
        · obtain ⟨t1, new1, g1, g2, g3⟩ := ih b t o hl hbr.1 hbr.2 ht hc
          have hl1 : t1.length = n := g2.len.trans hl
          have hc1 : cf t1 ≤ k := by
            refine Nat.le_trans (cf_mono t t1 g2.len.symm (fun i hi => ?_)) hc
            have hin : i < n := by
              rcases Nat.lt_or_ge i t.length with h | h
              · omega
              · rw [List.getD_eq_getElem?_getD, List.getElem?_eq_none h] at hi; cases hi
            have := (g2.mark (i : Int) (by omega) (by omega)).2 (.inl (by unfold on; simpa using hi))
            unfold on at this
            simpa using this
          obtain ⟨t', new, h1, h2, h3, h4⟩ := ihl t1 (o ++ (new1 ++ [b])) (fun x hx => hb x (List.mem_cons_of_mem _ hx)) hl1 hc1
          refine ⟨t', (new1 ++ [b]) ++ new, ?_, g2.join hE h2, fun x hx => ?_, fun x hx => ?_⟩
          · rw [List.foldlM_cons, show oStep rows k (t, o) b = some (t1, o ++ (new1 ++ [b])) from by unfold oStep; exact (if_neg ht).trans g1]
            show List.foldlM (oStep rows k) (t1, o ++ (new1 ++ [b])) l = _
            rw [h1, List.append_assoc o]
          · rcases List.mem_cons.1 hx with rfl | hx
            · exact (h2.mark x hbr.1 hbr.2).2 (.inl ((g2.mark x hbr.1 hbr.2).2 (.inr (by simp))))
            · exact h3 x hx
          · rcases List.mem_append.1 hx with hx | hx
            · exact ⟨b, List.mem_cons_self, by simp, (g3 x hx).mono (fun _ _ hb => hb.left _)⟩
            · obtain ⟨c, hc1, hc2, hc3⟩ := h4 x hx
              exact ⟨c, List.mem_cons_of_mem _ hc1, List.mem_append_right _ hc2, hc3.mono (fun _ _ hb => hb.right _)⟩
    intro a t o hl h0 h1 hn hc
    have h2 := cf_set t a.toNat (by omega) (by unfold on at hn; simpa using hn)
    have hrow : ∀ b ∈ rows.getD a.toNat [], 0 ≤ b ∧ b < (n : Int) := fun b hb => hE a b ⟨h0, hb⟩
    obtain ⟨t', new, g1, g2, g3, g4⟩ := key (rows.getD a.toNat []) (t.set a.toNat true) o hrow (by simpa using hl) (by omega)
    have hset : ∀ y, 0 ≤ y → (on (t.set a.toNat true) y ↔ on t y ∨ y = a) := fun y hy => on_set ⟨h0, by omega⟩ hy
    have hroot : ∀ x ∈ new ++ [a], FP (RE rows) (new ++ [a]) a x := by
      intro x hx
      rcases List.mem_append.1 hx with hx | hx
      · obtain ⟨b, hb1, hb2, hb3⟩ := g4 x hx
        exact (FP.step .refl ⟨h0, hb1⟩ (Bef.cross hb2 (by simp))).trans (hb3.mono (fun _ _ hb => hb.left _))
      · rw [List.mem_singleton.1 hx]; exact .refl
    refine ⟨t', new, ?_, ⟨?_, fun y hy0 hy1 => ?_, fun x hx => ?_, fun x hx => ?_, ?_, fun x hx y he => ?_, fun x hx y hy he => ?_⟩, hroot⟩
    · rw [oL_eq, g1]
      simp
    · rw [g2.len]; simp
    · rw [g2.mark y hy0 hy1, hset y hy0, List.mem_append, List.mem_singleton]
      constructor
      · rintro ((h | h) | h)
        · exact .inl h
        · exact .inr (.inr h)
        · exact .inr (.inl h)
      · rintro (h | h | h)
        · exact .inl (.inl h)
        · exact .inr h
        · exact .inl (.inr h)
    · rcases List.mem_append.1 hx with hx | hx
      · exact g2.rng x hx
      · rw [List.mem_singleton.1 hx]; exact ⟨h0, h1⟩
    · rcases List.mem_append.1 hx with hx | hx
      · exact fun hy => g2.fresh x hx ((hset x (g2.rng x hx).1).2 (.inl hy))
      · rw [List.mem_singleton.1 hx]; exact hn
    · rw [List.nodup_append]
      refine ⟨g2.nodup, by simp, fun x hx y hy e => ?_⟩
      rw [List.mem_singleton.1 hy] at e
      exact g2.fresh x hx ((hset x (g2.rng x hx).1).2 (.inr e))
    · rcases List.mem_append.1 hx with hx | hx
      · exact g2.closed x hx y he
      · rw [List.mem_singleton.1 hx] at he
        exact g3 y he.2
    · rcases List.mem_append.1 hx with hx | hx
      · rcases List.mem_append.1 hy with hy | hy
        · exact (g2.back x hx y hy he).imp (fun b => b.left _) (fun f => f.mono (fun _ _ hb => hb.left _))
        · rw [List.mem_singleton.1 hy]
          exact .inr (hroot x (List.mem_append_left _ hx))
      · rw [List.mem_singleton.1 hx] at he ⊢
        rcases List.mem_append.1 hy with hy | hy
        · exact .inl (Bef.cross hy (by simp))
        · rw [List.mem_singleton.1 hy]; exact .inr .refl
end Go.Proofs.Ytnmeomdjhjgnfaa.X
end
section
/-! Plain: an order of blocks by places. -/
set_option linter.unusedVariables false
set_option linter.unusedSimpArgs false
namespace Go.Proofs.Ytnmeomdjhjgnfaa.X
open Go.RowKit Go.Proofs.YtnmeomdjhjgnfaaW.PrintWords Go.Proofs.YtnmeomdjhjgnfaaW.PrintLast Go.Proofs.YtnmeomdjhjgnfaaW.PrintMore

/-- The block at a place. -/
def at_ (o : List Int) (i : Nat) : Int := o.getD i 0
/-- From place j on to place i, by edges that go on. -/
inductive FW (E : Int → Int → Prop) (o : List Int) (j : Nat) : Nat → Prop
  | refl : FW E o j j
  | step {z x : Nat} : FW E o j z → E (at_ o z) (at_ o x) → z < x → x < o.length → FW E o j x
structure Ordd (E : Int → Int → Prop) (n : Nat) (o : List Int) : Prop where
  nodup : o.Nodup
  rng : ∀ x ∈ o, 0 ≤ x ∧ x < (n : Int)
  pos : 0 < o.length
  head : at_ o 0 = 0
  closed : ∀ x ∈ o, ∀ y, E x y → y ∈ o
  fwd : ∀ i, 0 < i → i < o.length → ∃ j, j < i ∧ E (at_ o j) (at_ o i)
  back : ∀ i j, i < o.length → j < o.length → E (at_ o i) (at_ o j) → i < j ∨ FW E o j i
theorem at_mem {o : List Int} {i : Nat} (h : i < o.length) : at_ o i ∈ o := by
  unfold at_
  rw [List.getD_eq_getElem?_getD, List.getElem?_eq_getElem h]
  exact List.getElem_mem h
theorem at_inj {o : List Int} (hn : o.Nodup) {i j : Nat} (hi : i < o.length) (hj : j < o.length) (h : at_ o i = at_ o j) : i = j := by
  unfold at_ at h
  rw [List.getD_eq_getElem?_getD, List.getElem?_eq_getElem hi, List.getD_eq_getElem?_getD, List.getElem?_eq_getElem hj] at h
  have hp := List.pairwise_iff_getElem.1 hn
  rcases Nat.lt_trichotomy i j with hlt | hlt | hlt
  · exact absurd h (hp i j hi hj hlt)
  · exact hlt
  · exact absurd h.symm (hp j i hj hi hlt)
theorem mem_at {o : List Int} {x : Int} (h : x ∈ o) : ∃ i, i < o.length ∧ at_ o i = x := by
  obtain ⟨i, hi, rfl⟩ := List.getElem_of_mem h
  exact ⟨i, hi, by unfold at_; rw [List.getD_eq_getElem?_getD, List.getElem?_eq_getElem hi]; rfl⟩
theorem bef_place {L : List Int} (hn : L.Nodup) {i j : Nat} (hi : i < L.reverse.length) (hj : j < L.reverse.length) (h : Bef L (at_ L.reverse i) (at_ L.reverse j)) : j < i := by
  obtain ⟨l1, l2, rfl, h1, h2⟩ := h
  have hr : (l1 ++ l2).reverse.Nodup := (List.reverse_perm _).nodup_iff.2 hn
  have e : (l1 ++ l2).reverse = l2.reverse ++ l1.reverse := List.reverse_append
  obtain ⟨j', hj', ej⟩ := mem_at (List.mem_reverse.2 h2)
  obtain ⟨i', hi', ei⟩ := mem_at (List.mem_reverse.2 h1)
  have ej2 : at_ (l1 ++ l2).reverse j' = at_ (l1 ++ l2).reverse j := by
    rw [← ej, e]
    unfold at_
    rw [List.getD_eq_getElem?_getD, List.getElem?_append_left hj', ← List.getD_eq_getElem?_getD]
  have ei2 : at_ (l1 ++ l2).reverse (l2.reverse.length + i') = at_ (l1 ++ l2).reverse i := by
    rw [← ei, e]
    unfold at_
    rw [List.getD_eq_getElem?_getD, List.getElem?_append_right (by omega), Nat.add_sub_cancel_left, ← List.getD_eq_getElem?_getD]
  have h3 := at_inj hr (by rw [e, List.length_append]; omega) hj ej2
  have h4 := at_inj hr (by rw [e, List.length_append]; omega) hi ei2
  omega
theorem fp_fw {E : Int → Int → Prop} {L : List Int} (hn : L.Nodup) (hm : ∀ y x, Bef L y x → y ∈ L ∧ x ∈ L) {y x : Int} (h : FP E L y x) : ∀ j i, j < L.reverse.length → i < L.reverse.length → at_ L.reverse j = y → at_ L.reverse i = x → FW E L.reverse j i := by
  have hr : L.reverse.Nodup := (List.reverse_perm _).nodup_iff.2 hn
  induction h with
  | refl =>
    intro j i hj hi ej ei
    obtain rfl := at_inj hr hj hi (ej.trans ei.symm)
    exact .refl
  | @step z x _ he hb ih =>
    intro j i hj hi ej ei
    obtain ⟨k, hk, ek⟩ := mem_at (List.mem_reverse.2 (hm _ _ hb).2)
    refine .step (ih j k hj hk ej ek) (by rw [ek, ei]; exact he) ?_ hi
    exact bef_place hn hi hk (by rw [ek, ei]; exact hb)
theorem bef_mem {L : List Int} {y x : Int} (h : Bef L y x) : y ∈ L ∧ x ∈ L := by
  obtain ⟨l1, l2, rfl, h1, h2⟩ := h
  exact ⟨by simp [h1], by simp [h2]⟩
/-- The order that a walk from block 0 leaves. -/
theorem order_of (rows : List (List Int)) (n : Nat) (hn0 : 0 < n) (hrows : ∀ row ∈ rows, ∀ b ∈ row, 0 ≤ b ∧ b < (n : Int)) (k : Nat) (hk : n ≤ k) :
    ∃ t o, overL rows k 0 (List.replicate n false, []) = some (t, o) ∧ Ordd (RE rows) n o.reverse := by
  obtain ⟨t, new, h1, h2, h3⟩ := dfs rows n hrows k 0 (List.replicate n false) [] (by simp) (by omega) (by omega) (by unfold on; simp [List.getD_eq_getElem?_getD, List.getElem?_replicate, hn0]) (by unfold cf; simp; omega)
  have hr : (new ++ [0]).reverse.Nodup := (List.reverse_perm _).nodup_iff.2 h2.nodup
  refine ⟨t, new ++ [0], by rw [h1]; rfl, hr, fun x hx => h2.rng x (List.mem_reverse.1 hx), by simp, by simp [at_], fun x hx y he => ?_, fun i h0 hi => ?_, fun i j hi hj he => ?_⟩
  · have hy := RE_in hrows x y he
    have h4 := (h2.mark y hy.1 hy.2).1 (h2.closed x (List.mem_reverse.1 hx) y he)
    refine List.mem_reverse.2 (h4.resolve_left (fun h => ?_))
    unfold on at h
    rw [List.getD_eq_getElem?_getD, List.getElem?_replicate] at h
    split at h <;> cases h
  · have hx := at_mem hi
    have h4 := h3 _ (List.mem_reverse.1 hx)
    obtain ⟨y, hy⟩ : ∃ y, at_ (new ++ [0]).reverse i = y := ⟨_, rfl⟩
    rw [hy] at h4 ⊢
    cases h4 with
    | refl =>
      exfalso
      have h6 : at_ (new ++ [0]).reverse i = at_ (new ++ [0]).reverse 0 := by
        rw [hy]
        simp [at_]
      have := at_inj hr hi (by simp) h6
      omega
    | @step z x _ he hb =>
      obtain ⟨j, hj, ej⟩ := mem_at (List.mem_reverse.2 (bef_mem hb).2)
      exact ⟨j, bef_place h2.nodup hi hj (by rw [ej, hy]; exact hb), by rw [ej]; exact he⟩
  · rcases h2.back _ (List.mem_reverse.1 (at_mem hi)) _ (List.mem_reverse.1 (at_mem hj)) he with hb | hf
    · exact .inl (bef_place h2.nodup hj hi hb)
    · exact .inr (fp_fw h2.nodup (fun _ _ h => bef_mem h) hf j i hj hi rfl rfl)
end Go.Proofs.Ytnmeomdjhjgnfaa.X
end
section
/-! Plain: chains of parents, the nearest one of two chains, and how sweeps come to rest. -/
set_option linter.unusedVariables false
namespace Go.Proofs.Ytnmeomdjhjgnfaa.X

/-- z stands on u's chain. -/
inductive An (par : Nat → Nat) (z : Nat) : Nat → Prop
  | refl : An par z z
  | up {u : Nat} : 0 < u → An par z (par u) → An par z u
/-- Parents stand ahead. -/
def Dn (par : Nat → Nat) : Prop := ∀ u, 0 < u → par u < u
theorem An.le {par : Nat → Nat} (hd : Dn par) {z u : Nat} (h : An par z u) : z ≤ u := by
  induction h with
  | refl => exact Nat.le_refl _
  | up h0 _ ih => have := hd _ h0; omega
theorem An.trans {par : Nat → Nat} {z w u : Nat} (h : An par z w) (k : An par w u) : An par z u := by
  induction k with
  | refl => exact h
  | up h0 _ ih => exact .up h0 ih
theorem An.inv {par : Nat → Nat} {z u : Nat} (h : An par z u) : z = u ∨ (0 < u ∧ An par z (par u)) := by
  cases h with
  | refl => exact .inl rfl
  | up h0 h => exact .inr ⟨h0, h⟩
theorem An.linear {par : Nat → Nat} (hd : Dn par) {z w u : Nat} (h : An par z u) (k : An par w u) (hle : z ≤ w) : An par z w := by
  induction k with
  | refl => exact h
  | @up u h0 k ih =>
    rcases h.inv with rfl | ⟨_, h⟩
    · have h1 := k.le hd
      have h2 := hd _ h0
      omega
    · exact ih h
theorem An.root {par : Nat → Nat} (hd : Dn par) : ∀ (n u : Nat), u ≤ n → An par 0 u
  | 0, u, h => by obtain rfl : u = 0 := by omega
                  exact .refl
  | n + 1, u, h => by
    rcases Nat.eq_zero_or_pos u with rfl | h0
    · exact .refl
    · exact .up h0 (An.root hd n (par u) (by have := hd u h0; omega))
theorem An.of_zero {par : Nat → Nat} (hd : Dn par) {z : Nat} (h : An par z 0) : z = 0 := by have := h.le hd; omega

/-- The nearest one of two chains. -/
def com (par : Nat → Nat) : Nat → Nat → Nat → Nat
  | 0, a, _ => a
  | k + 1, a, b => if b < a then com par k (par a) b else if a < b then com par k a (par b) else a
theorem com_an {par : Nat → Nat} (hd : Dn par) : ∀ (k a b : Nat), a + b < k → ∀ z, An par z (com par k a b) ↔ An par z a ∧ An par z b
  | 0, _, _, h, _ => by omega
  | k + 1, a, b, h, z => by
    rw [com]
    by_cases h1 : b < a
    · have h2 := hd a (by omega)
      rw [if_pos h1, com_an hd k (par a) b (by omega) z]
      constructor
      · exact fun ⟨x, y⟩ => ⟨.up (by omega) x, y⟩
      · rintro ⟨x, y⟩
        rcases x.inv with rfl | ⟨_, x⟩
        · have := y.le hd; omega
        · exact ⟨x, y⟩
    · rw [if_neg h1]
      by_cases h3 : a < b
      · have h2 := hd b (by omega)
        rw [if_pos h3, com_an hd k a (par b) (by omega) z]
        constructor
        · exact fun ⟨x, y⟩ => ⟨x, .up (by omega) y⟩
        · rintro ⟨x, y⟩
          rcases y.inv with rfl | ⟨_, y⟩
          · have := x.le hd; omega
          · exact ⟨x, y⟩
      · rw [if_neg h3]
        obtain rfl : a = b := by omega
        exact ⟨fun x => ⟨x, x⟩, fun x => x.1⟩
theorem com_dom {par : Nat → Nat} (hd : Dn par) {Dm : Nat → Nat → Prop} (hle : ∀ d u, Dm d u → d ≤ u) (d : Nat) : ∀ (k a b : Nat), (∀ u, 0 < u → u ≤ max a b → Dm d u → d ≠ u → Dm d (par u)) → Dm d a → Dm d b → Dm d (com par k a b)
  | 0, _, _, _, ha, _ => ha
  | k + 1, a, b, hB, ha, hb => by
    rw [com]
    by_cases h1 : b < a
    · rw [if_pos h1]
      have h2 := hd a (by omega)
      refine com_dom hd hle d k (par a) b (fun u h0 hu => hB u h0 (by omega)) (hB a (by omega) (by omega) ha (fun e => ?_)) hb
      have := hle d b hb
      omega
    · rw [if_neg h1]
      by_cases h3 : a < b
      · rw [if_pos h3]
        have h2 := hd b (by omega)
        refine com_dom hd hle d k a (par b) (fun u h0 hu => hB u h0 (by omega)) ha (hB b (by omega) (by omega) hb (fun e => ?_))
        have := hle d a ha
        omega
      · rw [if_neg h3]; exact ha
/-- The nearest one of several: of p and those behind it. -/
def nca (par : Nat → Nat) (K p : Nat) (ps : List Nat) : Nat := ps.foldl (com par K) p
theorem com_le {par : Nat → Nat} (hd : Dn par) (K a b : Nat) (h : a + b < K) : com par K a b ≤ a ∧ com par K a b ≤ b := by
  have := (com_an hd K a b h (com par K a b)).1 .refl
  exact ⟨this.1.le hd, this.2.le hd⟩
theorem nca_an {par : Nat → Nat} (hd : Dn par) (m : Nat) : ∀ (ps : List Nat) (p : Nat), p < m → (∀ q ∈ ps, q < m) → ∀ z, An par z (nca par (2 * m) p ps) ↔ An par z p ∧ ∀ q ∈ ps, An par z q
  | [], p, _, _, z => by simp [nca]
  | q :: ps, p, hp, hq, z => by
    have h1 := hq q List.mem_cons_self
    have h2 := com_le hd (2 * m) p q (by omega)
    have ih := nca_an hd m ps (com par (2 * m) p q) (by omega) (fun x hx => hq x (List.mem_cons_of_mem _ hx)) z
    unfold nca at ih ⊢
    rw [List.foldl_cons, ih, com_an hd (2 * m) p q (by omega) z]
    constructor
    · rintro ⟨⟨x, y⟩, h⟩
      refine ⟨x, fun w hw => ?_⟩
      rcases List.mem_cons.1 hw with rfl | hw
      · exact y
      · exact h w hw
    · rintro ⟨x, h⟩
      exact ⟨⟨x, h q List.mem_cons_self⟩, fun w hw => h w (List.mem_cons_of_mem _ hw)⟩
theorem nca_dom {par : Nat → Nat} (hd : Dn par) {Dm : Nat → Nat → Prop} (hle : ∀ d u, Dm d u → d ≤ u) (m i d : Nat) (hi : i ≤ m) (hB : ∀ u, 0 < u → u < i → Dm d u → d ≠ u → Dm d (par u)) : ∀ (ps : List Nat) (p : Nat), p < i → (∀ q ∈ ps, q < i) → Dm d p → (∀ q ∈ ps, Dm d q) → Dm d (nca par (2 * m) p ps)
  | [], p, _, _, h, _ => h
  | q :: ps, p, hp, hq, h, hs => by
    have h1 := hq q List.mem_cons_self
    have h2 := com_le hd (2 * m) p q (by omega)
    have h3 := com_dom hd hle d (2 * m) p q (fun u h0 hu => hB u h0 (by omega)) h (hs q List.mem_cons_self)
    exact nca_dom hd hle m i d hi hB ps (com par (2 * m) p q) (by omega) (fun x hx => hq x (List.mem_cons_of_mem _ hx)) h3 (fun x hx => hs x (List.mem_cons_of_mem _ hx))

/-! ### one parent is turned -/
def upd (par : Nat → Nat) (b v : Nat) : Nat → Nat := fun u => if u = b then v else par u
theorem upd_dn {par : Nat → Nat} (hd : Dn par) {b v : Nat} (hv : v < b) : Dn (upd par b v) := by
  intro u h0
  unfold upd
  split
  · omega
  · exact hd u h0
theorem an_upd_lt {par : Nat → Nat} (hd : Dn par) {b v z : Nat} (hv : v < b) {u : Nat} (hu : u < b) : An (upd par b v) z u ↔ An par z u := by
  constructor
  · intro h
    induction h with
    | refl => exact .refl
    | @up u h0 _ ih =>
      have e : upd par b v u = par u := by unfold upd; rw [if_neg (by omega)]
      rw [e] at ih
      exact .up h0 (ih (by have := hd u h0; omega))
  · intro h
    induction h with
    | refl => exact .refl
    | @up u h0 _ ih =>
      have e : upd par b v u = par u := by unfold upd; rw [if_neg (by omega)]
      exact .up h0 (by rw [e]; exact ih (by have := hd u h0; omega))
theorem an_upd_off {par : Nat → Nat} {b v z u : Nat} (hu : ¬ An par b u) : An (upd par b v) z u ↔ An par z u := by
  constructor
  · intro h
    induction h with
    | refl => exact .refl
    | @up u h0 _ ih =>
      have hb : u ≠ b := fun e => hu (e ▸ .refl)
      have e : upd par b v u = par u := by unfold upd; rw [if_neg hb]
      rw [e] at ih
      exact .up h0 (ih (fun h => hu (.up h0 h)))
  · intro h
    induction h with
    | refl => exact .refl
    | @up u h0 _ ih =>
      have hb : u ≠ b := fun e => hu (e ▸ .refl)
      have e : upd par b v u = par u := by unfold upd; rw [if_neg hb]
      exact .up h0 (by rw [e]; exact ih (fun h => hu (.up h0 h)))
theorem an_upd_at {par : Nat → Nat} (hd : Dn par) {b v z : Nat} (h0 : 0 < b) (hv : v < b) : An (upd par b v) z b ↔ z = b ∨ An par z v := by
  have e : upd par b v b = v := by unfold upd; rw [if_pos rfl]
  constructor
  · intro h
    rcases h.inv with h | ⟨_, h⟩
    · exact .inl h
    · rw [e] at h; exact .inr ((an_upd_lt hd hv hv).1 h)
  · rintro (rfl | h)
    · exact .refl
    · exact .up h0 (by rw [e]; exact (an_upd_lt hd hv hv).2 h)
theorem an_upd_on {par : Nat → Nat} (hd : Dn par) {b v z u : Nat} (h0 : 0 < b) (hv : v < b) (hu : An par b u) : An (upd par b v) z u ↔ (b ≤ z ∧ An par z u) ∨ An par z v := by
  induction hu with
  | refl =>
    rw [an_upd_at hd h0 hv]
    constructor
    · rintro (rfl | h)
      · exact .inl ⟨Nat.le_refl _, .refl⟩
      · exact .inr h
    · rintro (⟨h1, h2⟩ | h)
      · exact .inl (by have := h2.le hd; omega)
      · exact .inr h
  | @up u hu0 hb ih =>
    have hbu : b < u := by have := hb.le hd; have := hd u hu0; omega
    have e : upd par b v u = par u := by unfold upd; rw [if_neg (by omega)]
    constructor
    · intro h
      rcases h.inv with rfl | ⟨_, h⟩
      · exact .inl ⟨by omega, .refl⟩
      · rw [e] at h
        rcases ih.1 h with ⟨h1, h2⟩ | h
        · exact .inl ⟨h1, .up hu0 h2⟩
        · exact .inr h
    · rintro (⟨h1, h2⟩ | h)
      · rcases h2.inv with rfl | ⟨_, h2⟩
        · exact .refl
        · exact .up hu0 (by rw [e]; exact ih.2 (.inl ⟨h1, h2⟩))
      · exact .up hu0 (by rw [e]; exact ih.2 (.inr h))
/-- Where the new parent stands on the old one's chain, chains only lose. -/
theorem an_upd_le {par : Nat → Nat} (hd : Dn par) {b v z u : Nat} (h0 : 0 < b) (hv : An par v (par b)) (h : An (upd par b v) z u) : An par z u := by
  have hvb : v < b := by have := hv.le hd; have := hd b h0; omega
  by_cases hu : An par b u
  · rcases (an_upd_on hd h0 hvb hu).1 h with ⟨_, h⟩ | h
    · exact h
    · exact (h.trans hv).trans ((An.up h0 .refl : An par (par b) b).trans hu)
  · exact (an_upd_off hu).1 h
end Go.Proofs.Ytnmeomdjhjgnfaa.X
namespace Go.Proofs.Ytnmeomdjhjgnfaa.X
/-! ### sweeps -/
/-- m blocks by their places in the order; P: the places from which each one comes; Dm: who dominates. -/
structure Gr (m : Nat) (P : Nat → List Nat) (Dm : Nat → Nat → Prop) : Prop where
  inb : ∀ u, u < m → ∀ p ∈ P u, p < m
  fwd : ∀ u, 0 < u → u < m → ∃ s, s ∈ P u ∧ s < u
  dle : ∀ d u, Dm d u → d ≤ u
  dstep : ∀ d u, 0 < u → u < m → Dm d u → d ≠ u → ∀ p ∈ P u, Dm d p
/-- What holds while a later sweep goes, the places below i done. -/
structure Swp (m : Nat) (P : Nat → List Nat) (Dm : Nat → Nat → Prop) (i : Nat) (par : Nat → Nat) : Prop where
  dn : Dn par
  dom : ∀ u, 0 < u → u < m → ∀ d, Dm d u → d ≠ u → Dm d (par u)
  low : ∀ u, 0 < u → u < m → ∀ z, (∀ p ∈ P u, An par z p) → z ≤ par u
  old : ∀ u, 0 < u → u < m → ∃ s, s ∈ P u ∧ s < u ∧ ((u < i → An par (par u) s) ∧ (An par (par u) s ∨ (par u < i ∧ ∀ z, An par z s → z ≤ par u → An par z (par u))))
theorem Swp.step {m : Nat} {P : Nat → List Nat} {Dm : Nat → Nat → Prop} (G : Gr m P Dm) {i : Nat} {par : Nat → Nat} (h : Swp m P Dm i par) (h0 : 0 < i) (hm : i < m) {p : Nat} {ps : List Nat} (hP : P i = p :: ps) :
    nca par (2 * m) p ps ≤ par i ∧ Swp m P Dm (i + 1) (upd par i (nca par (2 * m) p ps)) := by
  obtain ⟨v, hv⟩ : ∃ v, nca par (2 * m) p ps = v := ⟨_, rfl⟩
  have hp : p < m := G.inb i hm p (by rw [hP]; exact List.mem_cons_self)
  have hps : ∀ q ∈ ps, q < m := fun q hq => G.inb i hm q (by rw [hP]; exact List.mem_cons_of_mem _ hq)
  have hvA : ∀ z, An par z v ↔ ∀ q ∈ P i, An par z q := by
    intro z
    rw [← hv, nca_an h.dn m ps p hp hps z, hP]
    simp
  have hvv := (hvA v).1 .refl
  rw [hv]
  have hlow : v ≤ par i := h.low i h0 hm v hvv
  have hvi : v < i := by have := h.dn i h0; omega
  have hvp : An par v (par i) := by
    obtain ⟨s, hs, _, _, ho⟩ := h.old i h0 hm
    rcases ho with ho | ⟨_, ho⟩
    · exact (hvv s hs).linear h.dn ho hlow
    · exact ho v (hvv s hs) hlow
  have hle : ∀ {z u}, An (upd par i v) z u → An par z u := fun hz => an_upd_le h.dn h0 hvp hz
  have e : ∀ u, u ≠ i → upd par i v u = par u := fun u hu => by unfold upd; rw [if_neg hu]
  have ei : upd par i v i = v := by unfold upd; rw [if_pos rfl]
  refine ⟨hlow, upd_dn h.dn hvi, fun u hu0 hum d hd hne => ?_, fun u hu0 hum z hz => ?_, fun u hu0 hum => ?_⟩
  · by_cases hu : u = i
    · subst hu
      rw [ei, ← hv]
      exact nca_dom h.dn G.dle m m d (Nat.le_refl _) (fun u h0 hm hd hne => h.dom u h0 hm d hd hne) ps p hp hps (G.dstep d u h0 hm hd hne p (by rw [hP]; exact List.mem_cons_self)) (fun q hq => G.dstep d u h0 hm hd hne q (by rw [hP]; exact List.mem_cons_of_mem _ hq))
    · rw [e u hu]; exact h.dom u hu0 hum d hd hne
  · by_cases hu : u = i
    · subst hu
      rw [ei]
      exact ((hvA z).2 (fun q hq => hle (hz q hq))).le h.dn
    · rw [e u hu]; exact h.low u hu0 hum z (fun q hq => hle (hz q hq))
  · obtain ⟨s, hs, hsu, ho1, ho2⟩ := h.old u hu0 hum
    rcases Nat.lt_trichotomy u i with hu | hu | hu
    · have h1 : An (upd par i v) (par u) s := (an_upd_lt h.dn hvi (by omega)).2 (ho1 hu)
      rw [e u (by omega)]
      exact ⟨s, hs, hsu, fun _ => h1, .inl h1⟩
    · subst hu
      rw [ei]
      have h1 : An (upd par u v) v s := (an_upd_lt h.dn hvi hsu).2 (hvv s hs)
      exact ⟨s, hs, hsu, fun _ => h1, .inl h1⟩
    · rw [e u (by omega)]
      refine ⟨s, hs, hsu, fun hlt => by omega, ?_⟩
      rcases ho2 with ho | ⟨ho, hq⟩
      · by_cases hb : An par i s
        · by_cases hge : i ≤ par u
          · exact .inl ((an_upd_on h.dn h0 hvi hb).2 (.inl ⟨hge, ho⟩))
          · refine .inr ⟨by omega, fun z hz hzo => ?_⟩
            have hzv : An par z v := by
              rcases (an_upd_on h.dn h0 hvi hb).1 hz with ⟨h1, _⟩ | h1
              · omega
              · exact h1
            have hoi : An par (par u) i := ho.linear h.dn hb (by omega)
            have hop : An par (par u) (par i) := by
              rcases hoi.inv with h1 | ⟨_, h1⟩
              · omega
              · exact h1
            have h1 : An par z (par u) := (hzv.trans hvp).linear h.dn hop hzo
            exact (an_upd_lt h.dn hvi (by omega)).2 h1
        · exact .inl ((an_upd_off hb).2 ho)
      · exact .inr ⟨by omega, fun z hz hzo => (an_upd_lt h.dn hvi ho).2 (hq z (hle hz) hzo)⟩
/-- A sweep's end is the next one's start. -/
theorem Swp.again {m : Nat} {P : Nat → List Nat} {Dm : Nat → Nat → Prop} {par : Nat → Nat} (h : Swp m P Dm m par) : Swp m P Dm 1 par :=
  ⟨h.dn, h.dom, h.low, fun u h0 hm => by
    obtain ⟨s, hs, hsu, h1, _⟩ := h.old u h0 hm
    exact ⟨s, hs, hsu, fun hlt => by omega, .inl (h1 hm)⟩⟩
/-- What holds while the first sweep goes. -/
structure Fst (m : Nat) (P : Nat → List Nat) (Dm : Nat → Nat → Prop) (i : Nat) (par : Nat → Nat) : Prop where
  dn : Dn par
  dom : ∀ u, 0 < u → u < i → ∀ d, Dm d u → d ≠ u → Dm d (par u)
  low : ∀ u, 0 < u → u < i → ∀ z, (∀ p ∈ P u, p < u → An par z p) → z ≤ par u
  old : ∀ u, 0 < u → u < i → ∃ s, s ∈ P u ∧ s < u ∧ An par (par u) s
theorem Fst.start (m : Nat) (P : Nat → List Nat) (Dm : Nat → Nat → Prop) : Fst m P Dm 1 (fun _ => 0) :=
  ⟨fun u h => h, fun u h0 h1 => by omega, fun u h0 h1 => by omega, fun u h0 h1 => by omega⟩
theorem Fst.step {m : Nat} {P : Nat → List Nat} {Dm : Nat → Nat → Prop} (G : Gr m P Dm) {i : Nat} {par : Nat → Nat} (h : Fst m P Dm i par) (h0 : 0 < i) (hm : i < m) {p : Nat} {ps : List Nat} (hP : (P i).filter (fun q => decide (q < i)) = p :: ps) :
    Fst m P Dm (i + 1) (upd par i (nca par (2 * m) p ps)) := by
  obtain ⟨v, hv⟩ : ∃ v, nca par (2 * m) p ps = v := ⟨_, rfl⟩
  have hmem : ∀ q, q ∈ p :: ps ↔ q ∈ P i ∧ q < i := fun q => by rw [← hP, List.mem_filter]; simp
  have hp : p ∈ P i ∧ p < i := (hmem p).1 List.mem_cons_self
  have hps : ∀ q ∈ ps, q ∈ P i ∧ q < i := fun q hq => (hmem q).1 (List.mem_cons_of_mem _ hq)
  have hvA : ∀ z, An par z v ↔ ∀ q ∈ P i, q < i → An par z q := by
    intro z
    rw [← hv, nca_an h.dn m ps p (by omega) (fun q hq => by have := (hps q hq).2; omega) z]
    constructor
    · rintro ⟨h1, h2⟩ q hq hlt
      rcases List.mem_cons.1 ((hmem q).2 ⟨hq, hlt⟩) with rfl | hq
      · exact h1
      · exact h2 q hq
    · exact fun hh => ⟨hh p hp.1 hp.2, fun q hq => hh q (hps q hq).1 (hps q hq).2⟩
  have hvv := (hvA v).1 .refl
  have hvi : v < i := by have := (hvv p hp.1 hp.2).le h.dn; omega
  have e : ∀ u, u ≠ i → upd par i v u = par u := fun u hu => by unfold upd; rw [if_neg hu]
  have ei : upd par i v i = v := by unfold upd; rw [if_pos rfl]
  rw [hv]
  refine ⟨upd_dn h.dn hvi, fun u hu0 hum d hd hne => ?_, fun u hu0 hum z hz => ?_, fun u hu0 hum => ?_⟩
  · by_cases hu : u = i
    · subst hu
      rw [ei, ← hv]
      exact nca_dom h.dn G.dle m u d (by omega) (fun u' h0 hm' hd hne => h.dom u' h0 hm' d hd hne) ps p hp.2 (fun q hq => (hps q hq).2) (G.dstep d u h0 hm hd hne p hp.1) (fun q hq => G.dstep d u h0 hm hd hne q (hps q hq).1)
    · rw [e u hu]; exact h.dom u hu0 (by omega) d hd hne
  · by_cases hu : u = i
    · subst hu
      rw [ei]
      exact ((hvA z).2 (fun q hq hlt => (an_upd_lt h.dn hvi hlt).1 (hz q hq hlt))).le h.dn
    · rw [e u hu]; exact h.low u hu0 (by omega) z (fun q hq hlt => (an_upd_lt h.dn hvi (by omega)).1 (hz q hq hlt))
  · by_cases hu : u = i
    · subst hu
      obtain ⟨s, hs, hsu⟩ := G.fwd u h0 hm
      rw [ei]
      exact ⟨s, hs, hsu, (an_upd_lt h.dn hvi hsu).2 (hvv s hs hsu)⟩
    · obtain ⟨s, hs, hsu, h1⟩ := h.old u hu0 (by omega)
      rw [e u hu]
      exact ⟨s, hs, hsu, (an_upd_lt h.dn hvi (by omega)).2 h1⟩
theorem Fst.swp {m : Nat} {P : Nat → List Nat} {Dm : Nat → Nat → Prop} {par : Nat → Nat} (h : Fst m P Dm m par) : Swp m P Dm 1 par :=
  ⟨h.dn, h.dom, fun u h0 hm z hz => h.low u h0 hm z (fun p hp _ => hz p hp), fun u h0 hm => by
    obtain ⟨s, hs, hsu, h1⟩ := h.old u h0 hm
    exact ⟨s, hs, hsu, fun hlt => by omega, .inl h1⟩⟩
end Go.Proofs.Ytnmeomdjhjgnfaa.X
end
