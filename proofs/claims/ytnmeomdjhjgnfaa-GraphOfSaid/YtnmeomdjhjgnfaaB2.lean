/- Parts of the proof of GraphOf: X2, Gspec2, Gback, Ghead, Gred, Gbody, Gpairs, X3, Gawake, Pdfs, Pord, Pidom, X5, X17, Pedge, Pchk, Pdomn, Pdm, Pup, X7, X8, X9, Grorder. -/
import Derived.Test.YtnmeomdjhjgnfaaB1
import Derived.Laws.EntriesVeiled
import Derived.Maps.Own
import Derived.Maps.Views
import Derived.WalkMore
section
-- written by a driver of this session (wip/xprint.py) over the kit's print, for this claim; Lean checks it
namespace Go.Proofs.Ytnmeomdjhjgnfaa.X
open Go.RowKit Go.Proofs.YtnmeomdjhjgnfaaW.PrintWords Go.Proofs.YtnmeomdjhjgnfaaW.PrintLast Go.Proofs.YtnmeomdjhjgnfaaW.PrintMore
attribute [local go_sem] max2_int min2_int max_two min_two max_three min_three max_four min_four   -- for this text's walks alone
set_option linter.unusedVariables false
set_option linter.unusedSimpArgs false

/-! ### graph_Idom: function 30 -/
mutual
def graph_Idom.l0 : Nat → List (List Int) → List Int → List Int → List Int → Int → Int → Option (List Int)
  | 0, _, _, _, _, _, _ => none
  | k + 1, x0, x3, x4, x5, x25, x26 => if x26 < x25 then (if 0 ≤ x26 then (if x26 < (x4.length : Int) then (if x26 < (x5.length : Int) then (graph_Idom.l0 k x0 x3 (x4.set (x26 : Int).toNat (-1)) (x5.set (x26 : Int).toNat (-1)) x25 (wrap64 (x26 + 1))) else (none)) else (none)) else (none)) else (graph_Idom.l1 k x0 x3 x4 x5 x3 (x3.length : Int) 0)
def graph_Idom.l1 : Nat → List (List Int) → List Int → List Int → List Int → List Int → Int → Int → Option (List Int)
  | 0, _, _, _, _, _, _, _ => none
  | k + 1, x0, x3, x4, x5, x36, x37, x38 => if x38 < x37 then (if 0 ≤ x38 then (if x38 < (x36.length : Int) then (if 0 ≤ (rd x36 x38) then (if (rd x36 x38) < (x4.length : Int) then (graph_Idom.l1 k x0 x3 (x4.set ((rd x36 x38) : Int).toNat x38) x5 x36 x37 (wrap64 (x38 + 1))) else (none)) else (none)) else (none)) else (none)) else ((graph_Preds.f x0).bind fun t122 => (graph_Idom.l2 k x3 x4 x5 t122 true))
def graph_Idom.l2 : Nat → List Int → List Int → List Int → List (List Int) → Bool → Option (List Int)
  | 0, _, _, _, _, _ => none
  | k + 1, x3, x4, x5, x9, x10 => if x10 = true then (if 0 ≤ (mn 1 (x3.length : Int)) then (if (mn 1 (x3.length : Int)) ≤ (x3.length : Int) then ((some (x3.drop ((mn 1 (x3.length : Int)) : Int).toNat : List Int)).bind fun y125 => (graph_Idom.l3 k x3 x4 x5 x9 false y125 (y125.length : Int) 0)) else (none)) else (none)) else (some x5)
def graph_Idom.l3 : Nat → List Int → List Int → List Int → List (List Int) → Bool → List Int → Int → Int → Option (List Int)
  | 0, _, _, _, _, _, _, _, _ => none
  | k + 1, x3, x4, x5, x9, x10, x55, x56, x57 => if x57 < x56 then (if 0 ≤ x57 then (if x57 < (x55.length : Int) then (if 0 ≤ (rd x55 x57) then (if (rd x55 x57) < (x9.length : Int) then (graph_Idom.l4 k x3 x4 x5 x9 x10 (rd x55 x57) (-1) x55 x56 x57 (rd_L1 x9 (rd x55 x57)) ((rd_L1 x9 (rd x55 x57)).length : Int) 0) else (none)) else (none)) else (none)) else (none)) else (graph_Idom.l2 k x3 x4 x5 x9 x10)
def graph_Idom.l4 : Nat → List Int → List Int → List Int → List (List Int) → Bool → Int → Int → List Int → Int → Int → List Int → Int → Int → Option (List Int)
  | 0, _, _, _, _, _, _, _, _, _, _, _, _, _ => none
  | k + 1, x3, x4, x5, x9, x10, x12, x13, x55, x56, x57, x64, x65, x66 => if x66 < x65 then (if 0 ≤ x66 then (if x66 < (x64.length : Int) then (if 0 ≤ (rd x64 x66) then (if (rd x64 x66) < (x4.length : Int) then (if (rd x4 (rd x64 x66)) < 0 then (graph_Idom.j5 k x3 x4 x5 x9 x10 x12 x13 (rd x64 x66) x55 x56 x57 x64 x65 x66 true) else (if (rd x64 x66) = 0 then (graph_Idom.j5 k x3 x4 x5 x9 x10 x12 x13 (rd x64 x66) x55 x56 x57 x64 x65 x66 false) else (if (rd x64 x66) < (x5.length : Int) then (graph_Idom.j5 k x3 x4 x5 x9 x10 x12 x13 (rd x64 x66) x55 x56 x57 x64 x65 x66 (decide ((rd x5 (rd x64 x66)) < 0))) else (none)))) else (none)) else (none)) else (none)) else (none)) else (if 0 ≤ x12 then (if x12 < (x5.length : Int) then (if (rd x5 x12) = x13 then (graph_Idom.l3 k x3 x4 x5 x9 x10 x55 x56 (wrap64 (x57 + 1))) else (graph_Idom.l3 k x3 x4 (x5.set (x12 : Int).toNat x13) x9 true x55 x56 (wrap64 (x57 + 1)))) else (none)) else (none))
def graph_Idom.j5 : Nat → List Int → List Int → List Int → List (List Int) → Bool → Int → Int → Int → List Int → Int → Int → List Int → Int → Int → Bool → Option (List Int)
  | 0, _, _, _, _, _, _, _, _, _, _, _, _, _, _, _ => none
  | k + 1, x3, x4, x5, x9, x10, x12, x13, x15, x55, x56, x57, x64, x65, x66, x85 => if x85 = true then (graph_Idom.l4 k x3 x4 x5 x9 x10 x12 x13 x55 x56 x57 x64 x65 (wrap64 (x66 + 1))) else (if x13 < 0 then (graph_Idom.l4 k x3 x4 x5 x9 x10 x12 x15 x55 x56 x57 x64 x65 (wrap64 (x66 + 1))) else ((graph_common.f k x5 x4 x13 x15).bind fun t136 => (graph_Idom.l4 k x3 x4 x5 x9 x10 x12 t136 x55 x56 x57 x64 x65 (wrap64 (x66 + 1)))))
end
def graph_Idom.f (k : Nat) (l0 : List (List Int)) : Option (List Int) := (graph_Order.f k l0).bind fun t109 => (if 0 ≤ (l0.length : Int) then (if ((l0.length : Int) : Int).toNat ≤ 35184372088832 then (graph_Idom.l0 k l0 t109 (List.replicate ((l0.length : Int) : Int).toNat 0) (List.replicate ((l0.length : Int) : Int).toNat 0) (l0.length : Int) 0) else (none)) else (none))
theorem graph_Idom.mono_l : ∀ k, (∀ y0 y1 y2 y3 y4 y5, LeO (graph_Idom.l0 k y0 y1 y2 y3 y4 y5) (graph_Idom.l0 (k + 1) y0 y1 y2 y3 y4 y5)) ∧ (∀ y0 y1 y2 y3 y4 y5 y6, LeO (graph_Idom.l1 k y0 y1 y2 y3 y4 y5 y6) (graph_Idom.l1 (k + 1) y0 y1 y2 y3 y4 y5 y6)) ∧ (∀ y0 y1 y2 y3 y4, LeO (graph_Idom.l2 k y0 y1 y2 y3 y4) (graph_Idom.l2 (k + 1) y0 y1 y2 y3 y4)) ∧ (∀ y0 y1 y2 y3 y4 y5 y6 y7, LeO (graph_Idom.l3 k y0 y1 y2 y3 y4 y5 y6 y7) (graph_Idom.l3 (k + 1) y0 y1 y2 y3 y4 y5 y6 y7)) ∧ (∀ y0 y1 y2 y3 y4 y5 y6 y7 y8 y9 y10 y11 y12, LeO (graph_Idom.l4 k y0 y1 y2 y3 y4 y5 y6 y7 y8 y9 y10 y11 y12) (graph_Idom.l4 (k + 1) y0 y1 y2 y3 y4 y5 y6 y7 y8 y9 y10 y11 y12)) ∧ (∀ y0 y1 y2 y3 y4 y5 y6 y7 y8 y9 y10 y11 y12 y13 y14, LeO (graph_Idom.j5 k y0 y1 y2 y3 y4 y5 y6 y7 y8 y9 y10 y11 y12 y13 y14) (graph_Idom.j5 (k + 1) y0 y1 y2 y3 y4 y5 y6 y7 y8 y9 y10 y11 y12 y13 y14))
  | 0 => ⟨fun _ _ _ _ _ _ r h => by simp [graph_Idom.l0] at h, fun _ _ _ _ _ _ _ r h => by simp [graph_Idom.l1] at h, fun _ _ _ _ _ r h => by simp [graph_Idom.l2] at h, fun _ _ _ _ _ _ _ _ r h => by simp [graph_Idom.l3] at h, fun _ _ _ _ _ _ _ _ _ _ _ _ _ r h => by simp [graph_Idom.l4] at h, fun _ _ _ _ _ _ _ _ _ _ _ _ _ _ _ r h => by simp [graph_Idom.j5] at h⟩
  | k + 1 => by
    obtain ⟨ih0, ih1, ih2, ih3, ih4, ih5⟩ := graph_Idom.mono_l k
    refine ⟨?_, ?_, ?_, ?_, ?_, ?_⟩
    · intro y0 y1 y2 y3 y4 y5
      unfold graph_Idom.l0
      repeat' first | (with_reducible exact LeO.refl _) | (with_reducible refine LeO.ite ?_ ?_) | (with_reducible refine LeO.bind ?_ (fun _ => ?_)) | exact LeO.none _ | exact ih0 _ _ _ _ _ _ | exact ih1 _ _ _ _ _ _ _ | exact ih2 _ _ _ _ _ | exact ih3 _ _ _ _ _ _ _ _ | exact ih4 _ _ _ _ _ _ _ _ _ _ _ _ _ | exact ih5 _ _ _ _ _ _ _ _ _ _ _ _ _ _ _ | exact graph_Order.mono _ _ | exact graph_common.mono _ _ _ _ _ | refine LeO.ite ?_ ?_ | refine LeO.bind ?_ (fun _ => ?_)
    · intro y0 y1 y2 y3 y4 y5 y6
      unfold graph_Idom.l1
      repeat' first | (with_reducible exact LeO.refl _) | (with_reducible refine LeO.ite ?_ ?_) | (with_reducible refine LeO.bind ?_ (fun _ => ?_)) | exact LeO.none _ | exact ih0 _ _ _ _ _ _ | exact ih1 _ _ _ _ _ _ _ | exact ih2 _ _ _ _ _ | exact ih3 _ _ _ _ _ _ _ _ | exact ih4 _ _ _ _ _ _ _ _ _ _ _ _ _ | exact ih5 _ _ _ _ _ _ _ _ _ _ _ _ _ _ _ | exact graph_Order.mono _ _ | exact graph_common.mono _ _ _ _ _ | refine LeO.ite ?_ ?_ | refine LeO.bind ?_ (fun _ => ?_)
    · intro y0 y1 y2 y3 y4
      unfold graph_Idom.l2
      repeat' first | (with_reducible exact LeO.refl _) | (with_reducible refine LeO.ite ?_ ?_) | (with_reducible refine LeO.bind ?_ (fun _ => ?_)) | exact LeO.none _ | exact ih0 _ _ _ _ _ _ | exact ih1 _ _ _ _ _ _ _ | exact ih2 _ _ _ _ _ | exact ih3 _ _ _ _ _ _ _ _ | exact ih4 _ _ _ _ _ _ _ _ _ _ _ _ _ | exact ih5 _ _ _ _ _ _ _ _ _ _ _ _ _ _ _ | exact graph_Order.mono _ _ | exact graph_common.mono _ _ _ _ _ | refine LeO.ite ?_ ?_ | refine LeO.bind ?_ (fun _ => ?_)
    · intro y0 y1 y2 y3 y4 y5 y6 y7
      unfold graph_Idom.l3
      repeat' first | (with_reducible exact LeO.refl _) | (with_reducible refine LeO.ite ?_ ?_) | (with_reducible refine LeO.bind ?_ (fun _ => ?_)) | exact LeO.none _ | exact ih0 _ _ _ _ _ _ | exact ih1 _ _ _ _ _ _ _ | exact ih2 _ _ _ _ _ | exact ih3 _ _ _ _ _ _ _ _ | exact ih4 _ _ _ _ _ _ _ _ _ _ _ _ _ | exact ih5 _ _ _ _ _ _ _ _ _ _ _ _ _ _ _ | exact graph_Order.mono _ _ | exact graph_common.mono _ _ _ _ _ | refine LeO.ite ?_ ?_ | refine LeO.bind ?_ (fun _ => ?_)
    · intro y0 y1 y2 y3 y4 y5 y6 y7 y8 y9 y10 y11 y12
      unfold graph_Idom.l4
      repeat' first | (with_reducible exact LeO.refl _) | (with_reducible refine LeO.ite ?_ ?_) | (with_reducible refine LeO.bind ?_ (fun _ => ?_)) | exact LeO.none _ | exact ih0 _ _ _ _ _ _ | exact ih1 _ _ _ _ _ _ _ | exact ih2 _ _ _ _ _ | exact ih3 _ _ _ _ _ _ _ _ | exact ih4 _ _ _ _ _ _ _ _ _ _ _ _ _ | exact ih5 _ _ _ _ _ _ _ _ _ _ _ _ _ _ _ | exact graph_Order.mono _ _ | exact graph_common.mono _ _ _ _ _ | refine LeO.ite ?_ ?_ | refine LeO.bind ?_ (fun _ => ?_)
    · intro y0 y1 y2 y3 y4 y5 y6 y7 y8 y9 y10 y11 y12 y13 y14
      unfold graph_Idom.j5
      repeat' first | (with_reducible exact LeO.refl _) | (with_reducible refine LeO.ite ?_ ?_) | (with_reducible refine LeO.bind ?_ (fun _ => ?_)) | exact LeO.none _ | exact ih0 _ _ _ _ _ _ | exact ih1 _ _ _ _ _ _ _ | exact ih2 _ _ _ _ _ | exact ih3 _ _ _ _ _ _ _ _ | exact ih4 _ _ _ _ _ _ _ _ _ _ _ _ _ | exact ih5 _ _ _ _ _ _ _ _ _ _ _ _ _ _ _ | exact graph_Order.mono _ _ | exact graph_common.mono _ _ _ _ _ | refine LeO.ite ?_ ?_ | refine LeO.bind ?_ (fun _ => ?_)
theorem graph_Idom.mono : ∀ a0 k, LeO (graph_Idom.f k a0) (graph_Idom.f (k + 1) a0) := by
  intro a0 k
  obtain ⟨ih0, ih1, ih2, ih3, ih4, ih5⟩ := graph_Idom.mono_l k
  unfold graph_Idom.f
  repeat' first | (with_reducible exact LeO.refl _) | (with_reducible refine LeO.ite ?_ ?_) | (with_reducible refine LeO.bind ?_ (fun _ => ?_)) | exact LeO.none _ | exact ih0 _ _ _ _ _ _ | exact ih1 _ _ _ _ _ _ _ | exact ih2 _ _ _ _ _ | exact ih3 _ _ _ _ _ _ _ _ | exact ih4 _ _ _ _ _ _ _ _ _ _ _ _ _ | exact ih5 _ _ _ _ _ _ _ _ _ _ _ _ _ _ _ | exact graph_Order.mono _ _ | exact graph_common.mono _ _ _ _ _ | refine LeO.ite ?_ ?_ | refine LeO.bind ?_ (fun _ => ?_)
set_option maxHeartbeats 8000000 in
set_option maxRecDepth 100000 in
theorem graph_Idom.calls (k : Nat) (A0 : Option Addr) (c0 : Nat) (l0 : List (List Int)) (r : List Int) (w : World) (hr0 : Kd.C (Kd.slice 3 (Kd.int .i64)) w A0 l0.length l0) (hc0 : l0.length ≤ c0) (h : graph_Idom.f k l0 = some r) :
    Calls Try.prog 30 #[.slice A0 l0.length c0] w fun e w' => ∃ v0_ : Value, e = .returned (v0_) ∧ Kd.R (Kd.int .i64) 3 w' w.heap.size (fun _ => True) v0_ r ∧ Below w.heap.size w w' := by
  have HR0 := Aside0.mk hr0
  have HC0 := Aside0.mk hc0
  clear hr0 hc0
  have HB := Aside0.mk (Below.refl w.heap.size w)
  have H : ((graph_Order.f k l0).bind fun t109 => (if 0 ≤ (l0.length : Int) then (if ((l0.length : Int) : Int).toNat ≤ 35184372088832 then (graph_Idom.l0 k l0 t109 (List.replicate ((l0.length : Int) : Int).toNat 0) (List.replicate ((l0.length : Int) : Int).toNat 0) (l0.length : Int) 0) else (none)) else (none))) = some r := h
  clear h
  replace H := Option.bind_eq_some_iff.mp H
  obtain ⟨t109, A20, H⟩ := H
  have A2 := Aside0.mk A20
  clear A20
  by_cases c3 : 0 ≤ (l0.length : Int)
  · rw [if_pos c3] at H
    have c3b0 := eq_true c3
    have c3b1 : decide (0 ≤ (l0.length : Int)) = true := decide_eq_true c3
    clear c3
    by_cases c4 : ((l0.length : Int) : Int).toNat ≤ 35184372088832
    · rw [if_pos c4] at H
      have c4b0 := eq_true c4
      have c4b1 : decide (((l0.length : Int) : Int).toNat ≤ 35184372088832) = true := decide_eq_true c4
      clear c4
      obtain ⟨y112, hy112⟩ : ∃ y_ : List Int, y_ = (List.replicate ((l0.length : Int) : Int).toNat 0) := ⟨_, rfl⟩
      replace H : (graph_Idom.l0 k l0 t109 y112 (List.replicate ((l0.length : Int) : Int).toNat 0) (l0.length : Int) 0) = some r := by first | (rw [hy112]; with_reducible exact H) | (have H2_ := (Option.bind_some _ _).symm.trans H; rw [hy112]; with_reducible exact H2_) | (have H2_ := (Option.bind_some _ _).symm.trans H; with_reducible exact H2_) | with_reducible exact H | (rw [hy112]; exact H) | exact H
      have Ny112 := Aside0.mk hy112
      clear hy112
      obtain ⟨y115, hy115⟩ : ∃ y_ : List Int, y_ = (List.replicate ((l0.length : Int) : Int).toNat 0) := ⟨_, rfl⟩
      replace H : (graph_Idom.l0 k l0 t109 y112 y115 (l0.length : Int) 0) = some r := by first | (rw [hy115]; with_reducible exact H) | (have H2_ := (Option.bind_some _ _).symm.trans H; rw [hy115]; with_reducible exact H2_) | (have H2_ := (Option.bind_some _ _).symm.trans H; with_reducible exact H2_) | with_reducible exact H | (rw [hy115]; exact H) | exact H
      have Ny115 := Aside0.mk hy115
      clear hy115
      have H' := Aside0.mk H
      clear H
      go_enter Try.func30, Try.ntmps30
      go_wp2_with (first | ((with_reducible refine gate_callee (f := 26) rfl ?_); refine goesL_ (some 17) rfl rfl Try.func26 (by kernel_rfl) rfl #[.slice A0 l0.length c0] rfl (by (try simp only [List.map_toArray, List.map_cons, List.map_nil]); first | done | rfl | (simp only [List.length_drop, List.length_take]; rfl)) ?_; (with_reducible refine (graph_Order.calls k _ _ l0 t109 _ ?side1 ?side2 A2.out).mono ?_); (case side1 => repeat (first | exact HR0.out | (with_reducible refine Kd.C_alloc ?_ _) | (with_reducible refine Kd.C_drewN ?_ _) | (with_reducible refine Kd.C_drew ?_))); (case side2 => exact HC0.out); rintro e w5 ⟨v110, rfl, ho0, hb⟩; refine ⟨_, rfl, ?_⟩; have n0_ := Aside0.mk (Kd.R_lower ho0 (below_size (by repeat (first | exact HB.out | apply below_alloc | apply pw_below_drewN | apply below_drew1)))); have n1_ := Aside0.mk (below_step (by repeat (first | exact HB.out | apply below_alloc | apply pw_below_drewN | apply below_drew1)) hb); clear HB; have HO111 := n0_; have HB := n1_; clear n0_ n1_; (try clear hb); (try clear hb2); (try clear hk); (try clear hi); (try clear ho0)) | ((with_reducible refine gate_dst (N := 20) rfl ?_); refine Kd.R_make (Kd.int .i64) _ 3 rfl (N := 20) rfl 23 _ _ rfl (l0.length : Int) rfl rfl Try.underlying23 (.int .i64 0) 8 info3 rfl (by decide) (by omega) 0 (ok := fun _ => True) (okp := fun _ => True) rfl (fun _ hk => hk) trivial (of_decide_eq_true (by first | (with_reducible assumption) | assumption)) (Nat.le_trans (Nat.mul_le_mul_right _ (of_decide_eq_true (by first | (with_reducible assumption) | assumption) : (l0.length : Int).toNat ≤ 35184372088832)) (by omega)) (Below.refl _ _) (Nat.le_refl _) ?_; intro v113 w6 ho7 hb hg_ hnew_; clear hg_ hnew_; (first | rw [← Ny112.out] at ho7 | (simp only [Int.reduceToNat] at ho7; rw [← Ny112.out] at ho7)); have n0_ := Aside0.mk (Kd.R_elder' (by (with_reducible repeat (first | apply Kd.R_alloc | apply Kd.R_drewN | apply Kd.R_drew)); exact HO111.out) (Kd.R_base ho7) hb); have n1_ := Aside0.mk (Kd.R_lower (Kd.R_new' ho7 (Kd.R_lt (by (with_reducible repeat (first | apply Kd.R_alloc | apply Kd.R_drewN | apply Kd.R_drew)); exact HO111.out))) (below_size (by repeat (first | exact HB.out | apply below_alloc | apply pw_below_drewN | apply below_drew1)))); have n2_ := Aside0.mk (below_step (by repeat (first | exact HB.out | apply below_alloc | apply pw_below_drewN | apply below_drew1)) hb); clear HO111; clear HB; have HO111 := n0_; have HO114 := n1_; have HB := n2_; clear n0_ n1_ n2_; clear hb ho7) | ((with_reducible refine gate_dst (N := 23) rfl ?_); refine Kd.R_make (Kd.int .i64) _ 3 rfl (N := 23) rfl 23 _ _ rfl (l0.length : Int) rfl rfl Try.underlying23 (.int .i64 0) 8 info3 rfl (by decide) (by omega) 0 (ok := fun _ => True) (okp := fun _ => True) rfl (fun _ hk => hk) trivial (of_decide_eq_true (by first | (with_reducible assumption) | assumption)) (Nat.le_trans (Nat.mul_le_mul_right _ (of_decide_eq_true (by first | (with_reducible assumption) | assumption) : (l0.length : Int).toNat ≤ 35184372088832)) (by omega)) (Below.refl _ _) (Nat.le_refl _) ?_; intro v116 w8 ho9 hb hg_ hnew_; clear hg_ hnew_; (first | rw [← Ny115.out] at ho9 | (simp only [Int.reduceToNat] at ho9; rw [← Ny115.out] at ho9)); have n0_ := Aside0.mk (Kd.R_elder' (by (with_reducible repeat (first | apply Kd.R_alloc | apply Kd.R_drewN | apply Kd.R_drew)); exact HO111.out) (Kd.R_base ho9) hb); have n1_ := Aside0.mk (Kd.R_elder' (by (with_reducible repeat (first | apply Kd.R_alloc | apply Kd.R_drewN | apply Kd.R_drew)); exact HO114.out) (Kd.R_base ho9) hb); have n2_ := Aside0.mk (Kd.R_lower (Kd.R_new' (Kd.R_new' ho9 (Kd.R_lt (by (with_reducible repeat (first | apply Kd.R_alloc | apply Kd.R_drewN | apply Kd.R_drew)); exact HO111.out))) (Kd.R_lt (by (with_reducible repeat (first | apply Kd.R_alloc | apply Kd.R_drewN | apply Kd.R_drew)); exact HO114.out))) (below_size (by repeat (first | exact HB.out | apply below_alloc | apply pw_below_drewN | apply below_drew1)))); have n3_ := Aside0.mk (below_step (by repeat (first | exact HB.out | apply below_alloc | apply pw_below_drewN | apply below_drew1)) hb); clear HO111; clear HO114; clear HB; have HO111 := n0_; have HO114 := n1_; have HO117 := n2_; have HB := n3_; clear n0_ n1_ n2_ n3_; clear hb ho9))
      go_loopg [26] k (fun kq v26 w' => ∃ (x4_1 : List Int) (x5_1 : List Int) (x26_1 : Int), v26 = .int .i64 x26_1 ∧ Aside0 (graph_Idom.l0 kq l0 t109 x4_1 x5_1 (l0.length : Int) x26_1 = some r) ∧ Aside0 (kq ≤ k) ∧ Aside0 (Kd.R (Kd.int .i64) 3 w' w.heap.size (fun k_ => some k_ ≠ (v113 : Value).ownBlock ∧ some k_ ≠ (v116 : Value).ownBlock) v110 t109) ∧ Aside0 (Kd.R (Kd.int .i64) 3 w' w.heap.size (fun k_ => some k_ ≠ (v110 : Value).ownBlock ∧ some k_ ≠ (v116 : Value).ownBlock) v113 x4_1) ∧ Aside0 (Kd.R (Kd.int .i64) 3 w' w.heap.size (fun k_ => some k_ ≠ (v110 : Value).ownBlock ∧ some k_ ≠ (v113 : Value).ownBlock) v116 x5_1) ∧ Aside0 (Below w.heap.size w w'))
      case atStart => exact ⟨(y112), (y115), (0), (by first | rfl | (simp; done) | (simp [*]; done)), H', ⟨Nat.le_refl _⟩, ⟨by (with_reducible repeat (first | apply Kd.R_alloc | apply Kd.R_drewN | apply Kd.R_drew)); exact Kd.R_mono HO111.out (fun _ hk => ⟨hk.1.2, hk.2⟩)⟩, ⟨by (with_reducible repeat (first | apply Kd.R_alloc | apply Kd.R_drewN | apply Kd.R_drew)); exact Kd.R_mono HO114.out (fun _ hk => ⟨hk.1.2, hk.2⟩)⟩, ⟨by (with_reducible repeat (first | apply Kd.R_alloc | apply Kd.R_drewN | apply Kd.R_drew)); exact Kd.R_mono HO117.out (fun _ hk => ⟨hk.1.2, hk.2⟩)⟩, ⟨by repeat (first | exact HB.out | apply below_alloc | apply pw_below_drewN | apply below_drew1)⟩⟩
      case round =>
        clear H'; (try clear c2); (try clear p2); (try clear c3); (try clear c3b0); (try clear c3b1); (try clear c4); (try clear c4b0); (try clear c4b1)
        obtain ⟨x4_1, x5_1, x26_1, rfl, HA, HK1, HO_3, HO_4, HO_5, HB⟩ := hrel
        cases gk with
        | zero => exact absurd HA.out (by simp [graph_Idom.l0])
        | succ k1 =>
          have H := HA.out
          clear HA
          simp only [graph_Idom.l0] at H
          by_cases c10 : x26_1 < (l0.length : Int)
          · rw [if_pos c10] at H
            have c10b0 : decide (x26_1 < (l0.length : Int)) = true := decide_eq_true c10
            clear c10
            by_cases c11 : 0 ≤ x26_1
            · rw [if_pos c11] at H
              have c11b0 : decide (0 ≤ x26_1) = true := decide_eq_true c11
              clear c11
              by_cases c12 : x26_1 < (x4_1.length : Int)
              · rw [if_pos c12] at H
                have c12b0 : decide (x26_1 < (x4_1.length : Int)) = true := decide_eq_true c12
                clear c12
                obtain ⟨y118, hy118⟩ : ∃ y_ : List Int, y_ = (x4_1.set (x26_1 : Int).toNat (-1)) := ⟨_, rfl⟩
                replace H : (if x26_1 < (x5_1.length : Int) then (graph_Idom.l0 k1 l0 t109 y118 (x5_1.set (x26_1 : Int).toNat (-1)) (l0.length : Int) (wrap64 (x26_1 + 1))) else (none)) = some r := by first | (rw [hy118]; with_reducible exact H) | (have H2_ := (Option.bind_some _ _).symm.trans H; rw [hy118]; with_reducible exact H2_) | (have H2_ := (Option.bind_some _ _).symm.trans H; with_reducible exact H2_) | with_reducible exact H | (rw [hy118]; exact H) | exact H
                have Ny118 := Aside0.mk hy118
                clear hy118
                by_cases c14 : x26_1 < (x5_1.length : Int)
                · rw [if_pos c14] at H
                  have c14b0 : decide (x26_1 < (x5_1.length : Int)) = true := decide_eq_true c14
                  clear c14
                  obtain ⟨y119, hy119⟩ : ∃ y_ : List Int, y_ = (x5_1.set (x26_1 : Int).toNat (-1)) := ⟨_, rfl⟩
                  replace H : (graph_Idom.l0 k1 l0 t109 y118 y119 (l0.length : Int) (wrap64 (x26_1 + 1))) = some r := by first | (rw [hy119]; with_reducible exact H) | (have H2_ := (Option.bind_some _ _).symm.trans H; rw [hy119]; with_reducible exact H2_) | (have H2_ := (Option.bind_some _ _).symm.trans H; with_reducible exact H2_) | with_reducible exact H | (rw [hy119]; exact H) | exact H
                  have Ny119 := Aside0.mk hy119
                  clear hy119
                  have H' := Aside0.mk H
                  clear H
                  have p13 : 0 ≤ (x26_1 : Int) := of_decide_eq_true (by first | (with_reducible assumption) | assumption)
                  have q13 : (x26_1 : Int) < ((x4_1.length : Int) : Int) := of_decide_eq_true (by first | (with_reducible assumption) | assumption)
                  obtain ⟨go13, co13, eo13, gb13, gl13, cl13, HG13⟩ := Kd.R_form HO_4.out (by omega)
                  (first | cases eo13 | (injection eo13 with ea_ en_ ec_; (first | subst ea_ | (injection ea_ with ea_; subst ea_)); subst ec_; clear en_))
                  have GB13 := Aside0.mk gb13
                  have GG13 := Aside0.mk HG13
                  clear gb13 gl13 HG13
                  obtain ⟨hx13_0, hf13_0⟩ := Kd.R_celln 0 HO_4.out (x26_1 : Int) p13 q13
                  replace p13 := eq_true p13
                  replace q13 := eq_true q13
                  have HP16 := Kd.R_putg HO_4.out (x26_1 : Int) (-1)
                  go_wp2_with (first | ((with_reducible refine gate_store (t := 3) (p := 33) rfl ?_); refine store_event (t := 3) (p := 33) (v := ?vo_w17) (w1 := (wr.setCell ⟨go13, (x26_1 : Int).toNat, none⟩ (.int .i64 (-1)))) ?hg ?ho ?hn ?hr ?_; (case ho => rfl); (case hg => rfl); (case hn => rfl); (case hr => first | (go_simp; done) | (go_simp; rfl)); intro w17 hw; have hg : wr.grownBy w17 (some go13) := (by rw [hw]; exact HP16.2); have hp_ : Kd.R (Kd.int .i64) 3 w17 w.heap.size (fun k_ => some k_ ≠ (v110 : Value).ownBlock ∧ some k_ ≠ (v116 : Value).ownBlock) (.slice (some ⟨go13, 0, none⟩) x4_1.length co13) y118 := (by rw [hw, Ny118.out]; exact HP16.1); clear HP16; have n0_ := Aside0.mk (Kd.R_after (v := (.slice (some ⟨go13, 0, none⟩) x4_1.length co13)) (v1 := (.slice (some ⟨go13, 0, none⟩) x4_1.length co13)) (ok := (fun k_ => some k_ ≠ (v116 : Value).ownBlock)) (by (with_reducible repeat (first | apply Kd.R_alloc | apply Kd.R_drewN | apply Kd.R_drew)); exact Kd.R_mono HO_3.out (fun _ hk => ⟨hk.2, hk.1⟩)) hg (.inl rfl)); have n1_ := Aside0.mk (hp_); have n2_ := Aside0.mk (Kd.R_after (v := (.slice (some ⟨go13, 0, none⟩) x4_1.length co13)) (v1 := (.slice (some ⟨go13, 0, none⟩) x4_1.length co13)) (ok := (fun k_ => some k_ ≠ (v110 : Value).ownBlock)) (by (with_reducible repeat (first | apply Kd.R_alloc | apply Kd.R_drewN | apply Kd.R_drew)); exact HO_5.out) hg (.inl rfl)); have n3_ := Aside0.mk ((by rw [hw]; exact below_set (HB.out) GB13.out : Below w.heap.size w w17)); clear HO_3; clear HO_4; clear HO_5; clear HB; have HO_3 := n0_; have HO_4 := n1_; have HO_5 := n2_; have HB := n3_; clear n0_ n1_ n2_ n3_; clear hg hw hp_; have p15 : 0 ≤ (x26_1 : Int) := of_decide_eq_true (by first | (with_reducible assumption) | assumption); have q15 : (x26_1 : Int) < ((x5_1.length : Int) : Int) := of_decide_eq_true (by first | (with_reducible assumption) | assumption); obtain ⟨go15, co15, eo15, gb15, gl15, cl15, HG15⟩ := Kd.R_form HO_5.out (by omega); (first | cases eo15 | (injection eo15 with ea_ en_ ec_; (first | subst ea_ | (injection ea_ with ea_; subst ea_)); subst ec_; clear en_)); have GB15 := Aside0.mk gb15; have GG15 := Aside0.mk HG15; clear gb15 gl15 HG15; obtain ⟨hx15_0, hf15_0⟩ := Kd.R_celln 0 HO_5.out (x26_1 : Int) p15 q15; replace p15 := eq_true p15; replace q15 := eq_true q15; obtain ⟨hy18_, hz18_⟩ := Kd.R_celln 0 HO_5.out (x26_1 : Int) (of_decide_eq_true (by first | (with_reducible assumption) | assumption)) (of_decide_eq_true (by first | (with_reducible assumption) | assumption)); have HP18 := Kd.R_putg HO_5.out (x26_1 : Int) (-1)) | ((with_reducible refine gate_store (t := 3) (p := 34) rfl ?_); refine store_event (t := 3) (p := 34) (v := ?vo_w19) (w1 := (w17.setCell ⟨go15, (x26_1 : Int).toNat, none⟩ (.int .i64 (-1)))) ?hg ?ho ?hn ?hr ?_; (case ho => rfl); (case hg => rfl); (case hn => rfl); (case hr => first | (go_simp; done) | (go_simp; rfl)); intro w19 hw; have hg : w17.grownBy w19 (some go15) := (by rw [hw]; exact HP18.2); have hp_ : Kd.R (Kd.int .i64) 3 w19 w.heap.size (fun k_ => some k_ ≠ (v110 : Value).ownBlock ∧ some k_ ≠ (.slice (some ⟨go13, 0, none⟩) x4_1.length co13 : Value).ownBlock) (.slice (some ⟨go15, 0, none⟩) x5_1.length co15) y119 := (by rw [hw, Ny119.out]; exact HP18.1); clear HP18; have n0_ := Aside0.mk (Kd.R_after (v := (.slice (some ⟨go15, 0, none⟩) x5_1.length co15)) (v1 := (.slice (some ⟨go15, 0, none⟩) x5_1.length co15)) (ok := (fun k_ => some k_ ≠ (.slice (some ⟨go13, 0, none⟩) x4_1.length co13 : Value).ownBlock)) (by (with_reducible repeat (first | apply Kd.R_alloc | apply Kd.R_drewN | apply Kd.R_drew)); exact Kd.R_mono HO_3.out (fun _ hk => ⟨hk.2, hk.1⟩)) hg (.inl rfl)); have n1_ := Aside0.mk (Kd.R_after (v := (.slice (some ⟨go15, 0, none⟩) x5_1.length co15)) (v1 := (.slice (some ⟨go15, 0, none⟩) x5_1.length co15)) (ok := (fun k_ => some k_ ≠ (v110 : Value).ownBlock)) (by (with_reducible repeat (first | apply Kd.R_alloc | apply Kd.R_drewN | apply Kd.R_drew)); exact HO_4.out) hg (.inl rfl)); have n2_ := Aside0.mk (hp_); have n3_ := Aside0.mk ((by rw [hw]; exact below_set (HB.out) GB15.out : Below w.heap.size w w19)); clear HO_3; clear HO_4; clear HO_5; clear HB; have HO_3 := n0_; have HO_4 := n1_; have HO_5 := n2_; have HB := n3_; clear n0_ n1_ n2_ n3_; clear hg hw hp_))
                  go_roundg k1
                  case measure => have := HK1.out; omega
                  case rel => exact ⟨(y118), (y119), (wrap64 (x26_1 + 1)), (by first | rfl | (simp; done) | (simp [*]; done)), H', ⟨by have := HK1.out; omega⟩, ⟨by (with_reducible repeat (first | apply Kd.R_alloc | apply Kd.R_drewN | apply Kd.R_drew)); exact HO_3.out⟩, ⟨by (with_reducible repeat (first | apply Kd.R_alloc | apply Kd.R_drewN | apply Kd.R_drew)); exact HO_4.out⟩, ⟨by (with_reducible repeat (first | apply Kd.R_alloc | apply Kd.R_drewN | apply Kd.R_drew)); exact HO_5.out⟩, ⟨by repeat (first | exact HB.out | apply below_alloc | apply pw_below_drewN | apply below_drew1)⟩⟩
                · rw [if_neg c14] at H
                  exact absurd H (by simp)
              · rw [if_neg c12] at H
                exact absurd H (by simp)
            · rw [if_neg c11] at H
              exact absurd H (by simp)
          · rw [if_neg c10] at H
            have c10b0 : decide (x26_1 < (l0.length : Int)) = false := decide_eq_false c10
            clear c10
            have H' := Aside0.mk H
            clear H
            obtain ⟨Ao20, co20, eo20⟩ := Kd.R_slice HO_3.out
            subst eo20
            go_wp2
            go_loopg [38] k1 (fun kq v38 w' => ∃ (x4_2 : List Int) (x38_2 : Int), v38 = .int .i64 x38_2 ∧ Aside0 (graph_Idom.l1 kq l0 t109 x4_2 x5_1 t109 (t109.length : Int) x38_2 = some r) ∧ Aside0 (kq ≤ k1) ∧ Aside0 (Kd.R (Kd.int .i64) 3 w' w.heap.size (fun k_ => some k_ ≠ (v113 : Value).ownBlock ∧ some k_ ≠ (v116 : Value).ownBlock) (.slice Ao20 t109.length co20) t109) ∧ Aside0 (Kd.R (Kd.int .i64) 3 w' w.heap.size (fun k_ => some k_ ≠ ((.slice Ao20 t109.length co20) : Value).ownBlock ∧ some k_ ≠ (v116 : Value).ownBlock ∧ some k_ ≠ ((.slice Ao20 t109.length co20) : Value).ownBlock) v113 x4_2) ∧ Aside0 (Kd.R (Kd.int .i64) 3 w' w.heap.size (fun k_ => some k_ ≠ ((.slice Ao20 t109.length co20) : Value).ownBlock ∧ some k_ ≠ (v113 : Value).ownBlock ∧ some k_ ≠ ((.slice Ao20 t109.length co20) : Value).ownBlock) v116 x5_1) ∧ Aside0 (Kd.R (Kd.int .i64) 3 w' w.heap.size (fun k_ => some k_ ≠ (v113 : Value).ownBlock ∧ some k_ ≠ (v116 : Value).ownBlock) (.slice Ao20 t109.length co20) t109) ∧ Aside0 (Below w.heap.size w w'))
            case atStart => exact ⟨(x4_1), (0), (by first | rfl | (simp; done) | (simp [*]; done)), H', ⟨Nat.le_refl _⟩, ⟨by (with_reducible repeat (first | apply Kd.R_alloc | apply Kd.R_drewN | apply Kd.R_drew)); exact HO_3.out⟩, ⟨by (with_reducible repeat (first | apply Kd.R_alloc | apply Kd.R_drewN | apply Kd.R_drew)); exact Kd.R_mono HO_4.out (fun _ hk => ⟨hk.1, ⟨hk.2, hk.1⟩⟩)⟩, ⟨by (with_reducible repeat (first | apply Kd.R_alloc | apply Kd.R_drewN | apply Kd.R_drew)); exact Kd.R_mono HO_5.out (fun _ hk => ⟨hk.1, ⟨hk.2, hk.1⟩⟩)⟩, ⟨by (with_reducible repeat (first | apply Kd.R_alloc | apply Kd.R_drewN | apply Kd.R_drew)); exact HO_3.out⟩, ⟨by repeat (first | exact HB.out | apply below_alloc | apply pw_below_drewN | apply below_drew1)⟩⟩
            case round =>
              clear H'; (try clear c1); (try clear p1); (try clear q1); (try clear hx1); (try clear hf1); (try clear c2); (try clear p2); (try clear c3); (try clear c3b0); (try clear c3b1); (try clear c4); (try clear c4b0); (try clear c4b1); (try clear p6); (try clear c10); (try clear c10b0); (try clear c11); (try clear c11b0); (try clear c12); (try clear c12b0); (try clear p13); (try clear q13); (try clear hx13); (try clear hf13); (try clear c14); (try clear c14b0); (try clear p15); (try clear q15); (try clear hx15); (try clear hf15); (try clear hx13_0); (try clear hx15_0); (try clear p13); (try clear p15); (try clear p2); (try clear q13); (try clear q15)
              obtain ⟨x4_2, x38_2, rfl, HA, HK2, HO_3, HO_4, HO_5, HO_36, HB⟩ := hrel
              cases gk with
              | zero => exact absurd HA.out (by simp [graph_Idom.l1])
              | succ k2 =>
                have H := HA.out
                clear HA
                simp only [graph_Idom.l1] at H
                by_cases c21 : x38_2 < (t109.length : Int)
                · rw [if_pos c21] at H
                  have c21b0 : decide (x38_2 < (t109.length : Int)) = true := decide_eq_true c21
                  clear c21
                  by_cases c22 : 0 ≤ x38_2
                  · rw [if_pos c22] at H
                    have c22b0 : decide (0 ≤ x38_2) = true := decide_eq_true c22
                    clear c22
                    by_cases c23 : x38_2 < (t109.length : Int)
                    · rw [if_pos c23] at H
                      have c23b0 : decide (x38_2 < (t109.length : Int)) = true := decide_eq_true c23
                      clear c23
                      by_cases c24 : 0 ≤ (rd t109 x38_2)
                      · rw [if_pos c24] at H
                        have c24b0 : decide (0 ≤ (rd t109 x38_2)) = true := decide_eq_true c24
                        clear c24
                        by_cases c25 : (rd t109 x38_2) < (x4_2.length : Int)
                        · rw [if_pos c25] at H
                          have c25b0 : decide ((rd t109 x38_2) < (x4_2.length : Int)) = true := decide_eq_true c25
                          clear c25
                          obtain ⟨y121, hy121⟩ : ∃ y_ : List Int, y_ = (x4_2.set ((rd t109 x38_2) : Int).toNat x38_2) := ⟨_, rfl⟩
                          replace H : (graph_Idom.l1 k2 l0 t109 y121 x5_1 t109 (t109.length : Int) (wrap64 (x38_2 + 1))) = some r := by first | (rw [hy121]; with_reducible exact H) | (have H2_ := (Option.bind_some _ _).symm.trans H; rw [hy121]; with_reducible exact H2_) | (have H2_ := (Option.bind_some _ _).symm.trans H; with_reducible exact H2_) | with_reducible exact H | (rw [hy121]; exact H) | exact H
                          have Ny121 := Aside0.mk hy121
                          clear hy121
                          have H' := Aside0.mk H
                          clear H
                          have p120 : 0 ≤ (x38_2 : Int) := of_decide_eq_true (by first | (with_reducible assumption) | assumption)
                          have q120 : x38_2 < (t109.length : Int) := of_decide_eq_true (by first | (with_reducible assumption) | assumption)
                          obtain ⟨ad120, e120, hx120_0⟩ := Kd.at_int (Kd.R_reads' HO_36.out).2.2 x38_2 p120 q120
                          cases e120
                          replace p120 := eq_true p120
                          replace q120 := eq_true q120
                          have p26 : 0 ≤ ((rd t109 x38_2) : Int) := of_decide_eq_true (by first | (with_reducible assumption) | assumption)
                          have q26 : ((rd t109 x38_2) : Int) < ((x4_2.length : Int) : Int) := of_decide_eq_true (by first | (with_reducible assumption) | assumption)
                          obtain ⟨go26, co26, eo26, gb26, gl26, cl26, HG26⟩ := Kd.R_form HO_4.out (by omega)
                          (first | cases eo26 | (injection eo26 with ea_ en_ ec_; (first | subst ea_ | (injection ea_ with ea_; subst ea_)); subst ec_; clear en_))
                          have GB26 := Aside0.mk gb26
                          have GG26 := Aside0.mk HG26
                          clear gb26 gl26 HG26
                          obtain ⟨hx26_0, hf26_0⟩ := Kd.R_celln 0 HO_4.out ((rd t109 x38_2) : Int) p26 q26
                          replace p26 := eq_true p26
                          replace q26 := eq_true q26
                          have HP27 := Kd.R_putg HO_4.out ((rd t109 x38_2) : Int) x38_2
                          go_wp2_with (first | ((with_reducible refine gate_store (t := 3) (p := 46) rfl ?_); refine store_event (t := 3) (p := 46) (v := ?vo_w28) (w1 := (wr.setCell ⟨go26, ((rd t109 x38_2) : Int).toNat, none⟩ (.int .i64 x38_2))) ?hg ?ho ?hn ?hr ?_; (case ho => rfl); (case hg => rfl); (case hn => rfl); (case hr => first | (go_simp; done) | (go_simp; rfl)); intro w28 hw; have hg : wr.grownBy w28 (some go26) := (by rw [hw]; exact HP27.2); have hp_ : Kd.R (Kd.int .i64) 3 w28 w.heap.size (fun k_ => some k_ ≠ (.slice (some ad120) t109.length co20 : Value).ownBlock ∧ some k_ ≠ (v116 : Value).ownBlock ∧ some k_ ≠ (.slice (some ad120) t109.length co20 : Value).ownBlock) (.slice (some ⟨go26, 0, none⟩) x4_2.length co26) y121 := (by rw [hw, Ny121.out]; exact HP27.1); clear HP27; have n0_ := Aside0.mk (Kd.R_after (v := (.slice (some ⟨go26, 0, none⟩) x4_2.length co26)) (v1 := (.slice (some ⟨go26, 0, none⟩) x4_2.length co26)) (ok := (fun k_ => some k_ ≠ (v116 : Value).ownBlock)) (by (with_reducible repeat (first | apply Kd.R_alloc | apply Kd.R_drewN | apply Kd.R_drew)); exact Kd.R_mono HO_3.out (fun _ hk => ⟨hk.2, hk.1⟩)) hg (.inl rfl)); have n1_ := Aside0.mk (hp_); have n2_ := Aside0.mk (Kd.R_after (v := (.slice (some ⟨go26, 0, none⟩) x4_2.length co26)) (v1 := (.slice (some ⟨go26, 0, none⟩) x4_2.length co26)) (ok := (fun k_ => some k_ ≠ (.slice (some ad120) t109.length co20 : Value).ownBlock ∧ some k_ ≠ (.slice (some ad120) t109.length co20 : Value).ownBlock)) (by (with_reducible repeat (first | apply Kd.R_alloc | apply Kd.R_drewN | apply Kd.R_drew)); exact Kd.R_mono HO_5.out (fun _ hk => ⟨⟨hk.1, hk.2.2⟩, hk.2.1⟩)) hg (.inl rfl)); have n3_ := Aside0.mk (Kd.R_after (v := (.slice (some ⟨go26, 0, none⟩) x4_2.length co26)) (v1 := (.slice (some ⟨go26, 0, none⟩) x4_2.length co26)) (ok := (fun k_ => some k_ ≠ (v116 : Value).ownBlock)) (by (with_reducible repeat (first | apply Kd.R_alloc | apply Kd.R_drewN | apply Kd.R_drew)); exact Kd.R_mono HO_36.out (fun _ hk => ⟨hk.2, hk.1⟩)) hg (.inl rfl)); have n4_ := Aside0.mk ((by rw [hw]; exact below_set (HB.out) GB26.out : Below w.heap.size w w28)); clear HO_3; clear HO_4; clear HO_5; clear HO_36; clear HB; have HO_3 := n0_; have HO_4 := n1_; have HO_5 := n2_; have HO_36 := n3_; have HB := n4_; clear n0_ n1_ n2_ n3_ n4_; clear hg hw hp_))
                          go_roundg k2
                          case measure => have := HK1.out; have := HK2.out; omega
                          case rel => exact ⟨(y121), (wrap64 (x38_2 + 1)), (by first | rfl | (simp; done) | (simp [*]; done)), H', ⟨by have := HK1.out; have := HK2.out; omega⟩, ⟨by (with_reducible repeat (first | apply Kd.R_alloc | apply Kd.R_drewN | apply Kd.R_drew)); exact Kd.R_mono HO_3.out (fun _ hk => ⟨hk.2, hk.1⟩)⟩, ⟨by (with_reducible repeat (first | apply Kd.R_alloc | apply Kd.R_drewN | apply Kd.R_drew)); exact HO_4.out⟩, ⟨by (with_reducible repeat (first | apply Kd.R_alloc | apply Kd.R_drewN | apply Kd.R_drew)); exact Kd.R_mono HO_5.out (fun _ hk => ⟨hk.1.1, ⟨hk.2, hk.1.2⟩⟩)⟩, ⟨by (with_reducible repeat (first | apply Kd.R_alloc | apply Kd.R_drewN | apply Kd.R_drew)); exact Kd.R_mono HO_36.out (fun _ hk => ⟨hk.2, hk.1⟩)⟩, ⟨by repeat (first | exact HB.out | apply below_alloc | apply pw_below_drewN | apply below_drew1)⟩⟩
                        · rw [if_neg c25] at H
                          exact absurd H (by simp)
                      · rw [if_neg c24] at H
                        exact absurd H (by simp)
                    · rw [if_neg c23] at H
                      exact absurd H (by simp)
                  · rw [if_neg c22] at H
                    exact absurd H (by simp)
                · rw [if_neg c21] at H
                  have c21b0 : decide (x38_2 < (t109.length : Int)) = false := decide_eq_false c21
                  clear c21
                  replace H := Option.bind_eq_some_iff.mp H
                  obtain ⟨t122, A290, H⟩ := H
                  have A29 := Aside0.mk A290
                  clear A290
                  have H' := Aside0.mk H
                  clear H
                  go_wp2_with (first | ((with_reducible refine gate_callee (f := 47) rfl ?_); refine goesL_ (some 49) rfl rfl Try.func47 (by kernel_rfl) rfl #[.slice A0 l0.length c0] rfl (by (try simp only [List.map_toArray, List.map_cons, List.map_nil]); first | done | rfl | (simp only [List.length_drop, List.length_take]; rfl)) ?_; (with_reducible refine (graph_Preds.calls _ _ l0 t122 _ ?side1 ?side2 A29.out).mono ?_); (case side1 => repeat (first | exact (Kd.C_below HR0.out HB.out) | (with_reducible refine Kd.C_alloc ?_ _) | (with_reducible refine Kd.C_drewN ?_ _) | (with_reducible refine Kd.C_drew ?_))); (case side2 => exact HC0.out); rintro e w30 ⟨v123, rfl, ho0, hb⟩; refine ⟨_, rfl, ?_⟩; have n0_ := Aside0.mk (Kd.R_below (by (with_reducible repeat (first | apply Kd.R_alloc | apply Kd.R_drewN | apply Kd.R_drew)); exact HO_3.out) hb); have n1_ := Aside0.mk (Kd.R_below (by (with_reducible repeat (first | apply Kd.R_alloc | apply Kd.R_drewN | apply Kd.R_drew)); exact HO_4.out) hb); have n2_ := Aside0.mk (Kd.R_below (by (with_reducible repeat (first | apply Kd.R_alloc | apply Kd.R_drewN | apply Kd.R_drew)); exact HO_5.out) hb); have n3_ := Aside0.mk (Kd.R_below (by (with_reducible repeat (first | apply Kd.R_alloc | apply Kd.R_drewN | apply Kd.R_drew)); exact HO_36.out) hb); have n4_ := Aside0.mk (Kd.S_lower (Kd.S_new' (Kd.S_new' (Kd.S_new' (Kd.S_new' ho0 (Kd.R_lt (by (with_reducible repeat (first | apply Kd.R_alloc | apply Kd.R_drewN | apply Kd.R_drew)); exact HO_3.out))) (Kd.R_lt (by (with_reducible repeat (first | apply Kd.R_alloc | apply Kd.R_drewN | apply Kd.R_drew)); exact HO_4.out))) (Kd.R_lt (by (with_reducible repeat (first | apply Kd.R_alloc | apply Kd.R_drewN | apply Kd.R_drew)); exact HO_5.out))) (Kd.R_lt (by (with_reducible repeat (first | apply Kd.R_alloc | apply Kd.R_drewN | apply Kd.R_drew)); exact HO_36.out))) (below_size (by repeat (first | exact HB.out | apply below_alloc | apply pw_below_drewN | apply below_drew1)))); have n5_ := Aside0.mk (below_step (by repeat (first | exact HB.out | apply below_alloc | apply pw_below_drewN | apply below_drew1)) hb); clear HO_3; clear HO_4; clear HO_5; clear HO_36; clear HB; have HO_3 := n0_; have HO_4 := n1_; have HO_5 := n2_; have HO_36 := n3_; have HO124 := n4_; have HB := n5_; clear n0_ n1_ n2_ n3_ n4_ n5_; (try clear hb); (try clear hb2); (try clear hk); (try clear hi); (try clear ho0)))
                  go_loopg [10] k2 (fun kq v10 w' => ∃ (x5_3 : List Int) (x10_3 : Bool), v10 = .bool x10_3 ∧ Aside0 (graph_Idom.l2 kq t109 x4_2 x5_3 t122 x10_3 = some r) ∧ Aside0 (kq ≤ k2) ∧ Aside0 (Kd.R (Kd.int .i64) 3 w' w.heap.size (fun k_ => some k_ ≠ (v113 : Value).ownBlock ∧ some k_ ≠ (v116 : Value).ownBlock) (.slice Ao20 t109.length co20) t109) ∧ Aside0 (Kd.R (Kd.int .i64) 3 w' w.heap.size (fun k_ => some k_ ≠ ((.slice Ao20 t109.length co20) : Value).ownBlock ∧ some k_ ≠ (v116 : Value).ownBlock) v113 x4_2) ∧ Aside0 (Kd.R (Kd.int .i64) 3 w' w.heap.size (fun k_ => some k_ ≠ ((.slice Ao20 t109.length co20) : Value).ownBlock ∧ some k_ ≠ (v113 : Value).ownBlock) v116 x5_3) ∧ Aside0 (Kd.S (Kd.slice 3 (Kd.int .i64)) 23 w' w.heap.size (fun k_ => some k_ ≠ ((.slice Ao20 t109.length co20) : Value).ownBlock ∧ some k_ ≠ (v113 : Value).ownBlock ∧ some k_ ≠ (v116 : Value).ownBlock) v123 t122) ∧ Aside0 (Below w.heap.size w w'))
                  case atStart => exact ⟨(x5_1), (true), (by first | rfl | (simp; done) | (simp [*]; done)), H', ⟨Nat.le_refl _⟩, ⟨by (with_reducible repeat (first | apply Kd.R_alloc | apply Kd.R_drewN | apply Kd.R_drew)); exact HO_3.out⟩, ⟨by (with_reducible repeat (first | apply Kd.R_alloc | apply Kd.R_drewN | apply Kd.R_drew)); exact Kd.R_mono HO_4.out (fun _ hk => ⟨hk.1, hk.2.1⟩)⟩, ⟨by (with_reducible repeat (first | apply Kd.R_alloc | apply Kd.R_drewN | apply Kd.R_drew)); exact Kd.R_mono HO_5.out (fun _ hk => ⟨hk.1, hk.2.1⟩)⟩, ⟨by (with_reducible repeat (first | apply Kd.S_alloc | apply Kd.S_drewN | apply Kd.S_drew)); exact Kd.S_mono HO124.out (fun _ hk => ⟨hk.1.1.1.2, ⟨hk.1.1.2, hk.1.2⟩⟩)⟩, ⟨by repeat (first | exact HB.out | apply below_alloc | apply pw_below_drewN | apply below_drew1)⟩⟩
                  case round =>
                    clear H'; (try clear c1); (try clear p1); (try clear q1); (try clear hx1); (try clear hf1); (try clear c2); (try clear p2); (try clear q2); (try clear hx2); (try clear hf2); (try clear c3); (try clear c3b0); (try clear c3b1); (try clear c4); (try clear c4b0); (try clear c4b1); (try clear p6); (try clear c10); (try clear c10b0); (try clear c11); (try clear c11b0); (try clear c12); (try clear c12b0); (try clear p12); (try clear q12); (try clear hx12); (try clear p13); (try clear q13); (try clear hx13); (try clear hf13); (try clear c14); (try clear c14b0); (try clear p15); (try clear q15); (try clear hx15); (try clear hf15); (try clear c21); (try clear c21b0); (try clear c22); (try clear c22b0); (try clear c23); (try clear c23b0); (try clear c24); (try clear c24b0); (try clear c25); (try clear c25b0); (try clear c26); (try clear p26); (try clear q26); (try clear hx26); (try clear hf26); (try clear c30); (try clear hx120_0); (try clear hx13_0); (try clear hx15_0); (try clear hx26_0); (try clear p1); (try clear p120); (try clear p13); (try clear p15); (try clear p2); (try clear p26); (try clear p6); (try clear q1); (try clear q120); (try clear q13); (try clear q15); (try clear q26)
                    obtain ⟨x5_3, x10_3, rfl, HA, HK3, HO_3, HO_4, HO_5, HO_9, HB⟩ := hrel
                    cases gk with
                    | zero => exact absurd HA.out (by simp [graph_Idom.l2])
                    | succ k3 =>
                      have H := HA.out
                      clear HA
                      simp only [graph_Idom.l2] at H
                      by_cases c31 : x10_3 = true
                      · subst c31
                        rw [if_pos rfl] at H
                        obtain ⟨ji32, hji32⟩ : ∃ j_ : Int, (mn 1 (t109.length : Int)) = j_ := ⟨_, rfl⟩
                        replace H : (if 0 ≤ (ji32) then (if (ji32) ≤ (t109.length : Int) then ((some (t109.drop ((ji32) : Int).toNat : List Int)).bind fun y125 => (graph_Idom.l3 k3 t109 x4_2 x5_3 t122 false y125 (y125.length : Int) 0)) else (none)) else (none)) = some r := by first | (rw [hji32] at H; exact H) | (simp only [hji32] at H ⊢; exact H)
                        have hji32_ : (if (t109.length : Int) < 1 then (t109.length : Int) else 1) = ji32 := hji32
                        by_cases c33 : 0 ≤ (ji32)
                        · rw [if_pos c33] at H
                          have c33b0 := eq_true c33
                          have c33b1 : decide (0 ≤ (ji32)) = true := decide_eq_true c33
                          clear c33
                          by_cases c34 : (ji32) ≤ (t109.length : Int)
                          · rw [if_pos c34] at H
                            have c34b0 := eq_true c34
                            have c34b1 : decide ((ji32) ≤ (t109.length : Int)) = true := decide_eq_true c34
                            clear c34
                            obtain ⟨y125, hy125⟩ : ∃ y_ : List Int, y_ = (t109.drop ((ji32) : Int).toNat) := ⟨_, rfl⟩
                            replace H : (graph_Idom.l3 k3 t109 x4_2 x5_3 t122 false y125 (y125.length : Int) 0) = some r := by first | (rw [hy125]; with_reducible exact H) | (have H2_ := (Option.bind_some _ _).symm.trans H; rw [hy125]; with_reducible exact H2_) | (have H2_ := (Option.bind_some _ _).symm.trans H; with_reducible exact H2_) | with_reducible exact H | (rw [hy125]; exact H) | exact H
                            have Ny125 := Aside0.mk hy125
                            clear hy125
                            have H' := Aside0.mk H
                            clear H
                            have q35 : ((ji32) : Int) ≤ ((t109.length : Int) : Int) := of_decide_eq_true (by first | (with_reducible assumption) | assumption)
                            obtain ⟨i035, hi035, _, hsz35, _⟩ := info_parts info3
                            have hroom35 : t109.length ≤ co20 := (Kd.R_reads' HO_3.out).2.1
                            have hC35 : Kd.C (Kd.int .i64) _ Ao20 t109.length t109 := (Kd.R_reads' HO_3.out).2.2
                            have q035 : (0 : Int) ≤ ((ji32) : Int) := of_decide_eq_true (by first | (with_reducible assumption) | assumption)
                            have hcut35 := cut_from (P := Try.prog) 23 3 .i64 Try.underlying23 hi035 1 hsz35 Ao20 t109.length co20 (ji32) q035 q35
                            have hr35 := Kd.C_drop (m := ((ji32) : Int).toNat) (c := co20) hC35 (by omega) hroom35
                            obtain ⟨A35, hA35⟩ : ∃ A1, A1 = (if co20 = ((ji32) : Int).toNat then Ao20 else (Ao20 : Option Addr).map (·.add (((ji32) : Int).toNat * 1))) := ⟨_, rfl⟩
                            obtain ⟨c35, hc35⟩ : ∃ c1, c1 = co20 - ((ji32) : Int).toNat := ⟨_, rfl⟩
                            have hy35 : y125.length = t109.length - ((ji32) : Int).toNat := (by rw [Ny125.out, List.length_drop] <;> omega)
                            rw [show (t109).drop ((ji32) : Int).toNat = y125 from Ny125.out.symm] at hr35
                            replace hr35 : Kd.C (Kd.int .i64) _ A35 y125.length y125 := (by rw [hA35]; exact hr35)
                            rw [← hy35, ← hA35, ← hc35] at hcut35
                            have HR128 := Aside0.mk hr35
                            have HC128 := Aside0.mk (show y125.length ≤ c35 from by rw [hy35, hc35]; exact Nat.sub_le_sub_right hroom35 _)
                            clear hr35 hC35 hroom35 hi035 hsz35 hc35
                            have KY35 := Aside0.mk hy35
                            have KA35 := Aside0.mk hA35
                            clear hy35 hA35
                            have KL35 := Aside0.mk (show ((ji32) : Int).toNat ≤ t109.length from by omega)
                            replace q35 := eq_true q35
                            go_wp2
                            go_loopg [10, 57] k3 (fun kq v10 v57 w' => ∃ (x5_4 : List Int) (x10_4 : Bool) (x57_4 : Int), v10 = .bool x10_4 ∧ v57 = .int .i64 x57_4 ∧ Aside0 (graph_Idom.l3 kq t109 x4_2 x5_4 t122 x10_4 y125 (y125.length : Int) x57_4 = some r) ∧ Aside0 (kq ≤ k3) ∧ Aside0 (Kd.R (Kd.int .i64) 3 w' w.heap.size (fun k_ => some k_ ≠ (v113 : Value).ownBlock ∧ some k_ ≠ (v116 : Value).ownBlock) (.slice Ao20 t109.length co20) t109) ∧ Aside0 (Kd.R (Kd.int .i64) 3 w' w.heap.size (fun k_ => some k_ ≠ ((.slice Ao20 t109.length co20) : Value).ownBlock ∧ some k_ ≠ (v116 : Value).ownBlock) v113 x4_2) ∧ Aside0 (Kd.R (Kd.int .i64) 3 w' w.heap.size (fun k_ => some k_ ≠ ((.slice Ao20 t109.length co20) : Value).ownBlock ∧ some k_ ≠ (v113 : Value).ownBlock) v116 x5_4) ∧ Aside0 (Kd.S (Kd.slice 3 (Kd.int .i64)) 23 w' w.heap.size (fun k_ => some k_ ≠ ((.slice Ao20 t109.length co20) : Value).ownBlock ∧ some k_ ≠ (v113 : Value).ownBlock ∧ some k_ ≠ (v116 : Value).ownBlock) v123 t122) ∧ Aside0 (Kd.C (Kd.int .i64) w' A35 y125.length y125) ∧ Aside0 (Below w.heap.size w w'))
                            case atStart => exact ⟨(x5_3), (false), (0), (by first | rfl | (simp; done) | (simp [*]; done)), (by first | rfl | (simp; done) | (simp [*]; done)), H', ⟨Nat.le_refl _⟩, ⟨by (with_reducible repeat (first | apply Kd.R_alloc | apply Kd.R_drewN | apply Kd.R_drew)); exact HO_3.out⟩, ⟨by (with_reducible repeat (first | apply Kd.R_alloc | apply Kd.R_drewN | apply Kd.R_drew)); exact HO_4.out⟩, ⟨by (with_reducible repeat (first | apply Kd.R_alloc | apply Kd.R_drewN | apply Kd.R_drew)); exact HO_5.out⟩, ⟨by (with_reducible repeat (first | apply Kd.S_alloc | apply Kd.S_drewN | apply Kd.S_drew)); exact HO_9.out⟩, ⟨by repeat (first | (with_reducible exact HR128.out) | (with_reducible refine Kd.C_alloc ?_ _) | (with_reducible refine Kd.C_drewN ?_ _) | (with_reducible refine Kd.C_drew ?_) | exact HR128.out)⟩, ⟨by repeat (first | exact HB.out | apply below_alloc | apply pw_below_drewN | apply below_drew1)⟩⟩
                            case round =>
                              clear H'; (try clear c1); (try clear p1); (try clear q1); (try clear hx1); (try clear hf1); (try clear c2); (try clear p2); (try clear q2); (try clear hx2); (try clear hf2); (try clear c3); (try clear c3b0); (try clear c3b1); (try clear q3); (try clear c4); (try clear c4b0); (try clear c4b1); (try clear p6); (try clear c10); (try clear c10b0); (try clear c11); (try clear c11b0); (try clear c12); (try clear c12b0); (try clear p12); (try clear q12); (try clear hx12); (try clear p13); (try clear q13); (try clear hx13); (try clear hf13); (try clear c14); (try clear c14b0); (try clear p15); (try clear q15); (try clear hx15); (try clear hf15); (try clear c21); (try clear c21b0); (try clear c22); (try clear c22b0); (try clear c23); (try clear c23b0); (try clear c24); (try clear c24b0); (try clear c25); (try clear c25b0); (try clear c26); (try clear p26); (try clear q26); (try clear hx26); (try clear hf26); (try clear c30); (try clear c31); (try clear c33); (try clear c33b0); (try clear c33b1); (try clear c34); (try clear c34b0); (try clear c34b1); (try clear c35); (try clear q35); (try clear hx120_0); (try clear hx13_0); (try clear hx15_0); (try clear hx26_0); (try clear p1); (try clear p12); (try clear p120); (try clear p13); (try clear p15); (try clear p2); (try clear p26); (try clear p6); (try clear q035); (try clear q1); (try clear q12); (try clear q120); (try clear q13); (try clear q15); (try clear q2); (try clear q26); (try clear q35)
                              obtain ⟨x5_4, x10_4, x57_4, rfl, rfl, HA, HK4, HO_3, HO_4, HO_5, HO_9, HR128, HB⟩ := hrel
                              cases gk with
                              | zero => exact absurd HA.out (by simp [graph_Idom.l3])
                              | succ k4 =>
                                have H := HA.out
                                clear HA
                                simp only [graph_Idom.l3] at H
                                by_cases c36 : x57_4 < (y125.length : Int)
                                · rw [if_pos c36] at H
                                  have c36b0 : decide (x57_4 < (y125.length : Int)) = true := decide_eq_true c36
                                  clear c36
                                  by_cases c37 : 0 ≤ x57_4
                                  · rw [if_pos c37] at H
                                    have c37b0 : decide (0 ≤ x57_4) = true := decide_eq_true c37
                                    clear c37
                                    by_cases c38 : x57_4 < (y125.length : Int)
                                    · rw [if_pos c38] at H
                                      have c38b0 : decide (x57_4 < (y125.length : Int)) = true := decide_eq_true c38
                                      clear c38
                                      by_cases c39 : 0 ≤ (rd y125 x57_4)
                                      · rw [if_pos c39] at H
                                        have c39b0 : decide (0 ≤ (rd y125 x57_4)) = true := decide_eq_true c39
                                        clear c39
                                        by_cases c40 : (rd y125 x57_4) < (t122.length : Int)
                                        · rw [if_pos c40] at H
                                          have c40b0 : decide ((rd y125 x57_4) < (t122.length : Int)) = true := decide_eq_true c40
                                          clear c40
                                          have H' := Aside0.mk H
                                          clear H
                                          have p129 : 0 ≤ (x57_4 : Int) := of_decide_eq_true (by first | (with_reducible assumption) | assumption)
                                          have q129 : x57_4 < (y125.length : Int) := of_decide_eq_true (by first | (with_reducible assumption) | assumption)
                                          obtain ⟨ad129, e129, hx129_0⟩ := Kd.at_int HR128.out x57_4 p129 q129
                                          cases e129
                                          try replace hx129_0 := (HB.out.cell (World.block_lt_of_cell? w _ hx129_0)).trans hx129_0
                                          replace p129 := eq_true p129
                                          replace q129 := eq_true q129
                                          obtain ⟨Ao41, co41, eo41⟩ := Kd.S_slice HO_9.out
                                          subst eo41
                                          have p130 : 0 ≤ ((rd y125 x57_4) : Int) := of_decide_eq_true (by first | (with_reducible assumption) | assumption)
                                          have q130 : (rd y125 x57_4) < (t122.length : Int) := of_decide_eq_true (by first | (with_reducible assumption) | assumption)
                                          obtain ⟨ad130, A130_0, c130_0, e130, hx130_0, hl130_0, hi130_0⟩ := at_L1 (Kd.S_reads' HO_9.out).2.2 (rd y125 x57_4) p130 q130
                                          cases e130
                                          obtain ⟨ce130, hce130, hMe130, hcc130⟩ := Kd.S_get HO_9.out [] (rd y125 x57_4) p130 (by first | exact q130 | exact of_decide_eq_true (by first | (with_reducible assumption) | assumption) | (have e_ := (Kd.S_reads' HO_9.out).1; omega))
                                          obtain ⟨ve130_0, rfl, ge130_0⟩ := hMe130
                                          have hv130_0 := hcc130 0 _ rfl
                                          rw [Nat.add_zero, show ((Kd.slice 3 (Kd.int .i64))).sz = 1 from rfl, Nat.mul_one] at hv130_0
                                          replace hv130_0 := Option.some.inj (hv130_0.symm.trans hx130_0)
                                          rw [hv130_0] at ge130_0
                                          have HL130_0 := Aside0.mk (show Kd.R (Kd.int .i64) 3 _ _ _ _ (rd_L1 t122 (rd y125 x57_4)) from ge130_0)
                                          clear hv130_0 ge130_0; clear hcc130 hce130
                                          have HR130_0 := Aside0.mk hi130_0
                                          have HC130_0 := Aside0.mk hl130_0
                                          clear hi130_0 hl130_0
                                          replace p130 := eq_true p130
                                          replace q130 := eq_true q130
                                          go_wp2
                                          go_loopg [13, 66] k4 (fun kq v13 v66 w' => ∃ (x13_5 : Int) (x66_5 : Int), v13 = .int .i64 x13_5 ∧ v66 = .int .i64 x66_5 ∧ Aside0 (graph_Idom.l4 kq t109 x4_2 x5_4 t122 x10_4 (rd y125 x57_4) x13_5 y125 (y125.length : Int) x57_4 (rd_L1 t122 (rd y125 x57_4)) ((rd_L1 t122 (rd y125 x57_4)).length : Int) x66_5 = some r) ∧ Aside0 (kq ≤ k4) ∧ Aside0 (Kd.R (Kd.int .i64) 3 w' w.heap.size (fun k_ => some k_ ≠ (v113 : Value).ownBlock ∧ some k_ ≠ (v116 : Value).ownBlock) (.slice Ao20 t109.length co20) t109) ∧ Aside0 (Kd.R (Kd.int .i64) 3 w' w.heap.size (fun k_ => some k_ ≠ ((.slice Ao20 t109.length co20) : Value).ownBlock ∧ some k_ ≠ (v116 : Value).ownBlock) v113 x4_2) ∧ Aside0 (Kd.R (Kd.int .i64) 3 w' w.heap.size (fun k_ => some k_ ≠ ((.slice Ao20 t109.length co20) : Value).ownBlock ∧ some k_ ≠ (v113 : Value).ownBlock) v116 x5_4) ∧ Aside0 (Kd.S (Kd.slice 3 (Kd.int .i64)) 23 w' w.heap.size (fun k_ => some k_ ≠ ((.slice Ao20 t109.length co20) : Value).ownBlock ∧ some k_ ≠ (v113 : Value).ownBlock ∧ some k_ ≠ (v116 : Value).ownBlock) (.slice (some ad130) t122.length co41) t122) ∧ Aside0 (Kd.C (Kd.int .i64) w' (some ad129) y125.length y125) ∧ Aside0 (Kd.C (Kd.int .i64) w' A130_0 (rd_L1 t122 (rd y125 x57_4)).length (rd_L1 t122 (rd y125 x57_4))) ∧ Aside0 (Below w.heap.size w w'))
                                          case atStart => exact ⟨((-1)), (0), (by first | rfl | (simp; done) | (simp [*]; done)), (by first | rfl | (simp; done) | (simp [*]; done)), H', ⟨Nat.le_refl _⟩, ⟨by (with_reducible repeat (first | apply Kd.R_alloc | apply Kd.R_drewN | apply Kd.R_drew)); exact HO_3.out⟩, ⟨by (with_reducible repeat (first | apply Kd.R_alloc | apply Kd.R_drewN | apply Kd.R_drew)); exact HO_4.out⟩, ⟨by (with_reducible repeat (first | apply Kd.R_alloc | apply Kd.R_drewN | apply Kd.R_drew)); exact HO_5.out⟩, ⟨by (with_reducible repeat (first | apply Kd.S_alloc | apply Kd.S_drewN | apply Kd.S_drew)); exact HO_9.out⟩, ⟨by repeat (first | (with_reducible exact HR128.out) | (with_reducible refine Kd.C_alloc ?_ _) | (with_reducible refine Kd.C_drewN ?_ _) | (with_reducible refine Kd.C_drew ?_) | exact HR128.out)⟩, ⟨by repeat (first | (with_reducible exact HR130_0.out) | (with_reducible refine Kd.C_alloc ?_ _) | (with_reducible refine Kd.C_drewN ?_ _) | (with_reducible refine Kd.C_drew ?_) | exact HR130_0.out)⟩, ⟨by repeat (first | exact HB.out | apply below_alloc | apply pw_below_drewN | apply below_drew1)⟩⟩
                                          case round =>
                                            clear H'; (try clear c1); (try clear p1); (try clear q1); (try clear hx1); (try clear hf1); (try clear c2); (try clear p2); (try clear q2); (try clear hx2); (try clear hf2); (try clear c3); (try clear c3b0); (try clear c3b1); (try clear q3); (try clear c4); (try clear c4b0); (try clear c4b1); (try clear p6); (try clear c10); (try clear c10b0); (try clear c11); (try clear c11b0); (try clear c12); (try clear c12b0); (try clear p12); (try clear q12); (try clear hx12); (try clear c13); (try clear p13); (try clear q13); (try clear hx13); (try clear hf13); (try clear c14); (try clear c14b0); (try clear p15); (try clear q15); (try clear hx15); (try clear hf15); (try clear c21); (try clear c21b0); (try clear c22); (try clear c22b0); (try clear c23); (try clear c23b0); (try clear c24); (try clear c24b0); (try clear c25); (try clear c25b0); (try clear c26); (try clear p26); (try clear q26); (try clear hx26); (try clear hf26); (try clear c30); (try clear c31); (try clear c33); (try clear c33b0); (try clear c33b1); (try clear c34); (try clear c34b0); (try clear c34b1); (try clear c35); (try clear q35); (try clear c36); (try clear c36b0); (try clear c37); (try clear c37b0); (try clear c38); (try clear c38b0); (try clear c39); (try clear c39b0); (try clear c40); (try clear c40b0); (try clear hx120_0); (try clear hx129_0); (try clear hx130_0); (try clear hx13_0); (try clear hx15_0); (try clear hx26_0); (try clear p1); (try clear p12); (try clear p120); (try clear p129); (try clear p13); (try clear p130); (try clear p15); (try clear p2); (try clear p26); (try clear p6); (try clear q035); (try clear q1); (try clear q12); (try clear q120); (try clear q129); (try clear q13); (try clear q130); (try clear q15); (try clear q2); (try clear q26); (try clear q3); (try clear q35)
                                            obtain ⟨x13_5, x66_5, rfl, rfl, HA, HK5, HO_3, HO_4, HO_5, HO_9, HR128, HR130_0, HB⟩ := hrel
                                            cases gk with
                                            | zero => exact absurd HA.out (by simp [graph_Idom.l4])
                                            | succ k5 =>
                                              have H := HA.out
                                              clear HA
                                              simp only [graph_Idom.l4] at H
                                              by_cases c42 : x66_5 < ((rd_L1 t122 (rd y125 x57_4)).length : Int)
                                              · rw [if_pos c42] at H
                                                have c42b0 : decide (x66_5 < ((rd_L1 t122 (rd y125 x57_4)).length : Int)) = true := decide_eq_true c42
                                                clear c42
                                                by_cases c43 : 0 ≤ x66_5
                                                · rw [if_pos c43] at H
                                                  have c43b0 : decide (0 ≤ x66_5) = true := decide_eq_true c43
                                                  clear c43
                                                  by_cases c44 : x66_5 < ((rd_L1 t122 (rd y125 x57_4)).length : Int)
                                                  · rw [if_pos c44] at H
                                                    have c44b0 : decide (x66_5 < ((rd_L1 t122 (rd y125 x57_4)).length : Int)) = true := decide_eq_true c44
                                                    clear c44
                                                    have HC45 := Aside0.mk H
                                                    clear H
                                                    have p133 : 0 ≤ (x66_5 : Int) := of_decide_eq_true (by first | (with_reducible assumption) | assumption)
                                                    have q133 : x66_5 < ((rd_L1 t122 (rd y125 x57_4)).length : Int) := of_decide_eq_true (by first | (with_reducible assumption) | assumption)
                                                    obtain ⟨ad133, e133, hx133_0⟩ := Kd.at_int HR130_0.out x66_5 p133 q133
                                                    cases e133
                                                    try replace hx133_0 := (HB.out.cell (World.block_lt_of_cell? w _ hx133_0)).trans hx133_0
                                                    replace p133 := eq_true p133
                                                    replace q133 := eq_true q133
                                                    go_upto_region 25 with (fail)
                                                    go_cut [85] (fun v85 wc => ∃ (kq : Nat) (x85_44 : Bool), v85 = .bool x85_44 ∧ Aside0 (graph_Idom.j5 kq t109 x4_2 x5_4 t122 x10_4 (rd y125 x57_4) x13_5 (rd (rd_L1 t122 (rd y125 x57_4)) x66_5) y125 (y125.length : Int) x57_4 (rd_L1 t122 (rd y125 x57_4)) ((rd_L1 t122 (rd y125 x57_4)).length : Int) x66_5 x85_44 = some r) ∧ Aside0 (kq ≤ k5) ∧ Aside0 (Kd.R (Kd.int .i64) 3 wc w.heap.size (fun k_ => some k_ ≠ (v113 : Value).ownBlock ∧ some k_ ≠ (v116 : Value).ownBlock) (.slice Ao20 t109.length co20) t109) ∧ Aside0 (Kd.R (Kd.int .i64) 3 wc w.heap.size (fun k_ => some k_ ≠ ((.slice Ao20 t109.length co20) : Value).ownBlock ∧ some k_ ≠ (v116 : Value).ownBlock) v113 x4_2) ∧ Aside0 (Kd.R (Kd.int .i64) 3 wc w.heap.size (fun k_ => some k_ ≠ ((.slice Ao20 t109.length co20) : Value).ownBlock ∧ some k_ ≠ (v113 : Value).ownBlock) v116 x5_4) ∧ Aside0 (Kd.S (Kd.slice 3 (Kd.int .i64)) 23 wc w.heap.size (fun k_ => some k_ ≠ ((.slice Ao20 t109.length co20) : Value).ownBlock ∧ some k_ ≠ (v113 : Value).ownBlock ∧ some k_ ≠ (v116 : Value).ownBlock) (.slice (some ad130) t122.length co41) t122) ∧ Aside0 (Kd.C (Kd.int .i64) wc (some ad129) y125.length y125) ∧ Aside0 (Kd.C (Kd.int .i64) wc (some ad133) (rd_L1 t122 (rd y125 x57_4)).length (rd_L1 t122 (rd y125 x57_4))) ∧ Aside0 (Below w.heap.size w wc))
                                                    case first =>
                                                      have H := HC45.out
                                                      clear HC45
                                                      by_cases c46 : 0 ≤ (rd (rd_L1 t122 (rd y125 x57_4)) x66_5)
                                                      · rw [if_pos c46] at H
                                                        have c46b0 : decide (0 ≤ (rd (rd_L1 t122 (rd y125 x57_4)) x66_5)) = true := decide_eq_true c46
                                                        clear c46
                                                        (first | rw [c46b0] | (simp only [i64_w, i32_w]; rw [c46b0]) | skip)
                                                        by_cases c47 : (rd (rd_L1 t122 (rd y125 x57_4)) x66_5) < (x4_2.length : Int)
                                                        · rw [if_pos c47] at H
                                                          have c47b0 : decide ((rd (rd_L1 t122 (rd y125 x57_4)) x66_5) < (x4_2.length : Int)) = true := decide_eq_true c47
                                                          clear c47
                                                          by_cases c48 : (rd x4_2 (rd (rd_L1 t122 (rd y125 x57_4)) x66_5)) < 0
                                                          · rw [if_pos c48] at H
                                                            have c48b0 : decide ((rd x4_2 (rd (rd_L1 t122 (rd y125 x57_4)) x66_5)) < 0) = true := decide_eq_true c48
                                                            clear c48
                                                            have H' := Aside0.mk H
                                                            clear H
                                                            obtain ⟨Ao49, co49, eo49⟩ := Kd.R_slice HO_4.out
                                                            subst eo49
                                                            have p134 : 0 ≤ ((rd (rd_L1 t122 (rd y125 x57_4)) x66_5) : Int) := of_decide_eq_true (by first | (with_reducible assumption) | assumption)
                                                            have q134 : (rd (rd_L1 t122 (rd y125 x57_4)) x66_5) < (x4_2.length : Int) := of_decide_eq_true (by first | (with_reducible assumption) | assumption)
                                                            obtain ⟨ad134, e134, hx134_0⟩ := Kd.at_int (Kd.R_reads' HO_4.out).2.2 (rd (rd_L1 t122 (rd y125 x57_4)) x66_5) p134 q134
                                                            cases e134
                                                            replace p134 := eq_true p134
                                                            replace q134 := eq_true q134
                                                            go_wp2
                                                            go_meet
                                                            case rel => exact ⟨_, (true), (by first | rfl | (simp; done) | (simp [*]; done)), H', ⟨by have := HK1.out; have := HK2.out; have := HK3.out; have := HK4.out; have := HK5.out; first | omega | exact Nat.le_refl _⟩, ⟨by (with_reducible repeat (first | apply Kd.R_alloc | apply Kd.R_drewN | apply Kd.R_drew)); exact HO_3.out⟩, ⟨by (with_reducible repeat (first | apply Kd.R_alloc | apply Kd.R_drewN | apply Kd.R_drew)); exact HO_4.out⟩, ⟨by (with_reducible repeat (first | apply Kd.R_alloc | apply Kd.R_drewN | apply Kd.R_drew)); exact HO_5.out⟩, ⟨by (with_reducible repeat (first | apply Kd.S_alloc | apply Kd.S_drewN | apply Kd.S_drew)); exact HO_9.out⟩, ⟨by repeat (first | (with_reducible exact HR128.out) | (with_reducible refine Kd.C_alloc ?_ _) | (with_reducible refine Kd.C_drewN ?_ _) | (with_reducible refine Kd.C_drew ?_) | exact HR128.out)⟩, ⟨by repeat (first | (with_reducible exact HR130_0.out) | (with_reducible refine Kd.C_alloc ?_ _) | (with_reducible refine Kd.C_drewN ?_ _) | (with_reducible refine Kd.C_drew ?_) | exact HR130_0.out)⟩, ⟨by repeat (first | exact HB.out | apply below_alloc | apply pw_below_drewN | apply below_drew1)⟩⟩
                                                          · rw [if_neg c48] at H
                                                            have c48b0 : decide ((rd x4_2 (rd (rd_L1 t122 (rd y125 x57_4)) x66_5)) < 0) = false := decide_eq_false c48
                                                            clear c48
                                                            by_cases c50 : (rd (rd_L1 t122 (rd y125 x57_4)) x66_5) = 0
                                                            · rw [if_pos c50] at H
                                                              have c50b0 : ((rd (rd_L1 t122 (rd y125 x57_4)) x66_5) == 0) = true := beq_iff_eq.mpr c50
                                                              have c50b1 : ((rd (rd_L1 t122 (rd y125 x57_4)) x66_5) != 0) = false := bne_eq_false_iff_eq.mpr c50
                                                              clear c50
                                                              have H' := Aside0.mk H
                                                              clear H
                                                              obtain ⟨Ao51, co51, eo51⟩ := Kd.R_slice HO_4.out
                                                              subst eo51
                                                              have p134 : 0 ≤ ((rd (rd_L1 t122 (rd y125 x57_4)) x66_5) : Int) := of_decide_eq_true (by first | (with_reducible assumption) | assumption)
                                                              have q134 : (rd (rd_L1 t122 (rd y125 x57_4)) x66_5) < (x4_2.length : Int) := of_decide_eq_true (by first | (with_reducible assumption) | assumption)
                                                              obtain ⟨ad134, e134, hx134_0⟩ := Kd.at_int (Kd.R_reads' HO_4.out).2.2 (rd (rd_L1 t122 (rd y125 x57_4)) x66_5) p134 q134
                                                              cases e134
                                                              replace p134 := eq_true p134
                                                              replace q134 := eq_true q134
                                                              go_wp2
                                                              go_meet
                                                              case rel => exact ⟨_, (false), (by first | rfl | (simp; done) | (simp [*]; done)), H', ⟨by have := HK1.out; have := HK2.out; have := HK3.out; have := HK4.out; have := HK5.out; first | omega | exact Nat.le_refl _⟩, ⟨by (with_reducible repeat (first | apply Kd.R_alloc | apply Kd.R_drewN | apply Kd.R_drew)); exact HO_3.out⟩, ⟨by (with_reducible repeat (first | apply Kd.R_alloc | apply Kd.R_drewN | apply Kd.R_drew)); exact HO_4.out⟩, ⟨by (with_reducible repeat (first | apply Kd.R_alloc | apply Kd.R_drewN | apply Kd.R_drew)); exact HO_5.out⟩, ⟨by (with_reducible repeat (first | apply Kd.S_alloc | apply Kd.S_drewN | apply Kd.S_drew)); exact HO_9.out⟩, ⟨by repeat (first | (with_reducible exact HR128.out) | (with_reducible refine Kd.C_alloc ?_ _) | (with_reducible refine Kd.C_drewN ?_ _) | (with_reducible refine Kd.C_drew ?_) | exact HR128.out)⟩, ⟨by repeat (first | (with_reducible exact HR130_0.out) | (with_reducible refine Kd.C_alloc ?_ _) | (with_reducible refine Kd.C_drewN ?_ _) | (with_reducible refine Kd.C_drew ?_) | exact HR130_0.out)⟩, ⟨by repeat (first | exact HB.out | apply below_alloc | apply pw_below_drewN | apply below_drew1)⟩⟩
                                                            · rw [if_neg c50] at H
                                                              have c50b0 : ((rd (rd_L1 t122 (rd y125 x57_4)) x66_5) == 0) = false := beq_eq_false_iff_ne.mpr c50
                                                              have c50b1 : ((rd (rd_L1 t122 (rd y125 x57_4)) x66_5) != 0) = true := bne_iff_ne.mpr c50
                                                              by_cases c52 : (rd (rd_L1 t122 (rd y125 x57_4)) x66_5) < (x5_4.length : Int)
                                                              · rw [if_pos c52] at H
                                                                have c52b0 : decide ((rd (rd_L1 t122 (rd y125 x57_4)) x66_5) < (x5_4.length : Int)) = true := decide_eq_true c52
                                                                clear c52
                                                                have H' := Aside0.mk H
                                                                clear H
                                                                obtain ⟨Ao53, co53, eo53⟩ := Kd.R_slice HO_4.out
                                                                subst eo53
                                                                have p134 : 0 ≤ ((rd (rd_L1 t122 (rd y125 x57_4)) x66_5) : Int) := of_decide_eq_true (by first | (with_reducible assumption) | assumption)
                                                                have q134 : (rd (rd_L1 t122 (rd y125 x57_4)) x66_5) < (x4_2.length : Int) := of_decide_eq_true (by first | (with_reducible assumption) | assumption)
                                                                obtain ⟨ad134, e134, hx134_0⟩ := Kd.at_int (Kd.R_reads' HO_4.out).2.2 (rd (rd_L1 t122 (rd y125 x57_4)) x66_5) p134 q134
                                                                cases e134
                                                                replace p134 := eq_true p134
                                                                replace q134 := eq_true q134
                                                                obtain ⟨Ao54, co54, eo54⟩ := Kd.R_slice HO_5.out
                                                                subst eo54
                                                                have p135 : 0 ≤ ((rd (rd_L1 t122 (rd y125 x57_4)) x66_5) : Int) := of_decide_eq_true (by first | (with_reducible assumption) | assumption)
                                                                have q135 : (rd (rd_L1 t122 (rd y125 x57_4)) x66_5) < (x5_4.length : Int) := of_decide_eq_true (by first | (with_reducible assumption) | assumption)
                                                                obtain ⟨ad135, e135, hx135_0⟩ := Kd.at_int (Kd.R_reads' HO_5.out).2.2 (rd (rd_L1 t122 (rd y125 x57_4)) x66_5) p135 q135
                                                                cases e135
                                                                replace p135 := eq_true p135
                                                                replace q135 := eq_true q135
                                                                go_wp2
                                                                go_meet
                                                                case rel => exact ⟨_, (decide ((rd x5_4 (rd (rd_L1 t122 (rd y125 x57_4)) x66_5)) < 0)), (by first | rfl | (simp; done) | (simp [*]; done)), H', ⟨by have := HK1.out; have := HK2.out; have := HK3.out; have := HK4.out; have := HK5.out; first | omega | exact Nat.le_refl _⟩, ⟨by (with_reducible repeat (first | apply Kd.R_alloc | apply Kd.R_drewN | apply Kd.R_drew)); exact HO_3.out⟩, ⟨by (with_reducible repeat (first | apply Kd.R_alloc | apply Kd.R_drewN | apply Kd.R_drew)); exact HO_4.out⟩, ⟨by (with_reducible repeat (first | apply Kd.R_alloc | apply Kd.R_drewN | apply Kd.R_drew)); exact HO_5.out⟩, ⟨by (with_reducible repeat (first | apply Kd.S_alloc | apply Kd.S_drewN | apply Kd.S_drew)); exact HO_9.out⟩, ⟨by repeat (first | (with_reducible exact HR128.out) | (with_reducible refine Kd.C_alloc ?_ _) | (with_reducible refine Kd.C_drewN ?_ _) | (with_reducible refine Kd.C_drew ?_) | exact HR128.out)⟩, ⟨by repeat (first | (with_reducible exact HR130_0.out) | (with_reducible refine Kd.C_alloc ?_ _) | (with_reducible refine Kd.C_drewN ?_ _) | (with_reducible refine Kd.C_drew ?_) | exact HR130_0.out)⟩, ⟨by repeat (first | exact HB.out | apply below_alloc | apply pw_below_drewN | apply below_drew1)⟩⟩
                                                              · rw [if_neg c52] at H
                                                                exact absurd H (by simp)
                                                        · rw [if_neg c47] at H
                                                          exact absurd H (by simp)
                                                      · rw [if_neg c46] at H
                                                        exact absurd H (by simp)
                                                    case rest =>
                                                      clear HC45; (try clear c1); (try clear p1); (try clear q1); (try clear hx1); (try clear hf1); (try clear c2); (try clear p2); (try clear q2); (try clear hx2); (try clear hf2); (try clear c3); (try clear c3b0); (try clear c3b1); (try clear q3); (try clear c4); (try clear c4b0); (try clear c4b1); (try clear c5); (try clear p6); (try clear c10); (try clear c10b0); (try clear c11); (try clear c11b0); (try clear c12); (try clear c12b0); (try clear p12); (try clear q12); (try clear hx12); (try clear c13); (try clear p13); (try clear q13); (try clear hx13); (try clear hf13); (try clear c14); (try clear c14b0); (try clear p15); (try clear q15); (try clear hx15); (try clear hf15); (try clear c21); (try clear c21b0); (try clear c22); (try clear c22b0); (try clear c23); (try clear c23b0); (try clear c24); (try clear c24b0); (try clear c25); (try clear c25b0); (try clear c26); (try clear p26); (try clear q26); (try clear hx26); (try clear hf26); (try clear c30); (try clear c31); (try clear c33); (try clear c33b0); (try clear c33b1); (try clear c34); (try clear c34b0); (try clear c34b1); (try clear c35); (try clear q35); (try clear c36); (try clear c36b0); (try clear c37); (try clear c37b0); (try clear c38); (try clear c38b0); (try clear c39); (try clear c39b0); (try clear c40); (try clear c40b0); (try clear c42); (try clear c42b0); (try clear c43); (try clear c43b0); (try clear c44); (try clear c44b0); (try clear c46); (try clear c46b0); (try clear c47); (try clear c47b0); (try clear c48); (try clear c48b0); (try clear c50); (try clear c50b0); (try clear c50b1); (try clear c52); (try clear c52b0); (try clear hx120_0); (try clear hx129_0); (try clear hx130_0); (try clear hx133_0); (try clear hx134_0); (try clear hx135_0); (try clear hx13_0); (try clear hx15_0); (try clear hx26_0); (try clear p1); (try clear p12); (try clear p120); (try clear p129); (try clear p13); (try clear p130); (try clear p133); (try clear p134); (try clear p135); (try clear p15); (try clear p2); (try clear p26)
                                                      (try clear p6); (try clear q035); (try clear q1); (try clear q12); (try clear q120); (try clear q129); (try clear q13); (try clear q130); (try clear q133); (try clear q134); (try clear q135); (try clear q15); (try clear q2); (try clear q26); (try clear q3); (try clear q35)
                                                      obtain ⟨kq, x85_44, rfl, HA, HJ44, HO_3, HO_4, HO_5, HO_9, HR128, HR130_0, HB⟩ := hcut
                                                      cases kq with
                                                      | zero => exact absurd HA.out (by simp [graph_Idom.j5])
                                                      | succ kj44 =>
                                                        have H := HA.out
                                                        clear HA
                                                        simp only [graph_Idom.j5] at H
                                                        by_cases c55 : x85_44 = true
                                                        · subst c55
                                                          rw [if_pos rfl] at H
                                                          have H' := Aside0.mk H
                                                          clear H
                                                          go_wp2
                                                          go_roundg kj44
                                                          case measure => have := HK1.out; have := HK2.out; have := HK3.out; have := HK4.out; have := HK5.out; have := HJ44.out; omega
                                                          case rel => exact ⟨(x13_5), (wrap64 (x66_5 + 1)), (by first | rfl | (simp; done) | (simp [*]; done)), (by first | rfl | (simp; done) | (simp [*]; done)), H', ⟨by have := HK1.out; have := HK2.out; have := HK3.out; have := HK4.out; have := HK5.out; have := HJ44.out; omega⟩, ⟨by (with_reducible repeat (first | apply Kd.R_alloc | apply Kd.R_drewN | apply Kd.R_drew)); exact HO_3.out⟩, ⟨by (with_reducible repeat (first | apply Kd.R_alloc | apply Kd.R_drewN | apply Kd.R_drew)); exact HO_4.out⟩, ⟨by (with_reducible repeat (first | apply Kd.R_alloc | apply Kd.R_drewN | apply Kd.R_drew)); exact HO_5.out⟩, ⟨by (with_reducible repeat (first | apply Kd.S_alloc | apply Kd.S_drewN | apply Kd.S_drew)); exact HO_9.out⟩, ⟨by repeat (first | (with_reducible exact HR128.out) | (with_reducible refine Kd.C_alloc ?_ _) | (with_reducible refine Kd.C_drewN ?_ _) | (with_reducible refine Kd.C_drew ?_) | exact HR128.out)⟩, ⟨by repeat (first | (with_reducible exact HR130_0.out) | (with_reducible refine Kd.C_alloc ?_ _) | (with_reducible refine Kd.C_drewN ?_ _) | (with_reducible refine Kd.C_drew ?_) | exact HR130_0.out)⟩, ⟨by repeat (first | exact HB.out | apply below_alloc | apply pw_below_drewN | apply below_drew1)⟩⟩
                                                        · replace c55 := Bool.eq_false_iff.mpr c55
                                                          subst c55
                                                          rw [if_neg (show ¬ (false = true) by decide)] at H
                                                          by_cases c56 : x13_5 < 0
                                                          · rw [if_pos c56] at H
                                                            have c56b0 : decide (x13_5 < 0) = true := decide_eq_true c56
                                                            clear c56
                                                            have H' := Aside0.mk H
                                                            clear H
                                                            go_wp2
                                                            go_roundg kj44
                                                            case measure => have := HK1.out; have := HK2.out; have := HK3.out; have := HK4.out; have := HK5.out; have := HJ44.out; omega
                                                            case rel => exact ⟨((rd (rd_L1 t122 (rd y125 x57_4)) x66_5)), (wrap64 (x66_5 + 1)), (by first | rfl | (simp; done) | (simp [*]; done)), (by first | rfl | (simp; done) | (simp [*]; done)), H', ⟨by have := HK1.out; have := HK2.out; have := HK3.out; have := HK4.out; have := HK5.out; have := HJ44.out; omega⟩, ⟨by (with_reducible repeat (first | apply Kd.R_alloc | apply Kd.R_drewN | apply Kd.R_drew)); exact HO_3.out⟩, ⟨by (with_reducible repeat (first | apply Kd.R_alloc | apply Kd.R_drewN | apply Kd.R_drew)); exact HO_4.out⟩, ⟨by (with_reducible repeat (first | apply Kd.R_alloc | apply Kd.R_drewN | apply Kd.R_drew)); exact HO_5.out⟩, ⟨by (with_reducible repeat (first | apply Kd.S_alloc | apply Kd.S_drewN | apply Kd.S_drew)); exact HO_9.out⟩, ⟨by repeat (first | (with_reducible exact HR128.out) | (with_reducible refine Kd.C_alloc ?_ _) | (with_reducible refine Kd.C_drewN ?_ _) | (with_reducible refine Kd.C_drew ?_) | exact HR128.out)⟩, ⟨by repeat (first | (with_reducible exact HR130_0.out) | (with_reducible refine Kd.C_alloc ?_ _) | (with_reducible refine Kd.C_drewN ?_ _) | (with_reducible refine Kd.C_drew ?_) | exact HR130_0.out)⟩, ⟨by repeat (first | exact HB.out | apply below_alloc | apply pw_below_drewN | apply below_drew1)⟩⟩
                                                          · rw [if_neg c56] at H
                                                            have c56b0 : decide (x13_5 < 0) = false := decide_eq_false c56
                                                            clear c56
                                                            replace H := Option.bind_eq_some_iff.mp H
                                                            obtain ⟨t136, A570, H⟩ := H
                                                            have A57 := Aside0.mk A570
                                                            clear A570
                                                            have H' := Aside0.mk H
                                                            clear H
                                                            obtain ⟨Ao58, co58, eo58⟩ := Kd.R_slice HO_5.out
                                                            subst eo58
                                                            obtain ⟨Ao59, co59, eo59⟩ := Kd.R_slice HO_4.out
                                                            subst eo59
                                                            go_wp2_with (first | ((with_reducible refine gate_callee (f := 73) rfl ?_); refine goesL_ (some 93) rfl rfl Try.func73 (by kernel_rfl) rfl #[.slice Ao58 x5_4.length co58, .slice Ao59 x4_2.length co59, .int .i64 x13_5, .int .i64 (rd (rd_L1 t122 (rd y125 x57_4)) x66_5)] rfl (by (try simp only [List.map_toArray, List.map_cons, List.map_nil]); first | done | rfl | (simp only [List.length_drop, List.length_take]; rfl)) ?_; (with_reducible refine (graph_common.calls kj44 _ _ x5_4 _ _ x4_2 x13_5 (rd (rd_L1 t122 (rd y125 x57_4)) x66_5) t136 _ ?side1 ?side2 ?side3 ?side4 A57.out).mono ?_); (case side1 => repeat (first | exact (Kd.R_reads' HO_5.out).2.2 | (with_reducible refine Kd.C_alloc ?_ _) | (with_reducible refine Kd.C_drewN ?_ _) | (with_reducible refine Kd.C_drew ?_))); (case side2 => exact (Kd.R_reads' HO_5.out).2.1); (case side3 => repeat (first | exact (Kd.R_reads' HO_4.out).2.2 | (with_reducible refine Kd.C_alloc ?_ _) | (with_reducible refine Kd.C_drewN ?_ _) | (with_reducible refine Kd.C_drew ?_))); (case side4 => exact (Kd.R_reads' HO_4.out).2.1); rintro e w' ⟨rfl, ⟨nd, rfl⟩⟩; refine ⟨_, rfl, ?_⟩))
                                                            go_roundg kj44
                                                            case measure => have := HK1.out; have := HK2.out; have := HK3.out; have := HK4.out; have := HK5.out; have := HJ44.out; omega
                                                            case rel => exact ⟨(t136), (wrap64 (x66_5 + 1)), (by first | rfl | (simp; done) | (simp [*]; done)), (by first | rfl | (simp; done) | (simp [*]; done)), H', ⟨by have := HK1.out; have := HK2.out; have := HK3.out; have := HK4.out; have := HK5.out; have := HJ44.out; omega⟩, ⟨by (with_reducible repeat (first | apply Kd.R_alloc | apply Kd.R_drewN | apply Kd.R_drew)); exact HO_3.out⟩, ⟨by (with_reducible repeat (first | apply Kd.R_alloc | apply Kd.R_drewN | apply Kd.R_drew)); exact HO_4.out⟩, ⟨by (with_reducible repeat (first | apply Kd.R_alloc | apply Kd.R_drewN | apply Kd.R_drew)); exact HO_5.out⟩, ⟨by (with_reducible repeat (first | apply Kd.S_alloc | apply Kd.S_drewN | apply Kd.S_drew)); exact HO_9.out⟩, ⟨by repeat (first | (with_reducible exact HR128.out) | (with_reducible refine Kd.C_alloc ?_ _) | (with_reducible refine Kd.C_drewN ?_ _) | (with_reducible refine Kd.C_drew ?_) | exact HR128.out)⟩, ⟨by repeat (first | (with_reducible exact HR130_0.out) | (with_reducible refine Kd.C_alloc ?_ _) | (with_reducible refine Kd.C_drewN ?_ _) | (with_reducible refine Kd.C_drew ?_) | exact HR130_0.out)⟩, ⟨by repeat (first | exact HB.out | apply below_alloc | apply pw_below_drewN | apply below_drew1)⟩⟩
                                                  · rw [if_neg c44] at H
                                                    exact absurd H (by simp)
                                                · rw [if_neg c43] at H
                                                  exact absurd H (by simp)
                                              · rw [if_neg c42] at H
                                                have c42b0 : decide (x66_5 < ((rd_L1 t122 (rd y125 x57_4)).length : Int)) = false := decide_eq_false c42
                                                clear c42
                                                by_cases c60 : 0 ≤ (rd y125 x57_4)
                                                · rw [if_pos c60] at H
                                                  have c60b0 : decide (0 ≤ (rd y125 x57_4)) = true := decide_eq_true c60
                                                  clear c60
                                                  by_cases c61 : (rd y125 x57_4) < (x5_4.length : Int)
                                                  · rw [if_pos c61] at H
                                                    have c61b0 : decide ((rd y125 x57_4) < (x5_4.length : Int)) = true := decide_eq_true c61
                                                    clear c61
                                                    by_cases c62 : (rd x5_4 (rd y125 x57_4)) = x13_5
                                                    · rw [if_pos c62] at H
                                                      have c62b0 : ((rd x5_4 (rd y125 x57_4)) == x13_5) = true := beq_iff_eq.mpr c62
                                                      have c62b1 : ((rd x5_4 (rd y125 x57_4)) != x13_5) = false := bne_eq_false_iff_eq.mpr c62
                                                      clear c62
                                                      have H' := Aside0.mk H
                                                      clear H
                                                      obtain ⟨Ao63, co63, eo63⟩ := Kd.R_slice HO_5.out
                                                      subst eo63
                                                      have p131 : 0 ≤ ((rd y125 x57_4) : Int) := of_decide_eq_true (by first | (with_reducible assumption) | assumption)
                                                      have q131 : (rd y125 x57_4) < (x5_4.length : Int) := of_decide_eq_true (by first | (with_reducible assumption) | assumption)
                                                      obtain ⟨ad131, e131, hx131_0⟩ := Kd.at_int (Kd.R_reads' HO_5.out).2.2 (rd y125 x57_4) p131 q131
                                                      cases e131
                                                      replace p131 := eq_true p131
                                                      replace q131 := eq_true q131
                                                      go_wp2
                                                      go_roundg k5
                                                      case measure => have := HK1.out; have := HK2.out; have := HK3.out; have := HK4.out; have := HK5.out; omega
                                                      case rel => exact ⟨(x5_4), (x10_4), (wrap64 (x57_4 + 1)), (by first | rfl | (simp; done) | (simp [*]; done)), (by first | rfl | (simp; done) | (simp [*]; done)), H', ⟨by have := HK1.out; have := HK2.out; have := HK3.out; have := HK4.out; have := HK5.out; omega⟩, ⟨by (with_reducible repeat (first | apply Kd.R_alloc | apply Kd.R_drewN | apply Kd.R_drew)); exact HO_3.out⟩, ⟨by (with_reducible repeat (first | apply Kd.R_alloc | apply Kd.R_drewN | apply Kd.R_drew)); exact HO_4.out⟩, ⟨by (with_reducible repeat (first | apply Kd.R_alloc | apply Kd.R_drewN | apply Kd.R_drew)); exact HO_5.out⟩, ⟨by (with_reducible repeat (first | apply Kd.S_alloc | apply Kd.S_drewN | apply Kd.S_drew)); exact HO_9.out⟩, ⟨by repeat (first | (with_reducible exact HR128.out) | (with_reducible refine Kd.C_alloc ?_ _) | (with_reducible refine Kd.C_drewN ?_ _) | (with_reducible refine Kd.C_drew ?_) | exact HR128.out)⟩, ⟨by repeat (first | exact HB.out | apply below_alloc | apply pw_below_drewN | apply below_drew1)⟩⟩
                                                    · rw [if_neg c62] at H
                                                      have c62b0 : ((rd x5_4 (rd y125 x57_4)) == x13_5) = false := beq_eq_false_iff_ne.mpr c62
                                                      have c62b1 : ((rd x5_4 (rd y125 x57_4)) != x13_5) = true := bne_iff_ne.mpr c62
                                                      obtain ⟨y132, hy132⟩ : ∃ y_ : List Int, y_ = (x5_4.set ((rd y125 x57_4) : Int).toNat x13_5) := ⟨_, rfl⟩
                                                      replace H : (graph_Idom.l3 k5 t109 x4_2 y132 t122 true y125 (y125.length : Int) (wrap64 (x57_4 + 1))) = some r := by first | (rw [hy132]; with_reducible exact H) | (have H2_ := (Option.bind_some _ _).symm.trans H; rw [hy132]; with_reducible exact H2_) | (have H2_ := (Option.bind_some _ _).symm.trans H; with_reducible exact H2_) | with_reducible exact H | (rw [hy132]; exact H) | exact H
                                                      have Ny132 := Aside0.mk hy132
                                                      clear hy132
                                                      have H' := Aside0.mk H
                                                      clear H
                                                      obtain ⟨Ao65, co65, eo65⟩ := Kd.R_slice HO_5.out
                                                      subst eo65
                                                      have p131 : 0 ≤ ((rd y125 x57_4) : Int) := of_decide_eq_true (by first | (with_reducible assumption) | assumption)
                                                      have q131 : (rd y125 x57_4) < (x5_4.length : Int) := of_decide_eq_true (by first | (with_reducible assumption) | assumption)
                                                      obtain ⟨ad131, e131, hx131_0⟩ := Kd.at_int (Kd.R_reads' HO_5.out).2.2 (rd y125 x57_4) p131 q131
                                                      cases e131
                                                      replace p131 := eq_true p131
                                                      replace q131 := eq_true q131
                                                      have p64 : 0 ≤ ((rd y125 x57_4) : Int) := of_decide_eq_true (by first | (with_reducible assumption) | assumption)
                                                      have q64 : ((rd y125 x57_4) : Int) < ((x5_4.length : Int) : Int) := of_decide_eq_true (by first | (with_reducible assumption) | assumption)
                                                      obtain ⟨go64, co64, eo64, gb64, gl64, cl64, HG64⟩ := Kd.R_form HO_5.out (by omega)
                                                      (first | cases eo64 | (injection eo64 with ea_ en_ ec_; (first | subst ea_ | (injection ea_ with ea_; subst ea_)); subst ec_; clear en_))
                                                      have GB64 := Aside0.mk gb64
                                                      have GG64 := Aside0.mk HG64
                                                      clear gb64 gl64 HG64
                                                      (first | simp only [add_plain] at hx131_0 | skip)
                                                      obtain ⟨hx64_0, hf64_0⟩ := Kd.R_celln 0 HO_5.out ((rd y125 x57_4) : Int) p64 q64
                                                      replace p64 := eq_true p64
                                                      replace q64 := eq_true q64
                                                      have HP66 := Kd.R_putg HO_5.out ((rd y125 x57_4) : Int) x13_5
                                                      go_wp2_with (first | ((with_reducible refine gate_store (t := 3) (p := 104) rfl ?_); refine store_event (t := 3) (p := 104) (v := ?vo_w67) (w1 := (wr.setCell ⟨go64, ((rd y125 x57_4) : Int).toNat, none⟩ (.int .i64 x13_5))) ?hg ?ho ?hn ?hr ?_; (case ho => rfl); (case hg => rfl); (case hn => rfl); (case hr => first | (go_simp; done) | (go_simp; rfl)); intro w67 hw; have hg : wr.grownBy w67 (some go64) := (by rw [hw]; exact HP66.2); have hp_ : Kd.R (Kd.int .i64) 3 w67 w.heap.size (fun k_ => some k_ ≠ (.slice Ao20 t109.length co20 : Value).ownBlock ∧ some k_ ≠ (v113 : Value).ownBlock) (.slice (some ⟨go64, 0, none⟩) x5_4.length co65) y132 := (by rw [hw, Ny132.out]; exact HP66.1); clear HP66; have n0_ := Aside0.mk (Kd.R_after (v := (.slice (some ⟨go64, 0, none⟩) x5_4.length co65)) (v1 := (.slice (some ⟨go64, 0, none⟩) x5_4.length co65)) (ok := (fun k_ => some k_ ≠ (v113 : Value).ownBlock)) (by (with_reducible repeat (first | apply Kd.R_alloc | apply Kd.R_drewN | apply Kd.R_drew)); exact HO_3.out) hg (.inl rfl)); have n1_ := Aside0.mk (Kd.R_after (v := (.slice (some ⟨go64, 0, none⟩) x5_4.length co65)) (v1 := (.slice (some ⟨go64, 0, none⟩) x5_4.length co65)) (ok := (fun k_ => some k_ ≠ (.slice Ao20 t109.length co20 : Value).ownBlock)) (by (with_reducible repeat (first | apply Kd.R_alloc | apply Kd.R_drewN | apply Kd.R_drew)); exact HO_4.out) hg (.inl rfl)); have n2_ := Aside0.mk (hp_); have n3_ := Aside0.mk (Kd.S_after (v := (.slice (some ⟨go64, 0, none⟩) x5_4.length co65)) (v1 := (.slice (some ⟨go64, 0, none⟩) x5_4.length co65)) (ok := (fun k_ => some k_ ≠ (.slice Ao20 t109.length co20 : Value).ownBlock ∧ some k_ ≠ (v113 : Value).ownBlock)) (by (with_reducible repeat (first | apply Kd.S_alloc | apply Kd.S_drewN | apply Kd.S_drew)); exact Kd.S_mono HO_9.out (fun _ hk => ⟨⟨hk.1, hk.2.1⟩, hk.2.2⟩)) hg (.inl rfl)); have n4_ := Aside0.mk ((by rw [hw]; exact below_set (HB.out) GB64.out : Below w.heap.size w w67)); have n5_ := Aside0.mk ((show Kd.C (Kd.int .i64) w67 (some ad129) y125.length y125 from by rw [Ny125.out, KA35.out]; exact Kd.C_drop (m := ((ji32) : Int).toNat) (c := co20) ((Kd.R_reads' (Kd.R_after (v := (.slice (some ⟨go64, 0, none⟩) x5_4.length co65)) (v1 := (.slice (some ⟨go64, 0, none⟩) x5_4.length co65)) (ok := (fun k_ => some k_ ≠ (v113 : Value).ownBlock)) (by (with_reducible repeat (first | apply Kd.R_alloc | apply Kd.R_drewN | apply Kd.R_drew)); exact HO_3.out) hg (.inl rfl))).2.2) KL35.out ((Kd.R_reads' (Kd.R_after (v := (.slice (some ⟨go64, 0, none⟩) x5_4.length co65)) (v1 := (.slice (some ⟨go64, 0, none⟩) x5_4.length co65)) (ok := (fun k_ => some k_ ≠ (v113 : Value).ownBlock)) (by (with_reducible repeat (first | apply Kd.R_alloc | apply Kd.R_drewN | apply Kd.R_drew)); exact HO_3.out) hg (.inl rfl))).2.1))); clear HO_3; clear HO_4; clear HO_5; clear HO_9; clear HB; clear HR128; have HO_3 := n0_; have HO_4 := n1_; have HO_5 := n2_; have HO_9 := n3_; have HB := n4_; have HR128 := n5_; clear n0_ n1_ n2_ n3_ n4_ n5_; clear hg hw hp_))
                                                      go_roundg k5
                                                      case measure => have := HK1.out; have := HK2.out; have := HK3.out; have := HK4.out; have := HK5.out; omega
                                                      case rel => exact ⟨(y132), (true), (wrap64 (x57_4 + 1)), (by first | rfl | (simp; done) | (simp [*]; done)), (by first | rfl | (simp; done) | (simp [*]; done)), H', ⟨by have := HK1.out; have := HK2.out; have := HK3.out; have := HK4.out; have := HK5.out; omega⟩, ⟨by (with_reducible repeat (first | apply Kd.R_alloc | apply Kd.R_drewN | apply Kd.R_drew)); exact HO_3.out⟩, ⟨by (with_reducible repeat (first | apply Kd.R_alloc | apply Kd.R_drewN | apply Kd.R_drew)); exact HO_4.out⟩, ⟨by (with_reducible repeat (first | apply Kd.R_alloc | apply Kd.R_drewN | apply Kd.R_drew)); exact HO_5.out⟩, ⟨by (with_reducible repeat (first | apply Kd.S_alloc | apply Kd.S_drewN | apply Kd.S_drew)); exact Kd.S_mono HO_9.out (fun _ hk => ⟨hk.1.1, ⟨hk.1.2, hk.2⟩⟩)⟩, ⟨by repeat (first | (with_reducible exact HR128.out) | (with_reducible refine Kd.C_alloc ?_ _) | (with_reducible refine Kd.C_drewN ?_ _) | (with_reducible refine Kd.C_drew ?_) | exact HR128.out)⟩, ⟨by repeat (first | exact HB.out | apply below_alloc | apply pw_below_drewN | apply below_drew1)⟩⟩
                                                  · rw [if_neg c61] at H
                                                    exact absurd H (by simp)
                                                · rw [if_neg c60] at H
                                                  exact absurd H (by simp)
                                        · rw [if_neg c40] at H
                                          exact absurd H (by simp)
                                      · rw [if_neg c39] at H
                                        exact absurd H (by simp)
                                    · rw [if_neg c38] at H
                                      exact absurd H (by simp)
                                  · rw [if_neg c37] at H
                                    exact absurd H (by simp)
                                · rw [if_neg c36] at H
                                  have c36b0 : decide (x57_4 < (y125.length : Int)) = false := decide_eq_false c36
                                  clear c36
                                  have H' := Aside0.mk H
                                  clear H
                                  go_wp2
                                  go_roundg k4
                                  case measure => have := HK1.out; have := HK2.out; have := HK3.out; have := HK4.out; omega
                                  case rel => exact ⟨(x5_4), (x10_4), (by first | rfl | (simp; done) | (simp [*]; done)), H', ⟨by have := HK1.out; have := HK2.out; have := HK3.out; have := HK4.out; omega⟩, ⟨by (with_reducible repeat (first | apply Kd.R_alloc | apply Kd.R_drewN | apply Kd.R_drew)); exact HO_3.out⟩, ⟨by (with_reducible repeat (first | apply Kd.R_alloc | apply Kd.R_drewN | apply Kd.R_drew)); exact HO_4.out⟩, ⟨by (with_reducible repeat (first | apply Kd.R_alloc | apply Kd.R_drewN | apply Kd.R_drew)); exact HO_5.out⟩, ⟨by (with_reducible repeat (first | apply Kd.S_alloc | apply Kd.S_drewN | apply Kd.S_drew)); exact HO_9.out⟩, ⟨by repeat (first | exact HB.out | apply below_alloc | apply pw_below_drewN | apply below_drew1)⟩⟩
                          · rw [if_neg c34] at H
                            exact absurd H (by simp)
                        · rw [if_neg c33] at H
                          exact absurd H (by simp)
                      · replace c31 := Bool.eq_false_iff.mpr c31
                        subst c31
                        rw [if_neg (show ¬ (false = true) by decide)] at H
                        obtain rfl := Option.some.inj H
                        go_wp2
                        go_ret
                        exact ⟨_, by first | rfl | (simp [errW_none, errW_some] <;> rfl) | (simp [*, errW_none, errW_some] <;> rfl), by (with_reducible repeat (first | apply Kd.R_alloc | apply Kd.R_drewN | apply Kd.R_drew)); exact Kd.R_mono HO_5.out (fun _ hk => trivial), by repeat (first | exact HB.out | apply below_alloc | apply pw_below_drewN | apply below_drew1)⟩
    · rw [if_neg c4] at H
      exact absurd H (by simp)
  · rw [if_neg c3] at H
    exact absurd H (by simp)

end Go.Proofs.Ytnmeomdjhjgnfaa.X
end
section
set_option linter.unusedSimpArgs false
set_option linter.unusedVariables false
namespace Go.Proofs.Ytnmeomdjhjgnfaa.X
open Go.RowKit Go.Proofs.YtnmeomdjhjgnfaaW.PrintWords Go.Proofs.YtnmeomdjhjgnfaaW.PrintLast Go.Proofs.YtnmeomdjhjgnfaaW.PrintMore

def headL (g : List (List Int)) (d : List Int) : List Int := keptL (((edgesL g).filter fun e => backL d e.1 e.2).map (·.2)) g.length
def graph_Headers.f (k : Nat) (l0 : List (List Int)) : Option (List Int) :=
  if okG l0 = true then (graph_Idom.f k l0).bind fun d => if d.length = l0.length ∧ (edgesL l0).length ≤ 100000000 then some (headL l0 d) else none else none
def redL (g : List (List Int)) (d o : List Int) : Bool :=
  (edgesL g).all fun e => !(decide (0 < numL o e.1) && (decide (numL o e.2 ≤ numL o e.1) && !backL d e.1 e.2))
def graph_Reducible.f (k : Nat) (l0 : List (List Int)) : Option Bool :=
  if okG l0 = true then (graph_Idom.f k l0).bind fun d => (graph_Order.f k l0).bind fun o => if d.length = l0.length ∧ o.length ≤ 1000000 ∧ (∀ b ∈ o, 0 ≤ b ∧ b < l0.length) then some (redL l0 d o) else none else none
def openL (g : List (List Int)) (d : List Int) (h : Int) : List Int := ((edgesL g).filter fun e => e.2 == h && backL d e.1 e.2).map (·.1)
def graph_Body.f (k : Nat) (l0 : List (List Int)) (a1 : Int) : Option (List Int) :=
  if okG l0 = true then (graph_Idom.f k l0).bind fun d => (graph_Order.f k l0).bind fun o => if d.length = l0.length ∧ (edgesL l0).length ≤ 100000000 ∧ o.length ≤ 1000000 ∧ (∀ b ∈ o, 0 ≤ b ∧ b < l0.length) ∧ -1 ≤ a1 ∧ a1 ≤ l0.length then
    (if openL l0 d a1 = [] then some [] else (bodyLoop (predsL l0) k (openL l0 d a1) [a1]).map fun s => isort (o.filter fun b => s.contains b)) else none else none
theorem graph_Headers.mono (k : Nat) (l0 : List (List Int)) : LeO (graph_Headers.f k l0) (graph_Headers.f (k + 1) l0) := by
  unfold graph_Headers.f
  exact LeO.ite (LeO.bind (graph_Idom.mono _ _) (fun _ => LeO.refl _)) (LeO.refl _)
theorem graph_Reducible.mono (k : Nat) (l0 : List (List Int)) : LeO (graph_Reducible.f k l0) (graph_Reducible.f (k + 1) l0) := by
  unfold graph_Reducible.f
  exact LeO.ite (LeO.bind (graph_Idom.mono _ _) (fun _ => LeO.bind (graph_Order.mono _ _) (fun _ => LeO.refl _))) (LeO.refl _)
theorem graph_Body.mono (k : Nat) (l0 : List (List Int)) (a1 : Int) : LeO (graph_Body.f k l0 a1) (graph_Body.f (k + 1) l0 a1) := by
  unfold graph_Body.f
  exact LeO.ite (LeO.bind (graph_Idom.mono _ _) (fun _ => LeO.bind (graph_Order.mono _ _) (fun _ => LeO.ite (LeO.ite (LeO.refl _) (LeO.map _ (bodyLoop_mono _ _ _ _))) (LeO.refl _)))) (LeO.refl _)
end Go.Proofs.Ytnmeomdjhjgnfaa.X
end
section
set_option linter.unusedSimpArgs false
namespace Go.Proofs.Ytnmeomdjhjgnfaa.X
open Go.RowKit Go.Shelf Go.Proofs.YtnmeomdjhjgnfaaW.PrintWords Go.Proofs.YtnmeomdjhjgnfaaW.PrintLast Go.Proofs.YtnmeomdjhjgnfaaW.PrintMore
set_option linter.unusedVariables false

set_option maxHeartbeats 2000000 in
set_option maxRecDepth 100000 in
theorem back1_calls (bk : Nat) (Ad : Option Addr) (cd : Nat) (d : List Int) (a b : Int) (w : World) (hbx : w.cell? ⟨bk, 0, none⟩ = some (.slice Ad d.length cd)) (hR : Kd.C (Kd.int .i64) w Ad d.length d) (hc : d.length ≤ cd) (hlen : d.length ≤ 1000000) (ha0 : 0 ≤ a) (ha1 : a < d.length) :
    Calls Try.prog 103 #[.int .i64 a, .int .i64 b, .pointer (some ⟨bk, 0, none⟩)] w fun e w' => e = .returned (.bool (backL d a b)) ∧ Below w.heap.size w w' := by
  obtain ⟨ad, rfl, hcx⟩ := Kd.at_int hR a ha0 ha1
  have HR := Aside0.mk hR
  have HC := Aside0.mk hc
  have HD : Aside0 (graph_Dominates.f d b a = some (domL d b a)) := ⟨by unfold graph_Dominates.f; rw [if_pos hlen]⟩
  clear hR hc hlen
  go_enter Try.func103, Try.ntmps103
  by_cases h0 : a = 0
  · subst h0
    go_wp2_with fail
    refine (graph_Dominates.calls (some ad) cd d b 0 (domL d b 0) w HR.out HC.out HD.out).mono ?_
    rintro e w' ⟨rfl, hB⟩
    cases hd : domL d b 0 with
    | true =>
      go_wp2
      go_ret
      exact ⟨by rw [show backL d 0 b = true from by simp [backL, hd]]; rfl, hB⟩
    | false =>
      go_wp2
      go_ret
      exact ⟨by rw [show backL d 0 b = false from by simp [backL, hd]]; rfl, hB⟩
  · have h0' : (a == 0) = false := by simpa using h0
    by_cases h1 : 0 ≤ rd d a
    · have h1' : decide (0 ≤ rd d a) = true := decide_eq_true h1
      go_wp2_with fail
      refine (graph_Dominates.calls (some ad) cd d b a (domL d b a) w HR.out HC.out HD.out).mono ?_
      rintro e w' ⟨rfl, hB⟩
      cases hd : domL d b a with
      | true =>
        go_wp2
        go_ret
        exact ⟨by rw [show backL d a b = true from by simp [backL, hd, h1]]; rfl, hB⟩
      | false =>
        go_wp2
        go_ret
        exact ⟨by rw [show backL d a b = false from by simp [backL, hd]]; rfl, hB⟩
    · have h1' : decide (0 ≤ rd d a) = false := decide_eq_false h1
      go_wp2
      go_ret
      exact ⟨by rw [show backL d a b = false from by simp [backL, h0', h1']]; rfl, Below.refl _ _⟩

set_option maxHeartbeats 2000000 in
set_option maxRecDepth 100000 in
theorem back_calls (k : Nat) (A0 : Option Addr) (c0 : Nat) (l0 : List (List Int)) (d : List Int) (w : World) (hr0 : Kd.C (Kd.slice 3 (Kd.int .i64)) w A0 l0.length l0) (hc0 : l0.length ≤ c0) (h : graph_Idom.f k l0 = some d) :
    Calls Try.prog 83 #[.slice A0 l0.length c0] w fun e w' => ∃ (bk : Nat) (Ad : Option Addr) (cd : Nat), e = .returned (.func (.func 103) #[] #[.pointer (some ⟨bk, 0, none⟩)]) ∧ w.heap.size ≤ bk ∧ w'.heap[bk]? = some (.cells #[.slice Ad d.length cd] 23 (0, 0)) ∧
      Kd.R (Kd.int .i64) 3 w' w.heap.size (fun k => k < bk) (.slice Ad d.length cd) d ∧ Below w.heap.size w w' := by
  have HR := Aside0.mk hr0
  have HC0 := Aside0.mk hc0
  have H := Aside0.mk h
  clear hr0 hc0 h
  go_enter Try.func83, Try.ntmps83
  go_wp2_with fail
  refine (graph_Idom.calls k A0 c0 l0 d w HR.out HC0.out H.out).mono ?_
  rintro e w4 ⟨v0, rfl, ho, hB⟩
  obtain ⟨Ad, cd, rfl⟩ := Kd.R_slice ho
  go_wp2
  go_ret
  refine ⟨w4.heap.size, Ad, cd, rfl, hB.size, World.alloc_heap_new _ _, Kd.R_alloc (Kd.R_mono (Kd.R_bound ho) (fun k hk => hk.2.2.1)) _, below_alloc hB _⟩
end Go.Proofs.Ytnmeomdjhjgnfaa.X
end
section
set_option linter.unusedSimpArgs false
namespace Go.Proofs.Ytnmeomdjhjgnfaa.X
open Go.RowKit Go.Shelf Go.Proofs.YtnmeomdjhjgnfaaW.PrintWords Go.Proofs.YtnmeomdjhjgnfaaW.PrintLast Go.Proofs.YtnmeomdjhjgnfaaW.PrintMore
set_option linter.unusedVariables false
attribute [local go_sem] Oper.semAt_some

def hdL (d : List Int) (es : List (Int × Int)) : List Int := (es.filter fun e => backL d e.1 e.2).map (·.2)
theorem hdL_snoc (d : List Int) (es : List (Int × Int)) (a b : Int) : hdL d (es ++ [(a, b)]) = if backL d a b = true then hdL d es ++ [b] else hdL d es := by
  unfold hdL
  rw [List.filter_append, List.map_append]
  simp only [List.filter_cons, List.filter_nil]
  split <;> simp
theorem edgesFrom_in (n : Nat) : ∀ (rows : List (List Int)) (i : Nat), i + rows.length ≤ n → (∀ r ∈ rows, ∀ b ∈ r, 0 ≤ b ∧ b < n) → ∀ e ∈ edgesFrom i rows, (0 ≤ e.1 ∧ e.1 < n) ∧ 0 ≤ e.2 ∧ e.2 < n
  | [], _, _, _, e, he => by simp [edgesFrom] at he
  | r :: rows, i, hi, h, e, he => by
    simp only [edgesFrom, List.mem_append, List.mem_map] at he
    simp only [List.length_cons] at hi
    rcases he with ⟨b, hb, rfl⟩ | he
    · exact ⟨by constructor <;> simp <;> omega, h r List.mem_cons_self b hb⟩
    · exact edgesFrom_in n rows (i + 1) (by omega) (fun r hr => h r (List.mem_cons_of_mem _ hr)) e he
theorem edgesL_in (g : List (List Int)) (e : Int × Int) (he : e ∈ edgesL g) : (0 ≤ e.1 ∧ e.1 < g.length) ∧ 0 ≤ e.2 ∧ e.2 < g.length :=
  edgesFrom_in g.length (cleanL g) 0 (by rw [cleanL_length]; omega) (cleanL_in g) e he
/-- Sorting and making compact a row within bounds is what kept tells. -/
theorem kept_all (l : List Int) (n : Int) (h : ∀ x ∈ l, 0 ≤ x ∧ x < n) : Lib.compact (isort l) = keptL l n := by
  exact kept_of l l n (fun x => ⟨fun hx => ⟨hx, h x hx⟩, fun hx => hx.1⟩)
theorem hdL_length (d : List Int) (es : List (Int × Int)) : (hdL d es).length ≤ es.length := by
  unfold hdL; rw [List.length_map]; exact List.length_filter_le _ _
set_option maxHeartbeats 4000000 in
set_option maxRecDepth 100000 in
theorem graph_Headers.calls (k : Nat) (A0 : Option Addr) (c0 : Nat) (l0 : List (List Int)) (r : List Int) (w : World) (hr0 : Kd.C (Kd.slice 3 (Kd.int .i64)) w A0 l0.length l0) (hc0 : l0.length ≤ c0) (h : graph_Headers.f k l0 = some r) :
    Calls Try.prog 38 #[.slice A0 l0.length c0] w fun e w' => ∃ v0_ : Value, e = .returned (v0_) ∧ Kd.R (Kd.int .i64) 3 w' w.heap.size (fun _ => True) v0_ r ∧ Below w.heap.size w w' := by
  unfold graph_Headers.f at h
  split at h
  case isFalse => cases h
  rename_i hok
  obtain ⟨d, hd, h⟩ := Option.bind_eq_some_iff.1 h
  split at h
  case isFalse => cases h
  rename_i hdl
  obtain ⟨hdl, hel⟩ := hdl
  injection h with h
  have hlen := (okG_len hok).1
  have HR := Aside0.mk hr0
  have HC0 := Aside0.mk hc0
  have HOK := Aside0.mk hok
  have HE := Aside0.mk h
  have HD := Aside0.mk hd
  have HEL := Aside0.mk hel
  have HDL := Aside0.mk hdl
  clear hr0 hc0 hok h hd hel hdl
  refine (callsIn_wide (n := 6)).1 ?_
  refine callsIn_of_wp_marks Try.func38 rfl trivial ?_ rfl
  simp only [Try.ntmps38, List.size_toArray, List.length_cons, List.length_nil, Nat.reduceAdd, Nat.reduceSub, Array.replicate_succ, Array.replicate_zero, List.push_toArray, List.append_toArray, List.nil_append, List.cons_append]
  refine wpIn_seq (wpIn_wide.2 ?_)
  go_wp2
  refine wpIn_seq (wpIn_wide.2 ?_)
  go_wp2_with fail
  refine (back_calls k A0 c0 l0 d _ HR.out HC0.out HD.out).mono ?_
  rintro e W2 ⟨bk, Ad, cd, rfl, hbk, hbx, hRd, hB2⟩
  have HBX := Aside0.mk hbx
  have HRd := Aside0.mk hRd
  have HB2 := Aside0.mk hB2
  have hbk2 := blk_lt hbx
  clear hbx hRd hB2
  go_wp2
  refine wpIn_seq (wpIn_wide.2 ?_)
  go_wp2
  refine wpIn_seq (wpIn_seq ?_)
  gi_wp2
  refine ⟨trivial, ?_⟩
  refine (callsIn_wide.2 (edges_calls A0 l0.length c0 _)).mono ?_
  rintro e w' ⟨rfl, rfl⟩
  gi_wp2
  have c3 := cell_new_c' W2 (.func (.func 103) #[] #[.pointer (some ⟨bk, 0, none⟩)]) 53
  have c4 := World.alloc_heap_new (W2.alloc (.cells #[.func (.func 103) #[] #[.pointer (some ⟨bk, 0, none⟩)]] 53)) (.cells #[.slice none 0 0] 23)
  have c6 := cell_new_c' ((W2.alloc (.cells #[.func (.func 103) #[] #[.pointer (some ⟨bk, 0, none⟩)]] 53)).alloc (.cells #[.slice none 0 0] 23)) (.slice A0 l0.length c0) 22
  have hB5 : Below W2.heap.size W2 (((W2.alloc (.cells #[.func (.func 103) #[] #[.pointer (some ⟨bk, 0, none⟩)]] 53)).alloc (.cells #[.slice none 0 0] 23)).alloc (.cells #[.slice A0 l0.length c0] 22)) := below_alloc (below_alloc (below_alloc (Below.refl _ _) _) _) _
  simp only [World.size_alloc] at c4 c6
  obtain ⟨wL, hwL⟩ : ∃ wL, (((W2.alloc (.cells #[.func (.func 103) #[] #[.pointer (some ⟨bk, 0, none⟩)]] 53)).alloc (.cells #[.slice none 0 0] 23)).alloc (.cells #[.slice A0 l0.length c0] 22)) = wL := ⟨_, rfl⟩
  have hsz : wL.heap.size = W2.heap.size + 3 := by rw [← hwL]; simp
  have k5 : wL.heap[W2.heap.size + 1]? = some (.cells #[.slice none 0 0] 23 (0, 0)) := by
    rw [← hwL]
    exact (below_alloc (Below.refl _ _) _ : Below _ _ _).block _ (by simp) |>.trans c4
  have k3 : wL.cell? ⟨W2.heap.size, 0, none⟩ = some (.func (.func 103) #[] #[.pointer (some ⟨bk, 0, none⟩)]) := by rw [← hwL]; exact cell_alloc' _ (cell_alloc' _ c3.1)
  have K3 := Aside0.mk k3
  have HI0 := Aside0.mk (OutIn.start (d := Kd.int .i64) (e := 3) k5)
  have hMW := HI0.out.names
  have hMd : Told wL.heap.size (BxM (W2.heap.size + 1)) := BxM.told (by omega)
  rw [hwL] at c6 hB5 ⊢
  have HB5 := Aside0.mk hB5
  have HBL := Aside0.mk (HB2.out.trans (hB5.mono HB2.out.size))
  refine wpIn_rangeFunc_ownG rfl (by omega) (gf := 104) (lb := #[.pointer (some ⟨W2.heap.size + 1 + 1, 0, none⟩)]) rfl trivial (enters_of Try.func104 (by kernel_rfl) rfl)
    (edges_stops 5 (by omega) (W2.heap.size + 1 + 1) A0 c0 l0 HOK.out (BxM (W2.heap.size + 1)) wL hMd hMW (Kd.C_below HR.out HBL.out) HC0.out c6.1) EdKp.trans (EdKp.put hMd) (Below.refl _ _) (fun _ => rfl)
    (fun pre W => OutIn wL (W2.heap.size + 1) (Kd.int .i64) 3 23 (hdL d (pre.map Subtype.val)) W)
    (fun _ _ _ => False)
    (fun s A B row hs hg hr => hs.kept hg hr (by omega))
    (fun _ _ _ _ _ hs _ _ => hs)
    HI0.out
    (fun x => { tmps := #[Value.slice A0 l0.length c0, undef, Value.slice none 0 0,
          Value.pointer (some { block := W2.heap.size, off := 0 }),
          Value.pointer (some { block := W2.heap.size + 1, off := 0 }), .int .i64 x.1.1, .int .i64 x.1.2, Value.slice A0 l0.length c0,
          Value.func (Fn.func 103) #[] #[Value.pointer (some { block := bk, off := 0 })], Value.slice A0 l0.length c0,
          Value.func (Fn.func 104) #[] #[Value.pointer (some { block := W2.heap.size + 1 + 1, off := 0 })], .int .i64 x.1.1, .int .i64 x.1.2,
          undef, undef, undef, undef, undef, undef, undef, undef, undef, undef, undef, undef], defers := [] }) ?assign ?body ?done ?stop
  case assign =>
    intro l x W K hK
    simp only [edEnc]
    gi_wp2
    exact hK
  case body =>
    rintro l pre ⟨⟨a, b⟩, ha0, ha1, hb0, hb1⟩ W hI hlt
    have HSZ := Aside0.mk hsz
    clear hMd hMW hB5 c3 c4 c6 HI0 hwL k5 k3 hsz
    simp only at ha0 ha1 hb0 hb1
    obtain ⟨out, hout⟩ : ∃ out, hdL d (pre.map Subtype.val) = out := ⟨_, rfl⟩
    rw [hout] at hI
    have HOL : Aside0 (out.length ≤ 1000000000000) := ⟨by
      have h1 := hdL_length d (pre.map Subtype.val)
      rw [hout, List.length_map] at h1
      have h2 := HEL.out
      omega⟩
    have hsnoc : hdL d ((pre ++ [(⟨(a, b), by omega⟩ : Ed l0.length)]).map Subtype.val) = if backL d a b = true then out ++ [b] else out := by
      rw [List.map_append, ← hout]
      exact hdL_snoc _ _ _ _
    have HSN := Aside0.mk hsnoc
    have HIN := Aside0.mk hI
    clear hsnoc hout
    have hf := hI.far
    have hBW : Below W2.heap.size W2 W := HB5.out.trans (hI.stay.mono (by have := HSZ.out; omega))
    have hc3 : W.cell? ⟨W2.heap.size, 0, none⟩ = some (.func (.func 103) #[] #[.pointer (some ⟨bk, 0, none⟩)]) := (hI.stay.cell (p := ⟨W2.heap.size, 0, none⟩) (by simp)).trans K3.out
    have hcon := back1_calls bk Ad cd d a b W ((hBW.cell (p := ⟨bk, 0, none⟩) hbk2).trans (cell_of_box' HBX.out).1) (Kd.C_below (Kd.R_reads' HRd.out).2.2 hBW) (Kd.R_reads' HRd.out).2.1 (by have := HDL.out; omega) ha0 (by have := HDL.out; omega)
    have HCON := Aside0.mk hcon
    clear hcon hI hBW
    cases hback : backL d a b with
    | false =>
      have HSN2 := HSN.out
      rw [hback] at HSN2 HCON
      have HSN3 := Aside0.mk HSN2
      clear HSN2
      gi_wp2
      refine ⟨trivial, ?_⟩
      refine (CallsIn.inRound l (callsIn_wide.2 HCON.out)).mono ?_
      rintro e W' ⟨rfl, hB⟩
      gi_wp2
      have hr := HIN.out.call hB (by have := HSZ.out; omega)
      refine ⟨hr.1, hr.2.1, ?_⟩
      show OutIn _ _ _ _ _ (hdL d _) _
      rw [HSN3.out]
      exact hr.2.2
    | true =>
      have HSN2 := HSN.out
      rw [hback] at HSN2 HCON
      have HSN3 := Aside0.mk HSN2
      clear HSN2
      refine wpIn_block ?_
      refine wpIn_seq ?_
      refine wpIn_mono (Q := Exit.then (fun a' w' => Below W.heap.size W w' ∧ a' = { tmps := #[Value.slice A0 l0.length c0, undef, Value.slice none 0 0,
          Value.pointer (some { block := W2.heap.size, off := 0 }),
          Value.pointer (some { block := W2.heap.size + 1, off := 0 }), .int .i64 a, .int .i64 b, Value.slice A0 l0.length c0,
          Value.func (Fn.func 103) #[] #[Value.pointer (some { block := bk, off := 0 })], Value.slice A0 l0.length c0,
          Value.func (Fn.func 104) #[] #[Value.pointer (some { block := W2.heap.size + 1 + 1, off := 0 })], .int .i64 a, .int .i64 b,
          Value.func (Fn.func 103) #[] #[Value.pointer (some { block := bk, off := 0 })], .int .i64 a, .int .i64 b, .bool true, undef, undef, undef, undef, undef, undef, undef, undef], defers := [] }) (fun _ _ _ => False)) ?first ?rest
      case first =>
        gi_wp2
        refine ⟨trivial, ?_⟩
        refine (CallsIn.inRound l (callsIn_wide.2 HCON.out)).mono ?_
        rintro e W' ⟨rfl, hB⟩
        gi_wp2
        exact ⟨hB, trivial⟩
      case rest =>
        intro e a' W' h'
        cases e <;> first | exact h'.elim | skip
        obtain ⟨hB, rfl⟩ := h'
        obtain ⟨hk1, hk2, hI2⟩ := HIN.out.call hB (by have := HSZ.out; omega)
        obtain ⟨v, h5, hRv⟩ := hI2.box
        obtain ⟨hc5, hf5⟩ := cell_of_box' h5
        obtain ⟨Av, cv, rfl⟩ := Kd.R_slice hRv
        have HRv := Aside0.mk hRv
        have H5 := Aside0.mk h5
        have HK := Aside0.mk (And.intro hk1 hk2)
        have HI2 := Aside0.mk hI2
        have hf2 := hI2.far
        clear hRv h5 hk1 hk2 hI2
        refine wpIn_cond_true rfl ?_
        refine wpIn_list_plain (by kernel_rfl) (fun ⟨_, _, h'⟩ => h') ?_
        go_wp2_with (first | ((with_reducible refine gate_builtin (b := .append) (xs := #[.tmp 17, .tmp 19]) rfl ?_); at_builtin; refine Kd.R_append (Kd.int .i64) (w0 := W') (W := W') wL.heap.size rfl (.tmp 17) (.tmp 19) 23 3 (.int .i64 0) 8 rfl Try.underlying23 info3 rfl (by decide) (by omega) (.slice Av out.length cv) out b [.int .i64 b] (fun _ => True) (fun _ => False) rfl rfl ?aP (fun _ hk => hk.elim) ?aF ?aO ?aB ?aS ?aL ?_; (case aP => rfl); (case aF => exact fun _ _ => trivial); (case aO => exact HRv.out); (case aB => exact Below.refl _ _); (case aS => exact hf2); (case aL => have := HOL.out; omega); intro v20 W7 ho hb hg hat; obtain ⟨A20, n20, c20, rfl⟩ : ∃ A n c, v20 = .slice A n c := ⟨_, _, _, (Kd.R_slice ho).choose_spec.choose_spec⟩; obtain ⟨hc57, hf57⟩ := cell_of_box' ((hg.block (W2.heap.size + 1) (blk_lt H5.out) (fun h => by have := Kd.R_base HRv.out _ h.symm; have := HSZ.out; omega)).trans H5.out)) | fail)
        obtain ⟨hr1, hr2, hr3⟩ := HI2.out.append (by have := HSZ.out; omega) H5.out HRv.out ho hg hat
        refine ⟨HK.out.1.trans hr1, HK.out.2.trans hr2, ?_⟩
        show OutIn _ _ _ _ _ (hdL d _) _
        rw [HSN3.out]
        exact hr3
  case done =>
    rintro D ys W hD hys hI hK
    obtain ⟨out, hout⟩ : ∃ out, hdL d (ys.map Subtype.val) = out := ⟨_, rfl⟩
    have HOL : Aside0 (out.length ≤ 100000000) := ⟨by
      have h1 := hdL_length d (ys.map Subtype.val)
      rw [hout, hys] at h1
      have h2 := HEL.out
      omega⟩
    have HFR : Aside0 (Lib.compact (isort out) = r) := ⟨by
      rw [hys] at hout
      rw [← hout, ← HE.out]
      exact kept_all _ _ (fun x hx => by
        obtain ⟨e, he, rfl⟩ := List.mem_map.1 hx
        exact (edgesL_in l0 e (List.mem_filter.1 he).1).2)⟩
    rw [hout] at hI
    have hbW : Below w.heap.size w W := HBL.out.trans (hI.stay.mono (by have := HB2.out.size; omega))
    obtain ⟨v, h5, hRv⟩ := hI.box
    obtain ⟨hc5, hf5⟩ := cell_of_box' h5
    have HRv := Aside0.mk hRv
    have HBW := Aside0.mk hbW
    have hf := hI.far
    obtain ⟨Av, cv, rfl⟩ := Kd.R_slice hRv
    have HI := Aside0.mk hI
    have H5 := Aside0.mk h5
    clear hRv hbW hI h5 hout
    refine wpIn_seq (wpIn_wide.2 ?_)
    go_wp2_with fail
    refine (sort_R HRv.out HOL.out).mono ?_
    rintro e W1 ⟨rfl, hs1, hg1⟩
    have h51 := (hg1.block (W2.heap.size + 1) (blk_lt H5.out) (fun h => by have := Kd.R_base HRv.out _ h.symm; omega)).trans H5.out
    obtain ⟨hc51, hf51⟩ := cell_of_box' h51
    have HB1 := Aside0.mk (HBW.out.grown hg1 HBW.out.size (fun k hk => by have := Kd.R_base HRv.out k hk; have := HB2.out.size; omega))
    have HS1 := Aside0.mk hs1
    have HK1 : Aside0 (W1.heap[D]? = some (.deferred (some []))) := ⟨(hg1.block D (Array.getElem?_eq_some_iff.1 hK).1 (fun h => by
      obtain ⟨c, hc⟩ := Kd.R_typed HRv.out D h.symm
      rw [hc] at hK; cases hK)).trans hK⟩
    clear hs1 hg1 h51
    go_wp2
    refine wpIn_seq (wpIn_wide.2 ?_)
    go_wp2_with fail
    refine (compact_R HS1.out (by rw [isort_length]; exact HOL.out)).mono ?_
    rintro e W3 ⟨v', rfl, hs2, hg2⟩
    have HB3 := Aside0.mk (HB1.out.grown hg2 HB1.out.size (fun k hk => by have := Kd.R_base HS1.out k hk; have := HB2.out.size; omega))
    have HS3 := Aside0.mk hs2
    have HK3 : Aside0 (W3.heap[D]? = some (.deferred (some []))) := ⟨(hg2.block D (Array.getElem?_eq_some_iff.1 HK1.out).1 (fun h => by
      obtain ⟨c, hc⟩ := Kd.R_typed HS1.out D h.symm
      have := HK1.out
      rw [hc] at this; cases this)).trans HK1.out⟩
    clear hs2 hg2
    go_wp2
    gi_wp2
    refine ⟨by simp, .inl ⟨_, _, rfl, run_takeDeferred HK3.out, ?_⟩⟩
    refine ⟨_, results_tmp rfl _ _ _, _, rfl, ?_, ?_⟩
    · have h2 := HS3.out
      rw [HFR.out] at h2
      exact Kd.R_mono (Kd.R_lower (R_nocells h2 (grownBy_putObj' _ D _) (fun r e => by cases e; exact ⟨_, HK3.out, rfl⟩)) HBL.out.size) (fun _ _ => trivial)
    · exact HB3.out.grown (grownBy_putObj' _ D _) HB3.out.size (fun k e => by cases e; have := HBL.out.size; omega)
  case stop =>
    rintro D c pre W _ _ h _
    exact h.elim
end Go.Proofs.Ytnmeomdjhjgnfaa.X
end
section
set_option linter.unusedSimpArgs false
/-! A map of the call's own from whole numbers, read as a plain function. -/
namespace Go.Proofs.Ytnmeomdjhjgnfaa.X
open Go.RowKit Go.Maps Go.Proofs.YtnmeomdjhjgnfaaW.PrintWords Go.Proofs.YtnmeomdjhjgnfaaW.PrintLast Go.Proofs.YtnmeomdjhjgnfaaW.PrintMore
set_option linter.unusedVariables false
set_option maxRecDepth 100000

theorem u117 : Try.prog.underlying 117 = some (.map 3 3) := by kernel_rfl
theorem u55 : Try.prog.underlying 55 = some (.map 3 4) := by kernel_rfl
theorem key3 : Keyed Try.prog 3 := int_keyed Try.underlying3
theorem zero3' (w : World) : (zeroValue 3).run Try.prog w = .ok (.int .i64 0) w := by kernel_rfl
theorem zero4' (w : World) : (zeroValue 4).run Try.prog w = .ok (.bool false) w := by kernel_rfl
def wf64 (x : Int) : Prop := (Lit.int .i64 x).wf = true
theorem wf64_of {x : Int} (h0 : -9223372036854775808 ≤ x) (h1 : x ≤ 9223372036854775807) : wf64 x := by
  have e1 : IntKind.i64.min = -9223372036854775808 := by decide
  have e2 : IntKind.i64.max = 9223372036854775807 := by decide
  simp [wf64, Lit.wf, e1, e2]; omega

structure MI (w : World) (b n : Nat) (f : Int → Int) : Prop where
  own : ∃ D : DataW Unit, w.ownsMap Try.prog 3 (plainElem Try.prog 3) b n D ∧ ∀ x, wf64 x → D.atKey (.int .i64 x) (.lit (.int .i64 0)) = .lit (.int .i64 (f x))
theorem MI.made (w : World) : MI (w.alloc (.map #[] 0)) w.heap.size 0 (fun _ => 0) := ⟨_, World.ownsMap_made _ _ _ _, fun _ _ => rfl⟩
theorem MI.kept {w w' : World} {b n : Nat} {f : Int → Int} {row : Option Nat} (h : MI w b n f) (hg : w.grownBy w' row) (hne : some b ≠ row) : MI w' b n f := by
  obtain ⟨D, hD, hf⟩ := h.own
  exact ⟨D, hD.kept hg hne, hf⟩
theorem MI.below {w w' : World} {b n : Nat} {f : Int → Int} (h : MI w b n f) (hb : Below w.heap.size w w') : MI w' b n f := by
  obtain ⟨D, ⟨es, clock, hb', F, hs, hD⟩, hf⟩ := h.own
  exact ⟨D, ⟨es, clock, (hb.block b (Array.getElem?_eq_some_iff.1 hb').1).trans hb', F, hs, hD⟩, hf⟩
theorem MI.isMap {w : World} {b n : Nat} {f : Int → Int} (h : MI w b n f) : ∃ es clock, w.heap[b]? = some (.map es clock) := by
  obtain ⟨D, ⟨es, clock, hb', _⟩, _⟩ := h.own
  exact ⟨es, clock, hb'⟩
theorem MI.look {w : World} {b n : Nat} {f : Int → Int} (h : MI w b n f) {x : Int} (hx : wf64 x) : (Instr.lookup 117 (.map (some b)) (.int .i64 x) false).run Try.prog w = .ok (.int .i64 (f x)) w := by
  obtain ⟨D, hD, hf⟩ := h.own
  obtain ⟨c, hrun, hat, _⟩ := hD.lookup_int key3 u117 Try.underlying3 (zero3' w) (keyOf_int_mk Try.underlying3 hx)
  rw [hf x hx] at hat
  injection hat with hat
  injection hat with _ hat
  rw [hat]
  exact hrun
theorem MI.put {w : World} {b n : Nat} {f : Int → Int} (h : MI w b n f) {x v : Int} (hx : wf64 x) (hv : wf64 v) (hn : n < maxLen) :
    ∃ w', (Instr.mapUpdate 117 (.map (some b)) (.int .i64 x) (.int .i64 v)).run Try.prog w = .ok () w' ∧ MI w' b (n + 1) (fun y => if y = x then v else f y) ∧ w.grownBy w' (some b) := by
  obtain ⟨D, hD, hf⟩ := h.own
  obtain ⟨w', hrun, h1, h2⟩ := hD.update key3 u117 hn (keyOf_int_mk Try.underlying3 hx) (plainElem_int Try.underlying3 hv)
  refine ⟨w', hrun, ⟨_, h1, fun y hy => ?_⟩, h2⟩
  split
  · rename_i e
    subst e
    obtain ⟨es, clock, _, _, _, rfl⟩ := hD
    exact atKey_put_same ⟨_, rfl⟩ (key3.key (keyOf_int_mk Try.underlying3 hy)) _ _
  · rename_i e
    rw [atKey_put_other (by intro he; injection he with _ he; exact e he)]
    exact hf y hy

structure MB (w : World) (b n : Nat) (f : Int → Bool) : Prop where
  own : ∃ D : DataW Unit, w.ownsMap Try.prog 3 (plainElem Try.prog 4) b n D ∧ ∀ x, wf64 x → D.atKey (.int .i64 x) (.lit (.bool false)) = .lit (.bool (f x))
theorem MB.made (w : World) : MB (w.alloc (.map #[] 0)) w.heap.size 0 (fun _ => false) := ⟨_, World.ownsMap_made _ _ _ _, fun _ _ => rfl⟩
theorem MB.kept {w w' : World} {b n : Nat} {f : Int → Bool} {row : Option Nat} (h : MB w b n f) (hg : w.grownBy w' row) (hne : some b ≠ row) : MB w' b n f := by
  obtain ⟨D, hD, hf⟩ := h.own
  exact ⟨D, hD.kept hg hne, hf⟩
theorem MB.below {w w' : World} {b n : Nat} {f : Int → Bool} (h : MB w b n f) (hb : Below w.heap.size w w') : MB w' b n f := by
  obtain ⟨D, ⟨es, clock, hb', F, hs, hD⟩, hf⟩ := h.own
  exact ⟨D, ⟨es, clock, (hb.block b (Array.getElem?_eq_some_iff.1 hb').1).trans hb', F, hs, hD⟩, hf⟩
theorem MB.isMap {w : World} {b n : Nat} {f : Int → Bool} (h : MB w b n f) : ∃ es clock, w.heap[b]? = some (.map es clock) := by
  obtain ⟨D, ⟨es, clock, hb', _⟩, _⟩ := h.own
  exact ⟨es, clock, hb'⟩
theorem MB.look {w : World} {b n : Nat} {f : Int → Bool} (h : MB w b n f) {x : Int} (hx : wf64 x) : (Instr.lookup 55 (.map (some b)) (.int .i64 x) false).run Try.prog w = .ok (.bool (f x)) w := by
  obtain ⟨D, hD, hf⟩ := h.own
  obtain ⟨v, ps, hrun, hv⟩ := hD.lookup key3 u55 (zero4' w) (plainElem_bool Try.underlying4 false) (keyOf_int_mk Try.underlying3 hx)
  rw [hf x hx] at hv
  have : v = .bool (f x) := by
    unfold plainElem at hv
    simp only [Try.underlying4] at hv
    cases v <;> simp_all
  rw [← this]
  exact hrun
theorem MB.put {w : World} {b n : Nat} {f : Int → Bool} (h : MB w b n f) {x : Int} (v : Bool) (hx : wf64 x) (hn : n < maxLen) :
    ∃ w', (Instr.mapUpdate 55 (.map (some b)) (.int .i64 x) (.bool v)).run Try.prog w = .ok () w' ∧ MB w' b (n + 1) (fun y => if y = x then v else f y) ∧ w.grownBy w' (some b) := by
  obtain ⟨D, hD, hf⟩ := h.own
  obtain ⟨w', hrun, h1, h2⟩ := hD.update key3 u55 hn (keyOf_int_mk Try.underlying3 hx) (plainElem_bool Try.underlying4 v)
  refine ⟨w', hrun, ⟨_, h1, fun y hy => ?_⟩, h2⟩
  split
  · rename_i e
    subst e
    obtain ⟨es, clock, _, _, _, rfl⟩ := hD
    exact atKey_put_same ⟨_, rfl⟩ (key3.key (keyOf_int_mk Try.underlying3 hy)) _ _
  · rename_i e
    rw [atKey_put_other (by intro he; injection he with _ he; exact e he)]
    exact hf y hy
end Go.Proofs.Ytnmeomdjhjgnfaa.X
namespace Go.Proofs.Ytnmeomdjhjgnfaa.X
open Go.RowKit Go.Shelf Go.Proofs.YtnmeomdjhjgnfaaW.PrintWords Go.Proofs.YtnmeomdjhjgnfaaW.PrintLast Go.Proofs.YtnmeomdjhjgnfaaW.PrintMore
set_option linter.unusedVariables false
attribute [local go_sem] Oper.semAt_some

theorem numL_snoc (o : List Int) (b x : Int) : numL (o ++ [b]) x = if x = b then (o.length : Int) + 1 else numL o x := by
  unfold numL
  rw [List.reverse_append]
  simp only [List.reverse_cons, List.reverse_nil, List.nil_append, List.cons_append, numR, List.length_reverse]
  by_cases h : b = x
  · subst h; simp
  · rw [if_neg h, if_neg (fun e => h e.symm)]
theorem results_cell_bool {fn : Func} {p : Tmp} (h : fn.results = #[.cell p 4]) (tmps : Array Value) (w : World) (a : Addr) (b : Bool) (hp : tmps.getD p undef = .pointer (some a)) (hc : w.cell? a = some (.bool b)) :
    (results fn tmps).run Try.prog w = .ok (.bool b) w := by
  have hp' : tmps[p]?.getD undef = .pointer (some a) := by simpa using hp
  simp only [results, h]
  go_simp
def badE (d o : List Int) (e : Int × Int) : Bool := decide (0 < numL o e.1) && (decide (numL o e.2 ≤ numL o e.1) && !backL d e.1 e.2)
set_option maxHeartbeats 4000000 in
set_option maxRecDepth 100000 in
theorem graph_Reducible.calls (k : Nat) (A0 : Option Addr) (c0 : Nat) (l0 : List (List Int)) (r : Bool) (w : World) (hr0 : Kd.C (Kd.slice 3 (Kd.int .i64)) w A0 l0.length l0) (hc0 : l0.length ≤ c0) (h : graph_Reducible.f k l0 = some r) :
    Calls Try.prog 49 #[.slice A0 l0.length c0] w fun e w' => e = .returned (.bool r) ∧ Below w.heap.size w w' := by
  unfold graph_Reducible.f at h
  split at h
  case isFalse => cases h
  rename_i hok
  obtain ⟨d, hd, h⟩ := Option.bind_eq_some_iff.1 h
  obtain ⟨o, ho, h⟩ := Option.bind_eq_some_iff.1 h
  split at h
  case isFalse => cases h
  rename_i hdl
  obtain ⟨hdl, hol, hob⟩ := hdl
  injection h with h
  have hlen := (okG_len hok).1
  have HR := Aside0.mk hr0
  have HC0 := Aside0.mk hc0
  have HOK := Aside0.mk hok
  have HE := Aside0.mk h
  have HD := Aside0.mk hd
  have HO := Aside0.mk ho
  have HDL := Aside0.mk hdl
  have HOL := Aside0.mk hol
  have HOB := Aside0.mk hob
  clear hr0 hc0 hok h hd ho hdl hol hob
  have hmm := @run_makeMap Try.prog
  refine (callsIn_wide (n := 6)).1 ?_
  refine callsIn_of_wp_marks Try.func49 rfl trivial ?_ rfl
  simp only [Try.ntmps49, List.size_toArray, List.length_cons, List.length_nil, Nat.reduceAdd, Nat.reduceSub, Array.replicate_succ, Array.replicate_zero, List.push_toArray, List.append_toArray, List.nil_append, List.cons_append]
  refine wpIn_seq (wpIn_wide.2 ?_)
  go_wp2
  have hb0 : Below w.heap.size w (w.alloc (.cells #[.bool false] 4)) := below_alloc (Below.refl _ _) _
  have hcr := World.alloc_heap_new w (.cells #[.bool false] 4)
  obtain ⟨W1, hW1⟩ : ∃ W1, w.alloc (.cells #[.bool false] 4) = W1 := ⟨_, rfl⟩
  have hs1 : W1.heap.size = w.heap.size + 1 := by rw [← hW1]; simp
  rw [hW1] at hb0 hcr ⊢
  have HCR := Aside0.mk hcr
  have HB1 := Aside0.mk hb0
  have HS1 := Aside0.mk hs1
  clear hb0 hcr hs1 hW1
  refine wpIn_seq (wpIn_wide.2 ?_)
  go_wp2_with fail
  refine (back_calls k A0 c0 l0 d _ (Kd.C_below HR.out HB1.out) HC0.out HD.out).mono ?_
  rintro e W2 ⟨bk, Ad, cd, rfl, hbk, hbx, hRd, hB2⟩
  have HBX := Aside0.mk hbx
  have HRd := Aside0.mk hRd
  have HB2 := Aside0.mk hB2
  have hbk2 := blk_lt hbx
  clear hbx hRd hB2
  go_wp2
  refine wpIn_seq (wpIn_wide.2 ?_)
  go_wp2
  refine wpIn_seq (wpIn_wide.2 ?_)
  have hB3 : Below W2.heap.size W2 (((W2.alloc (.cells #[.func (.func 103) #[] #[.pointer (some ⟨bk, 0, none⟩)]] 53)).alloc (.map #[] 0)).alloc (.cells #[.map (some (W2.heap.size + 1))] 117)) := below_alloc (below_alloc (below_alloc (Below.refl _ _) _) _) _
  have c3 := cell_alloc' (.cells #[.map (some (W2.heap.size + 1))] 117) (cell_alloc' (.map #[] 0) (cell_new_c' W2 (.func (.func 103) #[] #[.pointer (some ⟨bk, 0, none⟩)]) 53).1)
  have c4 := (cell_new_c' ((W2.alloc (.cells #[.func (.func 103) #[] #[.pointer (some ⟨bk, 0, none⟩)]] 53)).alloc (.map #[] 0)) (.map (some (W2.heap.size + 1))) 117).1
  have hM3 := (MI.made (W2.alloc (.cells #[.func (.func 103) #[] #[.pointer (some ⟨bk, 0, none⟩)]] 53))).below (below_alloc (Below.refl _ _) (.cells #[.map (some (W2.heap.size + 1))] 117))
  have hs3 : ((((W2.alloc (.cells #[.func (.func 103) #[] #[.pointer (some ⟨bk, 0, none⟩)]] 53)).alloc (.map #[] 0)).alloc (.cells #[.map (some (W2.heap.size + 1))] 117))).heap.size = W2.heap.size + 3 := by simp
  simp only [World.size_alloc] at c4 hM3
  obtain ⟨W3, hW3⟩ : ∃ W3, (((W2.alloc (.cells #[.func (.func 103) #[] #[.pointer (some ⟨bk, 0, none⟩)]] 53)).alloc (.map #[] 0)).alloc (.cells #[.map (some (W2.heap.size + 1))] 117)) = W3 := ⟨_, rfl⟩
  rw [hW3] at hB3 c3 c4 hM3 hs3 ⊢
  have C3 := Aside0.mk c3
  have C4 := Aside0.mk c4
  have HM3 := Aside0.mk hM3
  have HB3 := Aside0.mk hB3
  have HS3 := Aside0.mk hs3
  clear hW3 c3 c4 hM3 hB3 hs3
  have HB03 := Aside0.mk (HB1.out.trans ((HB2.out.trans (HB3.out.mono HB2.out.size)).mono HB1.out.size))
  go_wp2_with fail
  refine (graph_Order.calls k A0 c0 l0 o _ (Kd.C_below HR.out HB03.out) HC0.out HO.out).mono ?_
  rintro e W4 ⟨v13, rfl, hRo, hB4⟩
  obtain ⟨Ao, co, rfl⟩ := Kd.R_slice hRo
  have HRo := Aside0.mk (Kd.R_reads' hRo).2.2
  have C34 := Aside0.mk ((hB4.cell (World.block_lt_of_cell? _ _ C3.out)).trans C3.out)
  have C44 := Aside0.mk ((hB4.cell (World.block_lt_of_cell? _ _ C4.out)).trans C4.out)
  have HM4 := Aside0.mk (HM3.out.below hB4)
  have HB4 := Aside0.mk hB4
  clear hRo hB4
  go_wp2
  go_loopg [15] o.length (fun kq v15 W' => ∃ i : Nat, v15 = .int .i64 i ∧ Aside0 (kq + i = o.length) ∧ Aside0 (MI W' (W2.heap.size + 1) i (numL (o.take i))) ∧ Aside0 (W4.grownBy W' (some (W2.heap.size + 1))))
  case atStart => exact ⟨0, rfl, ⟨rfl⟩, ⟨HM4.out⟩, ⟨⟨rfl, rfl, rfl, Nat.le_refl _, fun _ _ _ => rfl⟩⟩⟩
  case round =>
    obtain ⟨i, rfl, HI, HM, HG⟩ := hrel
    cases gk with
    | zero =>
      have hi : i = o.length := by have := HI.out; omega
      subst hi
      rw [List.take_length] at HM
      obtain ⟨es4, ck4, hmap4⟩ := HM4.out.isMap
      have hnc : ∀ r, some (W2.heap.size + 1) = some r → ∃ o : Obj, W4.heap[r]? = some o ∧ o.isCells = false := fun r e => by injection e with e; subst e; exact ⟨_, hmap4, rfl⟩
      have hs4 := HB4.out.size
      have hs3 := HS3.out
      have hs2 := HB2.out.size
      have hs1 := HS1.out
      have hK3 := cell_kept C34.out HG.out hnc
      have hK4 := cell_kept C44.out HG.out hnc
      have hB05 : Below w.heap.size w wr := (HB03.out.trans (HB4.out.mono (HB03.out.size))).grown HG.out (by omega) (fun k e => by injection e with e; omega)
      have hB15 : Below W1.heap.size W1 wr := ((HB2.out.trans (HB3.out.mono HB2.out.size)).trans (HB4.out.mono (by omega))).grown HG.out (by omega) (fun k e => by injection e with e; omega)
      have hB25 : Below (W2.heap.size) W2 wr := (HB3.out.trans (HB4.out.mono (by omega))).grown HG.out (by omega) (fun k e => by injection e with e; omega)
      have KR := Aside0.mk ((hB15.block _ (Array.getElem?_eq_some_iff.1 HCR.out).1).trans HCR.out)
      have KX := Aside0.mk ((hB25.block bk hbk2).trans HBX.out)
      have KD := Aside0.mk (Kd.C_below (Kd.R_reads' HRd.out).2.2 hB25)
      have KDc := Aside0.mk ((Kd.R_reads' HRd.out).2.1)
      have K3 := Aside0.mk hK3
      have K4 := Aside0.mk hK4
      have HB5 := Aside0.mk hB05
      have hws : w.heap.size < wr.heap.size := (Array.getElem?_eq_some_iff.1 KR.out).1
      clear hK3 hK4 hB05 hB15 hB25 hs4 hs3 hs2 hs1 hnc hmap4 HG HB4 HM4 C34 C44 HRo HB03 HB3 HM3 C3 C4 HCR HB2 HRd HBX HS3
      go_wp2
      refine wpIn_seq (wpIn_seq ?_)
      gi_wp2
      refine ⟨trivial, ?_⟩
      refine (callsIn_wide.2 (edges_calls A0 l0.length c0 _)).mono ?_
      rintro e w' ⟨rfl, rfl⟩
      gi_wp2
      have c6 := cell_new_c' wr (.slice A0 l0.length c0) 22
      have hB6 : Below wr.heap.size wr (wr.alloc (.cells #[.slice A0 l0.length c0] 22)) := below_alloc (Below.refl _ _) _
      have hs6 : (wr.alloc (.cells #[.slice A0 l0.length c0] 22)).heap.size = wr.heap.size + 1 := by simp
      obtain ⟨wL, hwL⟩ : ∃ wL, wr.alloc (.cells #[.slice A0 l0.length c0] 22) = wL := ⟨_, rfl⟩
      rw [hwL] at c6 hB6 hs6 ⊢
      have HB6 := Aside0.mk hB6
      have HS6 := Aside0.mk hs6
      clear hB6 hs6 hwL
      refine wpIn_rangeFunc_ownG rfl (by omega) (gf := 104) (lb := #[.pointer (some ⟨wr.heap.size, 0, none⟩)]) rfl trivial (enters_of Try.func104 (by kernel_rfl) rfl)
        (edges_stops 5 (by omega) wr.heap.size A0 c0 l0 HOK.out (fun _ _ => False) wL (fun _ _ _ _ h => h.elim) (fun _ h => h.elim) (Kd.C_below HR.out (HB5.out.trans (HB6.out.mono HB5.out.size))) HC0.out c6.1) EdKp.trans (EdKp.put (fun _ _ _ _ h => h.elim)) (Below.refl _ _) (fun _ => rfl)
        (fun pre W => Below wL.heap.size wL W ∧ ∀ e ∈ pre.map Subtype.val, badE d o e = false)
        (fun c pre W => (c = .ret ∧ ∃ e ∈ pre.map Subtype.val, badE d o e = true) ∧ (W.cell? ⟨w.heap.size, 0, none⟩ = some (.bool false) ∧ Below w.heap.size w W))
        (OwnFrom.and (ownFrom_below (Nat.le_refl _) (Nat.le_refl _)) (ownFrom_pure _ _))
        (fun c s A B row hs hg hr => ⟨hs.1, cell_kept hs.2.1 hg (fun r e => (hr r e).2), hs.2.2.grown hg hs.2.2.size (fun k e => by have := (hr k e).1; have := HS6.out; omega)⟩)
        ⟨Below.refl _ _, by simp⟩
        (fun x => { tmps := #[Value.slice A0 l0.length c0, undef, Value.pointer (some { block := w.heap.size, off := 0 }),
          Value.pointer (some { block := W2.heap.size, off := 0 }),
          Value.pointer (some { block := W2.heap.size + 1 + 1, off := 0 }), u5, u6, .int .i64 x.1.1, .int .i64 x.1.2,
          Value.slice A0 l0.length c0, Value.func (Fn.func 103) #[] #[Value.pointer (some { block := bk, off := 0 })],
          Value.map (some (W2.heap.size + 1)), Value.slice A0 l0.length c0, Value.slice Ao o.length co,
          Value.int IntKind.i64 ↑o.length, Value.int IntKind.i64 ↑o.length, Value.bool false, u17, u18, u19, u20, u21,
          u22, u23, u24, Value.slice A0 l0.length c0,
          Value.func (Fn.func 104) #[] #[Value.pointer (some { block := wr.heap.size, off := 0 })], .int .i64 x.1.1, .int .i64 x.1.2, undef, undef, undef, undef, undef, undef, undef, undef, undef, undef, undef, undef, undef, undef, undef, undef, undef, undef, undef, undef], defers := [] }) ?assign ?body ?done ?stop
      case assign =>
        intro l x W K hK
        simp only [edEnc]
        gi_wp2
        exact hK
      case body =>
        rintro l pre ⟨⟨a, b⟩, ha0, ha1, hb0, hb1⟩ W ⟨hB, hall⟩ hlt
        simp only at ha0 ha1 hb0 hb1
        have hbW1 : Below wr.heap.size wr W := HB6.out.trans (hB.mono HB6.out.size)
        have hc3 := (hbW1.cell (World.block_lt_of_cell? _ _ K3.out)).trans K3.out
        have hc4 := (hbW1.cell (World.block_lt_of_cell? _ _ K4.out)).trans K4.out
        have hMW := HM.out.below hbW1
        have hla := hMW.look (x := a) (wf64_of (by omega) (by omega))
        have hlb := hMW.look (x := b) (wf64_of (by omega) (by omega))
        have hhr := (hbW1.block _ hws).trans KR.out
        have hcon := back1_calls bk Ad cd d a b W ((hbW1.cell (p := ⟨bk, 0, none⟩) (Array.getElem?_eq_some_iff.1 KX.out).1).trans (cell_of_box' KX.out).1) (Kd.C_below KD.out hbW1) KDc.out (by have := HDL.out; omega) ha0 (by have := HDL.out; omega)
        have HCON := Aside0.mk hcon
        have HHR := Aside0.mk hhr
        have HALL := Aside0.mk hall
        have HB := Aside0.mk hB
        have HBWW : Aside0 (Below w.heap.size w W) := ⟨HB5.out.trans (hbW1.mono HB5.out.size)⟩
        have HFW : Aside0 (wL.heap.size ≤ W.heap.size) := ⟨hB.size⟩
        have hgood : badE d o (a, b) = false → ∀ e ∈ (pre ++ [(⟨(a, b), by omega⟩ : Ed l0.length)]).map Subtype.val, badE d o e = false := by
          intro hb e he
          rw [List.map_append, List.mem_append] at he
          rcases he with he | he
          · exact HALL.out e he
          · simp only [List.map_cons, List.map_nil, List.mem_singleton] at he
            rw [he]; exact hb
        have HGOOD := Aside0.mk hgood
        clear hcon hhr hall hB hbW1 hMW hgood
        by_cases h1 : 0 < numL o a
        · have k1 : decide (0 < numL o a) = true := decide_eq_true h1
          by_cases h2 : numL o b ≤ numL o a
          · have k2 : decide (numL o b ≤ numL o a) = true := decide_eq_true h2
            cases hback : backL d a b with
            | true =>
              rw [hback] at HCON
              gi_wp2
              refine ⟨trivial, ?_⟩
              refine (CallsIn.inRound l (callsIn_wide.2 HCON.out)).mono ?_
              rintro e W' ⟨rfl, hBW'⟩
              gi_wp2
              have hbe : badE d o (a, b) = false := by simp [badE, hback]
              exact ⟨KeepsFrom.of_below hBW', EdKp.of_below (fun _ _ _ _ h => h.elim) HFW.out hBW', HB.out.trans (hBW'.mono HFW.out), HGOOD.out hbe⟩
            | false =>
              rw [hback] at HCON
              gi_wp2
              refine ⟨trivial, ?_⟩
              refine (CallsIn.inRound l (callsIn_wide.2 HCON.out)).mono ?_
              rintro e W' ⟨rfl, hBW'⟩
              have hhr' := (hBW'.block _ (Array.getElem?_eq_some_iff.1 HHR.out).1).trans HHR.out
              obtain ⟨hcr, hfr⟩ := cell_of_box' hhr'
              gi_wp2
              have hbe : badE d o (a, b) = true := by simp [badE, hback, h1, h2]
              have hg8 := grownBy_setCell_b W' w.heap.size 0 (.bool false)
              refine ⟨(KeepsFrom.of_below hBW').trans (KeepsFrom.of_grownBy hg8 (fun j e => by injection e with e; have := HS6.out; omega)), ⟨rfl, (a, b), by simp, hbe⟩, World.cell?_setCell_same _ _ _ hcr, ?_⟩
              exact (HBWW.out.trans (hBW'.mono HBWW.out.size)).grown hg8 (by have := HBWW.out.size; have := hBW'.size; omega) (fun k e => by injection e with e; omega)
          · have k2 : decide (numL o b ≤ numL o a) = false := decide_eq_false h2
            gi_wp2
            refine ⟨fun f h => (by cases h), ?_⟩
            gi_wp2
            have hbe : badE d o (a, b) = false := by simp [badE, k2]
            exact ⟨KeepsFrom.refl _ _, EdKp.refl _ _ _, HB.out, HGOOD.out hbe⟩
        · have k1 : decide (0 < numL o a) = false := decide_eq_false h1
          gi_wp2
          refine ⟨fun f h => (by cases h), ?_⟩
          gi_wp2
          have hbe : badE d o (a, b) = false := by simp [badE, k1]
          exact ⟨KeepsFrom.refl _ _, EdKp.refl _ _ _, HB.out, HGOOD.out hbe⟩
      case done =>
        rintro D ys W hD hys ⟨hB, hall⟩ hK
        have hr : r = true := by
          rw [← HE.out]
          unfold redL
          rw [List.all_eq_true]
          intro e he
          rw [← hys] at he
          have h1 := hall e he
          unfold badE at h1
          rw [h1]; rfl
        subst hr
        have hh1 : W.heap[w.heap.size]? = some (.cells #[.bool false] 4 (0, 0)) := ((HB6.out.trans (hB.mono HB6.out.size)).block w.heap.size hws).trans KR.out
        obtain ⟨hc1, hf1⟩ := cell_of_box' hh1
        have hbW : Below w.heap.size w W := (HB5.out.trans (HB6.out.mono HB5.out.size)).trans (hB.mono (by have := HS6.out; omega))
        gi_wp2
        refine ⟨by simp, .inl ⟨_, _, rfl, run_takeDeferred ((Below.heap_setCell _ _ _ D (by have := HS6.out; simp only; omega)).trans hK), ?_⟩⟩
        refine ⟨_, results_cell_bool rfl _ _ ⟨w.heap.size, 0, none⟩ true rfl ?_, rfl, ?_⟩
        · exact cell_kept (World.cell?_setCell_same _ _ _ hc1) (grownBy_putObj' _ D _) (fun r e => by cases e; exact ⟨_, (Below.heap_setCell _ _ _ D (by have := HS6.out; simp only; omega)).trans hK, rfl⟩)
        · exact (hbW.grown (grownBy_setCell_b W w.heap.size 0 (.bool true)) hbW.size (fun k e => by injection e with e; omega)).grown (grownBy_putObj' _ D _) (by have := hbW.size; simp [World.setCell]; omega) (fun k e => by cases e; have := HS6.out; omega)
      case stop =>
        rintro D c pre W hD hpre ⟨⟨rfl, hbad⟩, hc1, hbW⟩ hK
        have hr : r = false := by
          rw [← HE.out]
          unfold redL
          rw [List.all_eq_false]
          obtain ⟨e, he, hb⟩ := hbad
          refine ⟨e, hpre.subset he, ?_⟩
          unfold badE at hb
          rw [hb]; simp
        subst hr
        gi_wp2
        refine ⟨by simp, .inl ⟨_, _, rfl, run_takeDeferred hK, ?_⟩⟩
        refine ⟨_, results_cell_bool rfl _ _ ⟨w.heap.size, 0, none⟩ false rfl ?_, rfl, ?_⟩
        · exact cell_kept hc1 (grownBy_putObj' _ D _) (fun r e => by cases e; exact ⟨_, hK, rfl⟩)
        · exact hbW.grown (grownBy_putObj' _ D _) hbW.size (fun k e => by cases e; have := HS6.out; omega)
    | succ k1 =>
      have hi : i < o.length := by have := HI.out; omega
      obtain ⟨ad, eao, hc⟩ := Kd.at_int HRo.out (i : Int) (by omega) (by omega)
      subst eao
      simp only [Int.toNat_natCast] at hc
      obtain ⟨es4, ck4, hmap4⟩ := HM4.out.isMap
      have hnc : ∀ r, some (W2.heap.size + 1) = some r → ∃ o : Obj, W4.heap[r]? = some o ∧ o.isCells = false := fun r e => by injection e with e; subst e; exact ⟨_, hmap4, rfl⟩
      have hcw : wr.cell? (ad.add i) = some (.int .i64 (rd o i)) := cell_kept hc HG.out hnc
      have hcb : wr.cell? ⟨W2.heap.size + 1 + 1, 0, none⟩ = some (.map (some (W2.heap.size + 1))) := cell_kept C44.out HG.out hnc
      have hmem : rd o i ∈ o := by
        have e : rd o i = o[i] := by simp [rd, hi]
        rw [e]; exact List.getElem_mem _
      have hbo := HOB.out _ hmem
      have hol := HOL.out
      have hwf : wf64 (rd o i) := wf64_of (by omega) (by omega)
      have hwi : wrap64 ((i : Int) + 1) = (i : Int) + 1 := by unfold wrap64; omega
      obtain ⟨W', hrun, hM', hg'⟩ := HM.out.put (v := (i : Int) + 1) hwf (wf64_of (by omega) (by omega)) (by unfold maxLen; omega)
      have HM' : Aside0 (MI W' (W2.heap.size + 1) (i + 1) (numL (o.take (i + 1)))) := ⟨by
        have e : numL (o.take (i + 1)) = fun y => if y = rd o i then (i : Int) + 1 else numL (o.take i) y := by
          funext y
          rw [take_snoc_rd o i hi, numL_snoc, List.length_take, Nat.min_eq_left (by omega)]
        rw [e]; exact hM'⟩
      have HG' := Aside0.mk (HG.out.trans hg')
      clear hM' hg' hnc hmap4 hc hbo hmem
      go_wp2
      go_roundg k1
      case measure => omega
      case rel => exact ⟨i + 1, by go_num, ⟨by have := HI.out; omega⟩, HM', HG'⟩
end Go.Proofs.Ytnmeomdjhjgnfaa.X
end
section
set_option linter.unusedSimpArgs false
namespace Go.Proofs.Ytnmeomdjhjgnfaa.X
open Go.RowKit Go.Shelf Go.Proofs.YtnmeomdjhjgnfaaW.PrintWords Go.Proofs.YtnmeomdjhjgnfaaW.PrintLast Go.Proofs.YtnmeomdjhjgnfaaW.PrintMore
set_option linter.unusedVariables false
attribute [local go_sem] Oper.semAt_some

def opL (d : List Int) (h : Int) (es : List (Int × Int)) : List Int := (es.filter fun e => e.2 == h && backL d e.1 e.2).map (·.1)
theorem opL_snoc (d : List Int) (h : Int) (es : List (Int × Int)) (a b : Int) : opL d h (es ++ [(a, b)]) = if (b == h && backL d a b) = true then opL d h es ++ [a] else opL d h es := by
  unfold opL
  rw [List.filter_append, List.map_append]
  simp only [List.filter_cons, List.filter_nil]
  split <;> simp
theorem opL_length (d : List Int) (h : Int) (es : List (Int × Int)) : (opL d h es).length ≤ es.length := by
  unfold opL; rw [List.length_map]; exact List.length_filter_le _ _

/-- The code's end is a return. -/
def onlyRet (Q : Exit → Act → World → Prop) : Exit → Act → World → Prop
  | .ret, a, w => Q .ret a w
  | _, _, _ => False
theorem wpIn_onlyRet {F : Fence} {n : Nat} {P : Program} {c : Code} {Q : Exit → Act → World → Prop} {a : Act} {w : World} (h : c.wpIn F n P (onlyRet Q) a w) : c.wpIn F n P Q a w :=
  wpIn_mono h (fun e a w h => by cases e <;> first | exact h | exact h.elim)
theorem preds_in_fold (n : Nat) (es : List (Int × Int)) : ∀ rows : List (List Int), (∀ r ∈ rows, ∀ x ∈ r, 0 ≤ x ∧ x < (n : Int)) → (∀ e ∈ es, 0 ≤ e.1 ∧ e.1 < n) → ∀ r ∈ es.foldl predStep rows, ∀ x ∈ r, 0 ≤ x ∧ x < n := by
  induction es with
  | nil => intro rows h _; exact h
  | cons e es ih =>
    intro rows h he
    refine ih _ (fun r hr x hx => ?_) (fun e' h' => he e' (List.mem_cons_of_mem _ h'))
    rcases List.mem_or_eq_of_mem_set hr with hr | rfl
    · exact h r hr x hx
    · rcases List.mem_append.1 hx with hx | hx
      · rcases getD_mem rows e.2.toNat with h2 | h2
        · rw [h2] at hx; cases hx
        · exact h _ h2 x hx
      · rw [List.mem_singleton.1 hx]; exact he e List.mem_cons_self
theorem predsL_in (g : List (List Int)) : ∀ r ∈ predsL g, ∀ x ∈ r, 0 ≤ x ∧ x < g.length :=
  preds_in_fold g.length (edgesL g) _ (fun r hr x hx => by rw [List.eq_of_mem_replicate hr] at hx; cases hx) (fun e he => (edgesL_in g e he).1)
theorem getD_mem' (l : List (List Int)) (i : Nat) : ∀ x ∈ l.getD i [], l.getD i [] ∈ l := by
  intro x hx
  rcases getD_mem l i with h | h
  · rw [h] at hx; cases hx
  · exact h
theorem MB.same {w w' : World} {b n : Nat} {f : Int → Bool} (h : MB w b n f) (he : w'.heap[b]? = w.heap[b]?) : MB w' b n f := by
  obtain ⟨D, ⟨es, clock, hb', F, hs, hD⟩, hf⟩ := h.own
  exact ⟨D, ⟨es, clock, he.trans hb', F, hs, hD⟩, hf⟩
/-- Memory while the loop's blocks are gathered. -/
structure BdIn (w wL : World) (b9 bm D : Nat) (o s : List Int) (W : World) : Prop where
  box : ∃ v, W.heap[b9]? = some (.cells #[v] 23 (0, 0)) ∧ (Kd.int .i64).R 3 W wL.heap.size (fun _ => True) v o
  map : MB W bm s.length (fun x => s.contains x)
  stay : ∀ k, k < b9 → k ≠ bm → W.heap[k]? = wL.heap[k]?
  below : Below w.heap.size w W
  defer : W.heap[D]? = some (.deferred (some []))
  far : wL.heap.size ≤ W.heap.size
theorem bd_store {w wL W : World} {b9 bm D : Nat} {o' s : List Int} {v v' : Value} (hv : W.heap[b9]? = some (.cells #[v] 23 (0, 0))) (hmap : MB W bm s.length (fun x => s.contains x)) (hstay : ∀ k, k < b9 → k ≠ bm → W.heap[k]? = wL.heap[k]?) (hbelow : Below w.heap.size w W)
    (hdefer : W.heap[D]? = some (.deferred (some []))) (hf : wL.heap.size ≤ W.heap.size) (hw : w.heap.size ≤ bm) (h1 : bm < b9) (h2 : b9 < wL.heap.size) (h3 : wL.heap.size ≤ D) (hR : (Kd.int .i64).R 3 W wL.heap.size (fun _ => True) v' o') :
    BdIn w wL b9 bm D o' s (W.setCell ⟨b9, 0, none⟩ v') := by
  have hg := grownBy_setCell_b W b9 0 v'
  have hne : ∀ k, k < W.heap.size → k ≠ b9 → (W.setCell ⟨b9, 0, none⟩ v').heap[k]? = W.heap[k]? := fun k hk hn => hg.block k hk (by intro e; injection e with e; exact hn e)
  refine ⟨⟨v', heap_box hv _, Kd.R_mono (Kd.R_step (Kd.R_bound hR) (fun k hk hlt => hne k hlt (by have := hk.2.1; omega))) (fun _ _ => trivial)⟩, hmap.same (hne bm (by omega) (by omega)), fun k hk hn => (hne k (by omega) (by omega)).trans (hstay k hk hn),
    hbelow.grown hg hbelow.size (fun k e => by injection e with e; omega), (hne D (Array.getElem?_eq_some_iff.1 hdefer).1 (by omega)).trans hdefer, Nat.le_trans hf hg.size⟩
theorem BdIn.pop {w wL W : World} {b9 bm D : Nat} {o o' s : List Int} {v' : Value} (h : BdIn w wL b9 bm D o s W) (hw : w.heap.size ≤ bm) (h1 : bm < b9) (h2 : b9 < wL.heap.size) (h3 : wL.heap.size ≤ D) (hR : (Kd.int .i64).R 3 W wL.heap.size (fun _ => True) v' o') :
    BdIn w wL b9 bm D o' s (W.setCell ⟨b9, 0, none⟩ v') := by
  obtain ⟨v, hv, _⟩ := h.box
  exact bd_store hv h.map h.stay h.below h.defer h.far hw h1 h2 h3 hR
theorem BdIn.put {w wL W W' : World} {b9 bm D : Nat} {o s s' : List Int} (h : BdIn w wL b9 bm D o s W) (hw : w.heap.size ≤ bm) (h1 : bm < b9) (h2 : b9 < wL.heap.size) (h3 : wL.heap.size ≤ D) (hg : W.grownBy W' (some bm)) (hM : MB W' bm s'.length (fun x => s'.contains x)) :
    BdIn w wL b9 bm D o s' W' := by
  obtain ⟨v, hv, hR⟩ := h.box
  have hne : ∀ k, k < W.heap.size → k ≠ bm → W'.heap[k]? = W.heap[k]? := fun k hk hn => hg.block k hk (by intro e; injection e with e; exact hn e)
  have hf := h.far
  refine ⟨⟨v, (hne b9 (by omega) (by omega)).trans hv, Kd.R_mono (Kd.R_step (Kd.R_bound hR) (fun k hk hlt => hne k hlt (by have := hk.2.1; omega))) (fun _ _ => trivial)⟩, hM, fun k hk hn => (hne k (by omega) hn).trans (h.stay k hk hn),
    h.below.grown hg h.below.size (fun k e => by injection e with e; omega), (hne D (Array.getElem?_eq_some_iff.1 h.defer).1 (by omega)).trans h.defer, Nat.le_trans h.far hg.size⟩
theorem BdIn.grow {w wL W W' : World} {b9 bm D : Nat} {o s : List Int} {v : Value} (h : BdIn w wL b9 bm D o s W) (h1 : bm < b9) (h2 : b9 < wL.heap.size) (hw : w.heap.size ≤ wL.heap.size)
    (hv : W.heap[b9]? = some (.cells #[v] 23 (0, 0))) (hR : (Kd.int .i64).R 3 W wL.heap.size (fun _ => True) v o) (hg : W.grownBy W' v.ownBlock) :
    W'.heap[b9]? = some (.cells #[v] 23 (0, 0)) ∧ MB W' bm s.length (fun x => s.contains x) ∧ (∀ k, k < b9 → k ≠ bm → W'.heap[k]? = wL.heap[k]?) ∧ Below w.heap.size w W' ∧ W'.heap[D]? = some (.deferred (some [])) ∧ wL.heap.size ≤ W'.heap.size := by
  have hb := Kd.R_base hR
  have hf := h.far
  have hne : ∀ k, k < wL.heap.size → W'.heap[k]? = W.heap[k]? := fun k hk => hg.block k (by omega) (fun e => by have := hb k e.symm; omega)
  refine ⟨(hne b9 h2).trans hv, h.map.same (hne bm (by omega)), fun k hk hn => (hne k (by omega)).trans (h.stay k hk hn), h.below.grown hg h.below.size (fun k e => by have := hb k e; omega), ?_, Nat.le_trans hf hg.size⟩
  refine (hg.block D (Array.getElem?_eq_some_iff.1 h.defer).1 (fun e => ?_)).trans h.defer
  obtain ⟨c, hc⟩ := Kd.R_typed hR D e.symm
  have := h.defer
  rw [hc] at this
  cases this
theorem BdIn.app {w wL W W' : World} {b9 bm D : Nat} {o o' s : List Int} {v v' : Value} (h : BdIn w wL b9 bm D o s W) (hw : w.heap.size ≤ bm) (h1 : bm < b9) (h2 : b9 < wL.heap.size) (h3 : wL.heap.size ≤ D)
    (hv : W.heap[b9]? = some (.cells #[v] 23 (0, 0))) (hR : (Kd.int .i64).R 3 W wL.heap.size (fun _ => True) v o) (hg : W.grownBy W' v.ownBlock) (hR' : (Kd.int .i64).R 3 W' wL.heap.size (fun _ => True) v' o') :
    BdIn w wL b9 bm D o' s (W'.setCell ⟨b9, 0, none⟩ v') := by
  obtain ⟨k1, k2, k3, k4, k5, k6⟩ := h.grow h1 h2 (by omega) hv hR hg
  exact bd_store k1 k2 k3 k4 k5 k6 hw h1 h2 h3 hR'
set_option maxHeartbeats 8000000 in
set_option maxRecDepth 100000 in
theorem graph_Body.calls (k : Nat) (A0 : Option Addr) (c0 : Nat) (l0 : List (List Int)) (a1 : Int) (r : List Int) (w : World) (hr0 : Kd.C (Kd.slice 3 (Kd.int .i64)) w A0 l0.length l0) (hc0 : l0.length ≤ c0) (h : graph_Body.f k l0 a1 = some r) :
    Calls Try.prog 39 #[.slice A0 l0.length c0, .int .i64 a1] w fun e w' => ∃ v0_ : Value, e = .returned (v0_) ∧ Kd.R (Kd.int .i64) 3 w' w.heap.size (fun _ => True) v0_ r ∧ Below w.heap.size w w' := by
  unfold graph_Body.f at h
  split at h
  case isFalse => cases h
  rename_i hok
  obtain ⟨d, hd, h⟩ := Option.bind_eq_some_iff.1 h
  obtain ⟨o, ho, h⟩ := Option.bind_eq_some_iff.1 h
  split at h
  case isFalse => cases h
  rename_i hdl
  obtain ⟨hdl, hel, hol, hob, ha0, ha1⟩ := hdl
  have hlen := (okG_len hok).1
  have HR := Aside0.mk hr0
  have HC0 := Aside0.mk hc0
  have HOK := Aside0.mk hok
  have HE := Aside0.mk h
  have HD := Aside0.mk hd
  have HO := Aside0.mk ho
  have HDL := Aside0.mk hdl
  have HEL := Aside0.mk hel
  have HOL := Aside0.mk hol
  have HOB := Aside0.mk hob
  clear hr0 hc0 hok h hd ho hdl hol hob hel
  have hmm := @run_makeMap Try.prog
  refine (callsIn_wide (n := 6)).1 ?_
  refine callsIn_of_wp_marks Try.func39 rfl trivial ?_ rfl
  simp only [Try.ntmps39, List.size_toArray, List.length_cons, List.length_nil, Nat.reduceAdd, Nat.reduceSub, Array.replicate_succ, Array.replicate_zero, List.push_toArray, List.append_toArray, List.nil_append, List.cons_append]
  refine wpIn_seq (wpIn_wide.2 ?_)
  go_wp2
  have hb0 : Below w.heap.size w (w.alloc (.cells #[.int .i64 a1] 3)) := below_alloc (Below.refl _ _) _
  have hcr := cell_new_c' w (.int .i64 a1) 3
  obtain ⟨W1, hW1⟩ : ∃ W1, w.alloc (.cells #[.int .i64 a1] 3) = W1 := ⟨_, rfl⟩
  have hs1 : W1.heap.size = w.heap.size + 1 := by rw [← hW1]; simp
  rw [hW1] at hb0 hcr ⊢
  have HCR := Aside0.mk hcr.1
  have HB1 := Aside0.mk hb0
  have HS1 := Aside0.mk hs1
  clear hb0 hcr hs1 hW1
  refine wpIn_seq (wpIn_wide.2 ?_)
  go_wp2_with fail
  refine (back_calls k A0 c0 l0 d _ (Kd.C_below HR.out HB1.out) HC0.out HD.out).mono ?_
  rintro e W2 ⟨bk, Ad, cd, rfl, hbk, hbx, hRd, hB2⟩
  have HBX := Aside0.mk hbx
  have HRd := Aside0.mk (Kd.R_reads' hRd)
  have HB2 := Aside0.mk (HB1.out.trans (hB2.mono HB1.out.size))
  have HCR2 := Aside0.mk ((hB2.cell (World.block_lt_of_cell? _ _ HCR.out)).trans HCR.out)
  have hbk2 := blk_lt hbx
  clear hbx hRd hB2 HCR HB1 HS1
  go_wp2
  have hb3 : Below W2.heap.size W2 (W2.alloc (.cells #[.func (.func 103) #[] #[.pointer (some ⟨bk, 0, none⟩)]] 53)) := below_alloc (Below.refl _ _) _
  have hc3 := cell_new_c' W2 (.func (.func 103) #[] #[.pointer (some ⟨bk, 0, none⟩)]) 53
  obtain ⟨W3, hW3⟩ : ∃ W3, W2.alloc (.cells #[.func (.func 103) #[] #[.pointer (some ⟨bk, 0, none⟩)]] 53) = W3 := ⟨_, rfl⟩
  have hs3 : W3.heap.size = W2.heap.size + 1 := by rw [← hW3]; simp
  rw [hW3] at hb3 hc3 ⊢
  have HC3 := Aside0.mk hc3.1
  have HB3 := Aside0.mk hb3
  have HS3 := Aside0.mk hs3
  have HB03 := Aside0.mk (HB2.out.trans (hb3.mono HB2.out.size))
  clear hb3 hc3 hs3 hW3
  refine wpIn_seq (wpIn_wide.2 ?_)
  go_wp2_with fail
  refine (graph_Preds.calls A0 c0 l0 (predsL l0) _ (Kd.C_below HR.out HB03.out) HC0.out (by unfold graph_Preds.f; rw [if_pos HOK.out])).mono ?_
  rintro e W4 ⟨v17, rfl, hS17, hB4⟩
  obtain ⟨Ap, cp, rfl, _, _⟩ := Kd.S_reads hS17
  rw [predsL_length] at hS17 ⊢
  have HP4 := Aside0.mk hS17
  have HB4 := Aside0.mk hB4
  clear hS17 hB4
  go_wp2
  refine wpIn_seq (wpIn_wide.2 ?_)
  go_wp2_with fail
  refine (graph_Order.calls k A0 c0 l0 o _ (Kd.C_below HR.out (HB03.out.trans (HB4.out.mono HB03.out.size))) HC0.out HO.out).mono ?_
  rintro e W5 ⟨v21, rfl, hRo, hB5⟩
  obtain ⟨Ao, co, rfl⟩ := Kd.R_slice hRo
  have HO5 := Aside0.mk (Kd.R_reads' hRo)
  have HB35 := Aside0.mk (HB4.out.trans (hB5.mono HB4.out.size))
  have HP5 := Aside0.mk (Kd.S_mono (ok' := fun k => k < W4.heap.size) (Kd.S_bound (Kd.S_below (Kd.S_mono (ok' := fun k => k < W4.heap.size) (Kd.S_bound HP4.out) (fun k hk => hk.2.2.1)) hB5)) (fun k hk => hk.1))
  have hs45 := hB5.size
  clear hRo hB5 HP4
  go_wp2
  have hHM := World.alloc_heap_new W5 (.map #[] 0)
  obtain ⟨W6, hrun6, hM6, hg6⟩ := (MB.made W5).put (x := a1) true (wf64_of (by omega) (by omega)) (by unfold maxLen; omega)
  have hc6 : (W5.alloc (.map #[] 0)).cell? ⟨w.heap.size, 0, none⟩ = some (.int .i64 a1) := cell_alloc' _ ((HB35.out.cell (World.block_lt_of_cell? _ _ ((HB3.out.cell (World.block_lt_of_cell? _ _ HCR2.out)).trans HCR2.out))).trans ((HB3.out.cell (World.block_lt_of_cell? _ _ HCR2.out)).trans HCR2.out))
  have hs56 : W5.heap.size + 1 ≤ W6.heap.size := by have := hg6.size; simpa using this
  have HB56 : Aside0 (Below W5.heap.size W5 W6) := ⟨(below_alloc (Below.refl _ _) _).grown hg6 (by simp) (fun k e => by injection e with e; omega)⟩
  have HM6 := Aside0.mk hM6
  clear hM6 hg6 hHM
  refine wpIn_seq (wpIn_wide.2 ?_)
  go_wp2
  have hM6 := HM6.out.below (below_alloc (Below.refl _ W6) (.cells #[.slice none 0 0] 23))
  have k9 := World.alloc_heap_new W6 (.cells #[.slice none 0 0] 23)
  have hB67 : Below W6.heap.size W6 (W6.alloc (.cells #[.slice none 0 0] 23)) := below_alloc (Below.refl _ _) _
  refine wpIn_seq (wpIn_wide.2 ?_)
  go_wp2
  obtain ⟨W7, hW7⟩ : ∃ W7, W6.alloc (.cells #[.slice none 0 0] 23) = W7 := ⟨_, rfl⟩
  have hs67 : W7.heap.size = W6.heap.size + 1 := by rw [← hW7]; simp
  rw [hW7] at hM6 k9 hB67 ⊢
  have hfn : (fun y : Int => if y = a1 then true else false) = fun y => [a1].contains y := by
    funext y
    by_cases hy : y = a1 <;> simp [hy]
  rw [hfn] at hM6
  have hB57 : Below W5.heap.size W5 W7 := HB56.out.trans (hB67.mono (by omega))
  have hB37 : Below W3.heap.size W3 W7 := HB35.out.trans (hB57.mono (by have := HB35.out.size; omega))
  have hB27 : Below W2.heap.size W2 W7 := HB3.out.trans (hB37.mono (by have := HB3.out.size; omega))
  have hB07 : Below w.heap.size w W7 := HB2.out.trans (hB27.mono (by have := HB2.out.size; omega))
  have K1 := Aside0.mk ((hB27.cell (World.block_lt_of_cell? _ _ HCR2.out)).trans HCR2.out)
  have K3 := Aside0.mk ((hB37.cell (World.block_lt_of_cell? _ _ HC3.out)).trans HC3.out)
  have KX := Aside0.mk ((hB27.block bk hbk2).trans HBX.out)
  have KD := Aside0.mk HRd.out.2.2
  have HB27 := Aside0.mk hB27
  have KDc := Aside0.mk HRd.out.2.1
  have KP := HP5
  have KO := Aside0.mk HO5.out.2.2
  have HB57 := Aside0.mk hB57
  have KOc := Aside0.mk HO5.out.2.1
  have KM := Aside0.mk hM6
  have K9 := Aside0.mk k9
  have HB7 := Aside0.mk hB07
  have HW := Aside0.mk (show w.heap.size ≤ W2.heap.size ∧ W2.heap.size < W3.heap.size ∧ W3.heap.size ≤ W4.heap.size ∧ W4.heap.size ≤ W5.heap.size ∧ W5.heap.size < W6.heap.size ∧ W7.heap.size = W6.heap.size + 1 from ⟨HB2.out.size, by have := HS3.out; omega, HB4.out.size, hs45, hs56, hs67⟩)
  clear hM6 k9 hB67 hW7 hs67 hfn hB57 hB37 hB27 hB07 HM6 HB56 hs56 hc6 hrun6 HO5 hs45 HP5 HB35 HB4 HB03 HS3 HB3 HC3 HCR2 HB2 HBX HRd hmm
  refine wpIn_seq (wpIn_seq ?_)
  gi_wp2
  refine ⟨trivial, ?_⟩
  refine (callsIn_wide.2 (edges_calls A0 l0.length c0 _)).mono ?_
  rintro e w' ⟨rfl, rfl⟩
  gi_wp2
  have c10 := cell_new_c' W7 (.slice A0 l0.length c0) 22
  have hBL : Below W7.heap.size W7 (W7.alloc (.cells #[.slice A0 l0.length c0] 22)) := below_alloc (Below.refl _ _) _
  have hsL : (W7.alloc (.cells #[.slice A0 l0.length c0] 22)).heap.size = W7.heap.size + 1 := by simp
  obtain ⟨wL, hwL⟩ : ∃ wL, W7.alloc (.cells #[.slice A0 l0.length c0] 22) = wL := ⟨_, rfl⟩
  rw [hwL] at c10 hBL hsL ⊢
  have k9L : wL.heap[W6.heap.size]? = some (.cells #[.slice none 0 0] 23 (0, 0)) := (hBL.block _ (blk_lt K9.out)).trans K9.out
  have HI0 := Aside0.mk (OutIn.start (d := Kd.int .i64) (e := 3) k9L)
  have hMW := HI0.out.names
  have hbL : W6.heap.size < wL.heap.size := by have := HW.out.2.2.2.2.2; omega
  have hMd : Told wL.heap.size (BxM W6.heap.size) := BxM.told hbL
  have HBL := Aside0.mk hBL
  have HSL := Aside0.mk hsL
  clear hBL hsL hwL k9L
  refine wpIn_rangeFunc_ownG rfl (by omega) (gf := 104) (lb := #[.pointer (some ⟨W7.heap.size, 0, none⟩)]) rfl trivial (enters_of Try.func104 (by kernel_rfl) rfl)
    (edges_stops 5 (by omega) W7.heap.size A0 c0 l0 HOK.out (BxM W6.heap.size) wL hMd hMW (Kd.C_below HR.out (HB7.out.trans (HBL.out.mono HB7.out.size))) HC0.out c10.1) EdKp.trans (EdKp.put hMd) (Below.refl _ _) (fun _ => rfl)
    (fun pre W => OutIn wL W6.heap.size (Kd.int .i64) 3 23 (opL d a1 (pre.map Subtype.val)) W)
    (fun _ _ _ => False)
    (fun s A B row hs hg hr => hs.kept hg hr (by omega))
    (fun _ _ _ _ _ hs _ _ => hs)
    HI0.out
    (fun x => { tmps := #[Value.slice A0 l0.length c0, Value.int IntKind.i64 a1, undef,
          Value.pointer (some { block := w.heap.size, off := 0 }), Value.slice none 0 0,
          Value.pointer (some { block := W2.heap.size, off := 0 }), Value.slice Ap l0.length cp,
          Value.slice Ao o.length co, Value.map (some W5.heap.size),
          Value.pointer (some { block := W6.heap.size, off := 0 }), .int .i64 x.1.1, .int .i64 x.1.2, undef, undef, undef, undef,
          Value.slice A0 l0.length c0, Value.func (Fn.func 103) #[] #[Value.pointer (some { block := bk, off := 0 })],
          Value.slice A0 l0.length c0, Value.slice Ap l0.length cp, Value.slice A0 l0.length c0,
          Value.slice Ao o.length co, Value.map (some W5.heap.size), Value.int IntKind.i64 a1,
          Value.map (some W5.heap.size), Value.slice A0 l0.length c0,
          Value.func (Fn.func 104) #[] #[Value.pointer (some { block := W7.heap.size, off := 0 })], .int .i64 x.1.1, .int .i64 x.1.2, undef, undef, undef, undef, undef, undef, undef, undef, undef, undef, undef, undef, undef, undef, undef, undef, undef, undef, undef, undef, undef, undef, undef, undef, undef, undef, undef, undef, undef, undef, undef, undef, undef, undef, undef, undef, undef, undef, undef, undef, undef, undef, undef, undef, undef, undef, undef, undef, undef, undef, undef, undef, undef, undef, undef, undef, undef, undef, undef], defers := [] }) ?assign ?body ?done ?stop
  case assign =>
    intro l x W K hK
    simp only [edEnc]
    gi_wp2
    exact hK
  case body =>
    rintro l pre ⟨⟨a, b⟩, hq0, hq1, hb0, hb1⟩ W hI hlt
    clear hMd hMW c10 HI0
    simp only at hq0 hq1 hb0 hb1
    obtain ⟨out, hout⟩ : ∃ out, opL d a1 (pre.map Subtype.val) = out := ⟨_, rfl⟩
    rw [hout] at hI
    have HOL : Aside0 (out.length ≤ 1000000000000) := ⟨by
      have h1 := opL_length d a1 (pre.map Subtype.val)
      rw [hout, List.length_map] at h1
      have h2 := HEL.out
      omega⟩
    have hsnoc : opL d a1 ((pre ++ [(⟨(a, b), by omega⟩ : Ed l0.length)]).map Subtype.val) = if (b == a1 && backL d a b) = true then out ++ [a] else out := by
      rw [List.map_append, ← hout]
      exact opL_snoc _ _ _ _ _
    have HSN := Aside0.mk hsnoc
    have HIN := Aside0.mk hI
    clear hsnoc hout
    have hf := hI.far
    have hstay : Below W6.heap.size W7 W := (HBL.out.mono (by have := HW.out.2.2.2.2.2; omega)).trans hI.stay
    have hc1 : W.cell? ⟨w.heap.size, 0, none⟩ = some (.int .i64 a1) := (hstay.cell (p := ⟨w.heap.size, 0, none⟩) (by have := HW.out; simp only; omega)).trans K1.out
    have hc3 : W.cell? ⟨W2.heap.size, 0, none⟩ = some (.func (.func 103) #[] #[.pointer (some ⟨bk, 0, none⟩)]) := (hstay.cell (p := ⟨W2.heap.size, 0, none⟩) (by have := HW.out; simp only; omega)).trans K3.out
    have hcon := back1_calls bk Ad cd d a b W ((hstay.cell (p := ⟨bk, 0, none⟩) (by have := HW.out; simp only; omega)).trans (cell_of_box' KX.out).1) (Kd.C_below KD.out (HB27.out.trans (hstay.mono (by have := HW.out; omega)))) KDc.out (by have := HDL.out; omega) hq0 (by have := HDL.out; omega)
    have HCON := Aside0.mk hcon
    clear hcon hI hstay
    by_cases hba : b = a1
    · have kba : (b == a1) = true := by simpa using hba
      cases hback : backL d a b with
      | false =>
        have HSN2 := HSN.out
        rw [hback, kba] at HSN2
        rw [hback] at HCON
        have HSN3 := Aside0.mk HSN2
        clear HSN2 hba
        gi_wp2
        refine ⟨trivial, ?_⟩
        refine (CallsIn.inRound l (callsIn_wide.2 HCON.out)).mono ?_
        rintro e W' ⟨rfl, hB⟩
        gi_wp2
        have hr := HIN.out.call hB (by omega)
        refine ⟨hr.1, hr.2.1, ?_⟩
        show OutIn _ _ _ _ _ (opL d a1 _) _
        rw [HSN3.out]
        exact hr.2.2
      | true =>
        have HSN2 := HSN.out
        rw [hback, kba] at HSN2
        rw [hback] at HCON
        have HSN3 := Aside0.mk HSN2
        clear HSN2 hba
        refine wpIn_block ?_
        refine wpIn_seq ?_
        refine wpIn_mono (Q := Exit.then (fun a' w' => Below W.heap.size W w' ∧ a' = { tmps := #[Value.slice A0 l0.length c0, Value.int IntKind.i64 a1, undef,
          Value.pointer (some { block := w.heap.size, off := 0 }), Value.slice none 0 0,
          Value.pointer (some { block := W2.heap.size, off := 0 }), Value.slice Ap l0.length cp,
          Value.slice Ao o.length co, Value.map (some W5.heap.size),
          Value.pointer (some { block := W6.heap.size, off := 0 }), .int .i64 a, .int .i64 b, undef, undef, undef, undef,
          Value.slice A0 l0.length c0, Value.func (Fn.func 103) #[] #[Value.pointer (some { block := bk, off := 0 })],
          Value.slice A0 l0.length c0, Value.slice Ap l0.length cp, Value.slice A0 l0.length c0,
          Value.slice Ao o.length co, Value.map (some W5.heap.size), Value.int IntKind.i64 a1,
          Value.map (some W5.heap.size), Value.slice A0 l0.length c0,
          Value.func (Fn.func 104) #[] #[Value.pointer (some { block := W7.heap.size, off := 0 })], .int .i64 a, .int .i64 b, .int .i64 b, .int .i64 a1, .bool true, .bool true, .func (.func 103) #[] #[.pointer (some ⟨bk, 0, none⟩)], .int .i64 a, .int .i64 b, .bool true, .bool true, undef, undef, undef, undef, undef, undef, undef, undef, undef, undef, undef, undef, undef, undef, undef, undef, undef, undef, undef, undef, undef, undef, undef, undef, undef, undef, undef, undef, undef, undef, undef, undef, undef, undef, undef, undef, undef, undef, undef, undef, undef, undef, undef, undef, undef, undef, undef, undef, undef, undef], defers := [] }) (fun _ _ _ => False)) ?first ?rest
        case first =>
          gi_wp2
          refine ⟨trivial, ?_⟩
          refine (CallsIn.inRound l (callsIn_wide.2 HCON.out)).mono ?_
          rintro e W' ⟨rfl, hB⟩
          gi_wp2
          exact ⟨hB, trivial⟩
        case rest =>
          intro e a' W' h'
          cases e <;> first | exact h'.elim | skip
          obtain ⟨hB, rfl⟩ := h'
          obtain ⟨hk1, hk2, hI2⟩ := HIN.out.call hB (by omega)
          obtain ⟨v, h5, hRv⟩ := hI2.box
          obtain ⟨hc5, hf5⟩ := cell_of_box' h5
          obtain ⟨Av, cv, rfl⟩ := Kd.R_slice hRv
          have HRv := Aside0.mk hRv
          have H5 := Aside0.mk h5
          have HK := Aside0.mk (And.intro hk1 hk2)
          have HI2 := Aside0.mk hI2
          have hf2 := hI2.far
          clear hRv h5 hk1 hk2 hI2
          refine wpIn_cond_true rfl ?_
          refine wpIn_list_plain (by kernel_rfl) (fun ⟨_, _, h'⟩ => h') ?_
          go_wp2_with (first | ((with_reducible refine gate_builtin (b := .append) (xs := #[.tmp 38, .tmp 40]) rfl ?_); at_builtin; refine Kd.R_append (Kd.int .i64) (w0 := W') (W := W') wL.heap.size rfl (.tmp 38) (.tmp 40) 23 3 (.int .i64 0) 8 rfl Try.underlying23 info3 rfl (by decide) (by omega) (.slice Av out.length cv) out a [.int .i64 a] (fun _ => True) (fun _ => False) rfl rfl ?aP (fun _ hk => hk.elim) ?aF ?aO ?aB ?aS ?aL ?_; (case aP => rfl); (case aF => exact fun _ _ => trivial); (case aO => exact HRv.out); (case aB => exact Below.refl _ _); (case aS => exact hf2); (case aL => have := HOL.out; omega); intro v20 W7' ho hb hg hat; obtain ⟨A20, n20, c20, rfl⟩ : ∃ A n c, v20 = .slice A n c := ⟨_, _, _, (Kd.R_slice ho).choose_spec.choose_spec⟩; obtain ⟨hc57, hf57⟩ := cell_of_box' ((hg.block W6.heap.size (blk_lt H5.out) (fun h => by have := Kd.R_base HRv.out _ h.symm; omega)).trans H5.out)) | fail)
          obtain ⟨hr1, hr2, hr3⟩ := HI2.out.append (by omega) H5.out HRv.out ho hg hat
          refine ⟨HK.out.1.trans hr1, HK.out.2.trans hr2, ?_⟩
          show OutIn _ _ _ _ _ (opL d a1 _) _
          rw [HSN3.out]
          exact hr3
    · have kba : (b == a1) = false := by simpa using hba
      have HSN2 := HSN.out
      rw [kba] at HSN2
      have HSN3 := Aside0.mk HSN2
      clear HSN2 hba
      gi_wp2
      refine ⟨fun f h => (by cases h), ?_⟩
      gi_wp2
      refine ⟨KeepsFrom.refl _ _, EdKp.refl _ _ _, ?_⟩
      show OutIn _ _ _ _ _ (opL d a1 _) _
      rw [HSN3.out]
      exact HIN.out
  case done =>
    rintro D ys W hD hys hI hK
    clear hMd hMW c10 HI0
    obtain ⟨op, hop⟩ : ∃ op, opL d a1 (ys.map Subtype.val) = op := ⟨_, rfl⟩
    have hop2 : openL l0 d a1 = op := by rw [← hop, hys]; rfl
    have HOPL : Aside0 (op.length ≤ 100000000) := ⟨by
      have h1 := opL_length d a1 (ys.map Subtype.val)
      rw [hop, hys] at h1
      have h2 := HEL.out
      omega⟩
    rw [hop] at hI
    have hE := HE.out
    rw [hop2] at hE
    have hbW : Below w.heap.size w W := HB7.out.trans ((HBL.out.mono HB7.out.size).trans (hI.stay.mono (by have := HW.out; omega)))
    obtain ⟨v, h5, hRv⟩ := hI.box
    have hM1 : MB W W5.heap.size [a1].length (fun x => [a1].contains x) := (KM.out.below HBL.out).same (hI.stay.block _ (by have := HW.out; omega))
    have HST : Aside0 (BdIn w wL W6.heap.size W5.heap.size D op [a1] W) := ⟨⟨v, h5, hRv⟩, hM1, fun k hk _ => hI.stay.block k hk, hbW, hK, hI.far⟩
    have HE' := Aside0.mk hE
    have hopx : ((ys.map Subtype.val).filter fun e => e.2 == a1 && backL d e.1 e.2).map (·.1) = op := hop
    clear hE HE h5 hRv hM1 hI hop2 hop HOK h hbW hK
    refine wpIn_onlyRet (wpIn_wide.2 ?_)
    obtain ⟨v, h5, hRv⟩ := HST.out.box
    obtain ⟨hc5, hf5⟩ := cell_of_box' h5
    obtain ⟨Av, cv, rfl⟩ := Kd.R_slice hRv
    have H5 := Aside0.mk h5
    have HRv := Aside0.mk hRv
    clear h5 hRv
    by_cases hz : op = []
    · subst hz
      have hr : r = [] := by have := HE'.out; simpa using this.symm
      subst hr
      go_wp2
      refine ⟨by simp, .inl ⟨_, _, rfl, run_takeDeferred HST.out.defer, ?_⟩⟩
      refine ⟨_, results_tmp rfl _ _ _, _, rfl, ?_, ?_⟩
      · exact Kd.R_nil _ _ _ _ _
      · exact HST.out.below.grown (grownBy_putObj' _ D _) HST.out.below.size (fun k e => by cases e; have := HW.out; have := HSL.out; omega)
    · have hpos : 0 < op.length := List.length_pos_iff.2 hz
      have hz2 : ((op.length : Int) == 0) = false := by simp; omega
      have hE := HE'.out
      rw [if_neg hz] at hE
      obtain ⟨sf, hsf, hr⟩ := Option.map_eq_some_iff.1 hE
      have HRF := Aside0.mk hr
      have HSF := Aside0.mk hsf
      have HRG : Aside0 (∀ x ∈ op, 0 ≤ x ∧ x < l0.length) := ⟨by
        rw [← hopx]
        intro x hx
        obtain ⟨e, he, rfl⟩ := List.mem_map.1 hx
        have := (List.mem_filter.1 he).1
        rw [hys] at this
        exact (edgesL_in l0 e this).1⟩
      clear hE hr hsf HE' hopx hys
      go_wp2
      clear hc5 hf5 hz2 hpos hz
      go_loopg [12] k (fun kq v12 W' => ∃ (ol s : List Int), Aside0 (bodyLoop (predsL l0) kq ol s = some sf) ∧ Aside0 (BdIn w wL W6.heap.size W5.heap.size D ol s W') ∧ Aside0 (ol.length ≤ 1000000000) ∧ Aside0 (∀ x ∈ ol, 0 ≤ x ∧ x < l0.length))
      case atStart => exact ⟨op, [a1], HSF, HST, ⟨by have := HOPL.out; omega⟩, HRG⟩
      case round =>
        obtain ⟨ol, s, HA, HI, HL, HG⟩ := hrel
        clear HRG HOPL HST HRv H5 HSF
        cases gk with
        | zero => exact absurd HA.out (by simp [bodyLoop])
        | succ k1 =>
          have hX5 : ∀ k, k < W5.heap.size → wr.heap[k]? = W5.heap[k]? := fun k hk => (HI.out.stay k (by have := HW.out; omega) (by omega)).trans ((HBL.out.block k (by have := HW.out; omega)).trans (HB57.out.block k hk))
          rcases List.eq_nil_or_concat ol with rfl | ⟨ol', a, hcc⟩
          · have hs : s = sf := by have := HA.out; simpa [bodyLoop] using this
            subst hs
            obtain ⟨v, h5, hRv⟩ := HI.out.box
            obtain ⟨hc5, hf5⟩ := cell_of_box' h5
            obtain ⟨Av, cv, rfl⟩ := Kd.R_slice hRv
            obtain ⟨wq, ewq⟩ : ∃ wq, wq = wr := ⟨_, rfl⟩
            subst ewq
            have hFar := HI.out.far
            have hMs := Aside0.mk HI.out.map
            clear h5 hRv
            go_wp2
            clear hc5 hf5
            go_loopg [13, 73] o.length (fun kq v13 v73 W' => ∃ i : Nat, v73 = .int .i64 i ∧ Aside0 (kq + i = o.length) ∧ Aside0 (Kd.R (Kd.int .i64) 3 W' wq.heap.size (fun _ => True) v13 ((o.take i).filter (fun b => s.contains b))) ∧ Aside0 (Below wq.heap.size wq W'))
            case atStart => exact ⟨0, rfl, ⟨rfl⟩, ⟨by simpa using Kd.R_nil _ _ _ _ _⟩, ⟨Below.refl _ _⟩⟩
            case round =>
              obtain ⟨i, rfl, HJ, HO, HB⟩ := hrel
              cases gk with
              | zero =>
                have hi : i = o.length := by have := HJ.out; omega
                subst hi
                rw [List.take_length] at HO
                have hl2 : (o.filter (fun b => s.contains b)).length ≤ 100000000 := Nat.le_trans (List.length_filter_le _ _) (by have := HOL.out; omega)
                go_wp2_with fail
                refine (sort_R HO.out hl2).mono ?_
                rintro e W9 ⟨rfl, hs, hg⟩
                have HB9 := Aside0.mk (HB.out.grown hg (HB.out.size) (fun k hk => Kd.R_base HO.out k hk))
                have HS9 := Aside0.mk hs
                clear hs hg
                go_wp2
                have hD9 := (HB9.out.block D (Array.getElem?_eq_some_iff.1 HI.out.defer).1).trans HI.out.defer
                have hbw := HI.out.below
                refine ⟨by simp, .inl ⟨_, _, rfl, run_takeDeferred hD9, ?_⟩⟩
                refine ⟨_, results_tmp rfl _ _ _, _, rfl, ?_, ?_⟩
                · have h2 := HS9.out
                  rw [HRF.out] at h2
                  exact Kd.R_mono (Kd.R_lower (R_nocells h2 (grownBy_putObj' _ D _) (fun r e => by cases e; exact ⟨_, hD9, rfl⟩)) hbw.size) (fun _ _ => trivial)
                · exact (hbw.trans (HB9.out.mono hbw.size)).grown (grownBy_putObj' _ D _) (by have := hbw.size; have := HB9.out.size; omega) (fun k e => by cases e; have := HW.out; have := HSL.out; omega)
              | succ k2 =>
                have hi : i < o.length := by have := HJ.out; omega
                obtain ⟨ad, eao, hc⟩ := Kd.at_int KO.out (i : Int) (by omega) (by omega)
                subst eao
                simp only [Int.toNat_natCast] at hc
                have hbl := World.block_lt_of_cell? _ _ hc
                replace hc := (World.cell?_of_block (hX5 _ hbl)).trans hc
                replace hc := (HB.out.cell (World.block_lt_of_cell? _ _ hc)).trans hc
                have hmem : rd o i ∈ o := by
                  have e : rd o i = o[i] := by simp [rd, hi]
                  rw [e]; exact List.getElem_mem _
                have hbo := HOB.out _ hmem
                have hol := HOL.out
                have hlook := (hMs.out.below HB.out).look (x := rd o i) (wf64_of (by omega) (by omega))
                have HLE := Aside0.mk (take_filter_le o (fun b => s.contains b) i)
                cases hct : s.contains (rd o i) with
                | true =>
                  rw [hct] at hlook
                  have HF := Aside0.mk (take_filter_yes o (fun b => s.contains b) i hi hct)
                  go_wp2_with (first | ((with_reducible refine gate_builtin (b := .append) (xs := #[.tmp 80, .tmp 82]) rfl ?_); at_builtin; refine Kd.R_append (Kd.int .i64) (w0 := wq) (W := wr) wq.heap.size rfl (.tmp 80) (.tmp 82) 23 3 (.int .i64 0) 8 rfl Try.underlying23 info3 rfl (by decide) (by omega) u13 ((o.take i).filter (fun b => s.contains b)) (rd o i) [.int .i64 (rd o i)] (fun _ => True) (fun _ => False) rfl rfl ?aP (fun _ hk => hk.elim) ?aF ?aO ?aB ?aS ?aL ?_; (case aP => rfl); (case aF => exact fun _ _ => trivial); (case aO => exact HO.out); (case aB => exact HB.out); (case aS => exact HB.out.size); (case aL => have := HLE.out; have := HOL.out; omega); intro v83 W8 ho hb hg hat; rw [← HF.out] at ho; have HO8 := Aside0.mk ho; have HB8 := Aside0.mk hb; clear ho hb hg hat HO HB) | fail)
                  go_roundg k2
                  case measure => omega
                  case rel => exact ⟨i + 1, by go_num, ⟨by have := HJ.out; omega⟩, HO8, HB8⟩
                | false =>
                  rw [hct] at hlook
                  have HF := Aside0.mk (take_filter_no o (fun b => s.contains b) i hi hct)
                  go_wp2
                  go_roundg k2
                  case measure => omega
                  case rel => exact ⟨i + 1, by go_num, ⟨by have := HJ.out; omega⟩, ⟨by rw [HF.out]; exact HO.out⟩, HB⟩
          · rw [List.concat_eq_append] at hcc
            subst hcc
            have H := HA.out
            simp only [bodyLoop, List.getLast?_concat, List.dropLast_concat] at H
            have hG := HG.out
            have haR := hG a (by simp)
            obtain ⟨v, h5, hRv⟩ := HI.out.box
            obtain ⟨hc5, hf5⟩ := cell_of_box' h5
            obtain ⟨Av, n, cv, rfl⟩ : ∃ A n c, v = .slice A n c := ⟨_, _, _, (Kd.R_slice hRv).choose_spec.choose_spec⟩
            have hn : n = ol'.length + 1 := by have := (Kd.R_reads' hRv).1; simpa using this
            have hl : n ≤ 1000000000 := by have := HL.out; simp at this; omega
            have hsub : wrap64 ((n : Int) - 1) = (ol'.length : Int) := by unfold wrap64; omega
            obtain ⟨ad, eav, hca⟩ := Kd.at_int (Kd.R_reads' hRv).2.2 (ol'.length : Int) (by omega) (by simp only [List.length_append, List.length_cons, List.length_nil]; omega)
            subst eav
            have hrd : rd (ol' ++ [a]) (ol'.length : Int) = a := by simp [rd]
            rw [hrd, Int.toNat_natCast] at hca
            obtain ⟨i3, hi3, _, _, _⟩ := info_parts info3
            have hcut := cut_to (P := Try.prog) 23 3 .i64 Try.underlying23 hi3 (some ad) n cv (ol'.length : Int) (by omega) (by omega) (Kd.R_reads' hRv).2.1
            simp only [Int.toNat_natCast] at hcut
            have hcv0 : ol'.length ≤ cv := by have := (Kd.R_reads' hRv).2.1; omega
            have hRp := Kd.R_take (m := ol'.length) hRv (by simp)
            rw [List.take_left' rfl] at hRp
            have HI1 := Aside0.mk (HI.out.pop (by have := HW.out; omega) (by have := HW.out; omega) hbL hD hRp)
            have hlook := HI1.out.map.look (x := a) (wf64_of (by omega) (by omega))
            clear h5 hRv hRp hG HA
            have HH := Aside0.mk H
            clear H
            cases hct : s.contains a with
            | true =>
              rw [hct] at hlook
              have HN : Aside0 (bodyLoop (predsL l0) k1 ol' s = some sf) := ⟨by have := HH.out; rwa [if_pos hct] at this⟩
              have HL' : Aside0 (ol'.length ≤ 1000000000) := ⟨by omega⟩
              have HG' : Aside0 (∀ x ∈ ol', 0 ≤ x ∧ x < l0.length) := ⟨fun x hx => HG.out x (by simp [hx])⟩
              go_wp2
              go_roundg k1
              case measure => omega
              case rel => exact ⟨ol', s, HN, HI1, HL', HG'⟩
            | false =>
              rw [hct] at hlook
              have H := HH.out
              rw [if_neg (by rw [hct]; simp)] at H
              split at H
              case isFalse => cases H
              rename_i hcond
              obtain ⟨hq0, hq1, hq2, hq3⟩ := hcond
              have HN : Aside0 (bodyLoop (predsL l0) k1 (ol' ++ (predsL l0).getD a.toNat []) (a :: s) = some sf) := ⟨H⟩
              clear H HH
              obtain ⟨W2', hrun, hM', hg'⟩ := HI1.out.map.put (x := a) true (wf64_of (by omega) (by omega)) (by unfold maxLen; omega)
              have hfn : (fun y => if y = a then true else s.contains y) = fun y => (a :: s).contains y := by
                funext y
                by_cases hy : y = a <;> simp [hy]
              rw [hfn] at hM'
              have HI2 := Aside0.mk (HI1.out.put (s' := a :: s) (by have := HW.out; omega) (by have := HW.out; omega) hbL hD hg' hM')
              clear hM' hg' hfn
              go_wp2
              clear hrun hlook hcut hcv0 hca hc5 hf5 hX5 hsub
              have hX5 : ∀ k, k < W5.heap.size → W2'.heap[k]? = W5.heap[k]? := fun k hk => (HI2.out.stay k (by have := HW.out; omega) (by omega)).trans ((HBL.out.block k (by have := HW.out; omega)).trans (HB57.out.block k hk))
              obtain ⟨v, h5, hRv⟩ := HI2.out.box
              obtain ⟨v, h5, hRv, hvv⟩ : ∃ v, W2'.heap[W6.heap.size]? = some (.cells #[v] 23 (0, 0)) ∧ (Kd.int .i64).R 3 W2' wL.heap.size (fun _ => True) v ol' ∧ True := ⟨v, h5, hRv, trivial⟩
              obtain ⟨hc5, hf5⟩ := cell_of_box' h5
              obtain ⟨Av, n', cv', rfl⟩ : ∃ A n c, v = .slice A n c := ⟨_, _, _, (Kd.R_slice hRv).choose_spec.choose_spec⟩
              obtain ⟨i, rfl⟩ := Int.eq_ofNat_of_zero_le hq0
              have hpl := predsL_length l0
              obtain ⟨adp, _, _, eap, _⟩ := at_L1 (Kd.S_reads' KP.out).2.2 (i : Int) (by omega) (by omega)
              subst eap
              obtain ⟨Ar, cr, hxr, hRow⟩ := row_own (Kd.S_mono (ok' := fun _ => True) KP.out (fun _ _ => trivial)) i (by omega)
              obtain ⟨row, hrow⟩ : ∃ row, rd_L1 (predsL l0) i = row := ⟨_, rfl⟩
              have hrow2 : (predsL l0).getD (i : Int).toNat [] = row := hrow
              rw [hrow] at hxr hRow
              rw [hrow2] at HN hq2
              have hxr2 : W2'.cell? (adp.add i) = some (.slice Ar row.length cr) := (World.cell?_of_block (hX5 _ (World.block_lt_of_cell? _ _ hxr))).trans hxr
              have hRow2 := (Kd.R_reads' (Kd.R_step (Kd.R_bound hRow) (fun k hk hlt => hX5 k hlt))).2.2
              have hRow3 := Kd.C_drew hRow2
              have HRowIn : Aside0 (∀ x ∈ row, 0 ≤ x ∧ x < l0.length) := ⟨by
                rw [← hrow2]
                intro x hx
                exact predsL_in l0 _ (getD_mem' _ _ x hx) x hx⟩
              have HRW := Aside0.mk hRow3
              have H5 := Aside0.mk h5
              have HRv := Aside0.mk hRv
              have HQ2 := Aside0.mk hq2
              clear hRow hRow2 hRow3 h5 hRv hX5 hrow hrow2 hq2 hpl
              refine start_ (n := 7) (S := fun w' => w'.cell? ⟨W6.heap.size, 0, none⟩ = some (.slice Av n' cv') ∧ w'.cell? (adp.add i) = some (.slice Ar row.length cr)) (ds := [5, 6]) #[false, false, false, false, false, false, false] (by kernel_rfl) rfl rfl ⟨hc5, hxr2⟩ (fun hHeld => ?_)
              have R1 := Aside0.mk (Kd.R_drew HRv.out)
              have D1 : Aside0 (∀ W', W2'.drew.grownBy W' (Value.slice Av n' cv').ownBlock → W2'.grownBy W' (Value.slice Av n' cv').ownBlock) := ⟨fun W7 h => ⟨h.os, h.tape, h.output, h.size, h.block⟩⟩
              have F1 : Aside0 (wL.heap.size ≤ W2'.drew.heap.size) := ⟨HI2.out.far⟩
              obtain ⟨Wd, hWd⟩ : ∃ Wd, W2'.drew = Wd := ⟨_, rfl⟩
              rw [hWd] at hHeld HRW R1 D1 F1 ⊢
              clear hWd hc5 hf5 hxr2
              refine pure_ (i := 1) (N := some 66) (v := ?_) (a' := ?_) #[false, true, false, false, false, false, false] rfl rfl (by kernel_rfl) (fun _ _ _ h => h) (Or.inl ⟨by rfl, ?_⟩) ?_ ?_
              rotate_left
              · intro w'
                go_simp
                with_reducible rfl
              rotate_left
              · simp only [Act.put, List.setIfInBounds_toArray, List.set_cons_zero, List.set_cons_succ]
                rfl
              refine pure_ (i := 2) (N := some 67) (v := ?_) (a' := ?_) #[false, true, true, false, false, false, false] rfl rfl (by kernel_rfl) (fun _ _ _ h => h) (Or.inl ⟨by rfl, ?_⟩) ?_ ?_
              rotate_left
              · intro w'
                go_simp
                with_reducible rfl
              rotate_left
              · simp only [Act.put, List.setIfInBounds_toArray, List.set_cons_zero, List.set_cons_succ]
                rfl
              refine pure_ (i := 3) (N := some 68) (v := ?_) (a' := ?_) #[false, true, true, true, false, false, false] rfl rfl (by kernel_rfl) (fun _ _ _ h => h) (Or.inl ⟨by rfl, ?_⟩) ?_ ?_
              rotate_left
              · intro w'
                go_simp
                with_reducible rfl
              rotate_left
              · simp only [Act.put, List.setIfInBounds_toArray, List.set_cons_zero, List.set_cons_succ]
                rfl
              refine take_ (i := 0) (N := some 65) (v := ?_) (a' := ?_) #[true, true, true, true, false, false, false] rfl rfl (by kernel_rfl) (fun _ _ _ h => h) (Or.inl ⟨by rfl, ?_⟩) (by assumption) ?_ ?_
              rotate_left
              · rintro w' ⟨s0, s1⟩
                go_simp
                with_reducible rfl
              rotate_left
              · simp only [Act.put, List.setIfInBounds_toArray, List.set_cons_zero, List.set_cons_succ]
                rfl
              refine take_ (i := 4) (N := some 69) (v := ?_) (a' := ?_) #[true, true, true, true, true, false, false] rfl rfl (by kernel_rfl) (fun _ _ _ h => h) (Or.inl ⟨by rfl, ?_⟩) (by assumption) ?_ ?_
              rotate_left
              · rintro w' ⟨s0, s1⟩
                go_simp
                with_reducible rfl
              rotate_left
              · simp only [Act.put, List.setIfInBounds_toArray, List.set_cons_zero, List.set_cons_succ]
                rfl
              refine last_ (i := 5) (N := some 70) #[true, true, true, true, true, true, false] rfl rfl (by kernel_rfl) (by decide) (fun K hK => ?_)
              refine Kd.R_append_rows_step (Kd.int .i64) (Rr := (Kd.int .i64).K Wd) (w0 := Wd) (W := Wd) wL.heap.size (by rfl) (.tmp 65) (.tmp 69) 23 3 (.int .i64 0) 8 rfl Try.underlying23 info3 rfl (by decide) (by omega) (.slice Av n' cv') ol' row Ar row.length cr (fun _ => True) (fun _ => False) rfl rfl ?aO ?aR ?aK (fun _ hk => hk.elim) (fun _ _ => trivial) (Below.refl _ _) F1.out ?aL ?_
              case aO => exact R1.out
              case aR => exact HRW.out
              case aK => exact fun _ _ h => h
              case aL => have := HQ2.out; simp only [List.length_append] at this; omega
              intro v70 W8 hR8 hb8 hg8 hat8
              obtain ⟨A70, n70, c70, rfl⟩ : ∃ A n c, v70 = .slice A n c := ⟨_, _, _, (Kd.R_slice hR8).choose_spec.choose_spec⟩
              have hgr := HI2.out.grow (by have := HW.out; omega) hbL (by have := HW.out; omega) H5.out HRv.out (D1.out _ hg8)
              obtain ⟨hc58, hf58⟩ := cell_of_box' hgr.1
              have HI3 := Aside0.mk (HI2.out.app (by have := HW.out; omega) (by have := HW.out; omega) hbL hD H5.out HRv.out (D1.out _ hg8) hR8)
              clear hR8 hb8 hg8 hat8 hgr
              refine hK.out _ _ ?_
              clear hK K
              refine norm_ (a' := ?_) ?_ ?_
              rotate_left
              · show Act.put _ (some 70) _ = _
                simp only [Act.put, List.setIfInBounds_toArray, List.set_cons_zero, List.set_cons_succ]
                rfl
              refine last_ (i := 6) (N := none) #[true, true, true, true, true, true, true] rfl rfl (by kernel_rfl) (by decide) (fun K hK => ?_)
              refine skip_ (w1 := W8.setCell ⟨W6.heap.size, 0, none⟩ (.slice A70 n70 c70)) (by rfl) rfl ?_ ?_
              · go_simp
              · refine hK.out _ _ ?_
                refine done_ (by kernel_rfl) ?_
                clear hK K
                go_wp2
                go_roundg k1
                case measure => omega
                case rel => exact ⟨ol' ++ row, (i : Int) :: s, HN, HI3, HQ2, ⟨fun x hx => by
                  rcases List.mem_append.1 hx with hx | hx
                  · exact HG.out x (by simp [hx])
                  · exact HRowIn.out x hx⟩⟩
  case stop =>
    rintro D c pre W _ _ h _
    exact h.elim
end Go.Proofs.Ytnmeomdjhjgnfaa.X
end
section
set_option linter.unusedSimpArgs false
namespace Go.Proofs.Ytnmeomdjhjgnfaa.X
open Go.RowKit Go.Proofs.YtnmeomdjhjgnfaaW.PrintWords Go.Proofs.YtnmeomdjhjgnfaaW.PrintLast Go.Proofs.YtnmeomdjhjgnfaaW.PrintMore
set_option linter.unusedVariables false

theorem eq3 (d : Nat) (w : World) (a c : Int) : (Op.equalIn (d + 1) 3 (.int .i64 a) (.int .i64 c)).run Try.prog w = .ok (a == c) w := by
  have h3 : Try.prog.underlying 3 = some (.int .i64) := by kernel_rfl
  simp [Op.equalIn, run_underlying h3]
theorem part73a (w : World) (a b : Int) : (part 3 #[.int .i64 a, .int .i64 b] 0).run Try.prog w = .ok (.int .i64 a) w := by kernel_rfl
theorem part73b (w : World) (a b : Int) : (part 3 #[.int .i64 a, .int .i64 b] 1).run Try.prog w = .ok (.int .i64 b) w := by kernel_rfl
theorem size3 (w : World) : (sizeOf 3).run Try.prog w = .ok 1 w := by kernel_rfl
theorem eq73 (d : Nat) (w : World) (a b c e : Int) : (Op.equalIn (d + 2) 73 (.agg #[.int .i64 a, .int .i64 b]) (.agg #[.int .i64 c, .int .i64 e])).run Try.prog w = .ok (a == c && b == e) w := by
  have h73 : Try.prog.underlying 73 = some (.array 2 3) := by kernel_rfl
  rw [Op.equalIn]
  simp only [Sem.run_bind, run_underlying h73, Result.andThen_ok, size3]
  simp only [Std.Legacy.Range.forIn_eq_forIn_range', Std.Legacy.Range.size]
  by_cases h1 : a = c <;> by_cases h2 : b = e <;> simp [List.range'_succ, part73a, part73b, eq3, h1, h2]
theorem neq73 (w : World) (a b c e : Int) : (binOp .neq 73 (.agg #[.int .i64 a, .int .i64 b]) (.agg #[.int .i64 c, .int .i64 e])).run Try.prog w = .ok (.bool (!(a == c && b == e))) w := by
  simp only [binOp]
  simp [Op.equal, Op.maxDepth, eq73 9998 w a b c e]

def pr (s : S73) : Int × Int := (s.f0, s.f1)
theorem pairs_at (l0 l1 : List S73) (hl : l0.length = l1.length) : (l0.map pr = l1.map pr) ↔ ∀ i : Nat, i < l0.length → (rd_T73 l0 i).f0 = (rd_T73 l1 i).f0 ∧ (rd_T73 l0 i).f1 = (rd_T73 l1 i).f1 := by
  constructor
  · intro h i hi
    have := congrArg (fun l => l[i]?) h
    have hi1 : i < l1.length := hl ▸ hi
    simp only [List.getElem?_map, List.getElem?_eq_getElem hi, List.getElem?_eq_getElem hi1, Option.map_some, pr, Option.some.injEq, Prod.mk.injEq] at this
    simpa [rd_T73, List.getD_eq_getElem?_getD, hi, hi1] using this
  · intro h
    refine List.ext_getElem (by simpa using hl) ?_
    intro i h0 h1
    simp only [List.length_map] at h0 h1
    have := h i h0
    simp [rd_T73, List.getD_eq_getElem?_getD, h0, h1] at this
    simp [pr, this.1, this.2]
set_option maxHeartbeats 4000000 in
set_option maxRecDepth 100000 in
theorem jacquardref02_Pairs.calls (A0 : Option Addr) (c0 : Nat) (l0 : List S73) (A1 : Option Addr) (c1 : Nat) (l1 : List S73) (r : Bool) (w : World) (hr0 : Kd.C k73 w A0 l0.length l0) (hc0 : l0.length ≤ c0) (hr1 : Kd.C k73 w A1 l1.length l1) (hc1 : l1.length ≤ c1) (h : jacquardref02_Pairs.f l0 l1 = some r) :
    Calls Try.prog 61 #[.slice A0 l0.length c0, .slice A1 l1.length c1] w fun e w' => e = .returned (.bool r) ∧ Drawn0 w w' := by
  have HR0 := Aside0.mk hr0
  have HR1 := Aside0.mk hr1
  have HF : Aside0 (r = decide (l0.map pr = l1.map pr)) := ⟨by unfold jacquardref02_Pairs.f at h; exact (Option.some.inj h).symm⟩
  have hm0 : l0.length ≤ 9223372036854775807 := Kd.C_max hr0
  clear hr0 hr1 h hc0 hc1
  have hu73 := Try.underlying73
  have hneq := fun w a b c e => neq73 w a b c e
  by_cases hl : l0.length = l1.length
  · have HL := Aside0.mk hl
    clear hl
    have e1 : ((l0.length : Int) == (l1.length : Int)) = true := by rw [HL.out]; simp
    have e2 : ((l0.length : Int) != (l1.length : Int)) = false := by rw [HL.out]; simp
    go_enter Try.func61, Try.ntmps61
    go_wp2
    go_loopg [5] (l0.length) (fun kq v5 w' => ∃ i : Nat, v5 = .int .i64 i ∧ Aside0 (kq + i = l0.length) ∧ Aside0 (∀ j : Nat, j < i → (rd_T73 l0 j).f0 = (rd_T73 l1 j).f0 ∧ (rd_T73 l0 j).f1 = (rd_T73 l1 j).f1) ∧ Aside0 (Drawn0 w w'))
    case atStart => exact ⟨0, rfl, ⟨rfl⟩, ⟨fun j hj => by omega⟩, ⟨Drawn0.refl w⟩⟩
    case round =>
      obtain ⟨i, rfl, HI, HA, HD⟩ := hrel
      clear e1 e2
      cases gk with
      | zero =>
        have hi : i = l0.length := by have := HI.out; omega
        subst hi
        have HR : Aside0 (r = true) := ⟨by rw [HF.out]; exact decide_eq_true ((pairs_at l0 l1 HL.out).2 HA.out)⟩
        go_wp2
        go_ret
        exact ⟨by rw [HR.out]; rfl, HD.out⟩
      | succ k1 =>
        have hi : i < l0.length := by have := HI.out; omega
        obtain ⟨ad, rfl, h00, h01⟩ := at_T73 HR0.out (i : Int) (by omega) (by omega)
        obtain ⟨ae, rfl, h10, h11⟩ := at_T73 HR1.out (i : Int) (by omega) (by have := HL.out; omega)
        replace h00 := (HD.out.below.cell (World.block_lt_of_cell? w _ h00)).trans h00
        replace h01 := (HD.out.below.cell (World.block_lt_of_cell? w _ h01)).trans h01
        replace h10 := (HD.out.below.cell (World.block_lt_of_cell? w _ h10)).trans h10
        replace h11 := (HD.out.below.cell (World.block_lt_of_cell? w _ h11)).trans h11
        have hi1 : i < l1.length := by have := HL.out; omega
        simp only [Int.toNat_natCast] at h00 h01 h10 h11
        by_cases q0 : (rd_T73 l0 i).f0 = (rd_T73 l1 i).f0
        · by_cases q1 : (rd_T73 l0 i).f1 = (rd_T73 l1 i).f1
          · have b0 : ((rd_T73 l0 i).f0 == (rd_T73 l1 i).f0) = true := by simpa using q0
            have b1 : ((rd_T73 l0 i).f1 == (rd_T73 l1 i).f1) = true := by simpa using q1
            have HA2 : Aside0 (∀ j : Nat, j < i + 1 → (rd_T73 l0 j).f0 = (rd_T73 l1 j).f0 ∧ (rd_T73 l0 j).f1 = (rd_T73 l1 j).f1) := ⟨fun j hj => by
              by_cases hji : j = i
              · rw [hji]; exact ⟨q0, q1⟩
              · exact HA.out j (by omega)⟩
            clear q0 q1 HA
            go_wp2
            go_quiet (fail)
            go_wp2
            go_roundg k1
            case measure => omega
            case rel => exact ⟨i + 1, by go_num, ⟨by have := HI.out; omega⟩, HA2, ⟨HD.out.step _⟩⟩
          · have HR : Aside0 (r = false) := ⟨by rw [HF.out]; exact decide_eq_false (fun e => q1 ((pairs_at l0 l1 HL.out).1 e i hi).2)⟩
            have b1 : ((rd_T73 l0 i).f1 == (rd_T73 l1 i).f1) = false := by simpa using q1
            have b0 : ((rd_T73 l0 i).f0 == (rd_T73 l1 i).f0) = true := by simpa using q0
            clear q0 q1
            go_wp2
            go_quiet (fail)
            go_wp2
            go_ret
            exact ⟨by rw [HR.out]; rfl, HD.out.step _⟩
        · have HR : Aside0 (r = false) := ⟨by rw [HF.out]; exact decide_eq_false (fun e => q0 ((pairs_at l0 l1 HL.out).1 e i hi).1)⟩
          have b0 : ((rd_T73 l0 i).f0 == (rd_T73 l1 i).f0) = false := by simpa using q0
          clear q0
          go_wp2
          go_quiet (fail)
          go_wp2
          go_ret
          exact ⟨by rw [HR.out]; rfl, HD.out.step _⟩
  · have HR : Aside0 (r = false) := ⟨by rw [HF.out]; exact decide_eq_false (fun e => hl (by simpa using congrArg List.length e))⟩
    have e1 : ((l0.length : Int) == (l1.length : Int)) = false := by simpa using (fun e => hl (by omega) : ¬ (l0.length : Int) = l1.length)
    have e2 : ((l0.length : Int) != (l1.length : Int)) = true := by simpa using (fun e => hl (by omega) : ¬ (l0.length : Int) = l1.length)
    go_enter Try.func61, Try.ntmps61
    go_wp2
    go_ret
    exact ⟨by rw [HR.out]; rfl, Drawn0.refl w⟩
end Go.Proofs.Ytnmeomdjhjgnfaa.X
end
section
-- written by a driver of this session (wip/xprint.py) over the kit's print, for this claim; Lean checks it
namespace Go.Proofs.Ytnmeomdjhjgnfaa.X
open Go.RowKit Go.Proofs.YtnmeomdjhjgnfaaW.PrintWords Go.Proofs.YtnmeomdjhjgnfaaW.PrintLast Go.Proofs.YtnmeomdjhjgnfaaW.PrintMore
attribute [local go_sem] max2_int min2_int max_two min_two max_three min_three max_four min_four   -- for this text's walks alone
set_option linter.unusedVariables false
set_option linter.unusedSimpArgs false

/-! ### jacquardref02_Nums: function 60 -/
def jacquardref02_Nums.l0 : Nat → List Int → List Int → Int → Option (Bool)
  | 0, _, _, _ => none
  | k + 1, x0, x1, x5 => if x5 < (x0.length : Int) then (if 0 ≤ x5 then (if x5 < (x1.length : Int) then (if (rd x0 x5) = (rd x1 x5) then (jacquardref02_Nums.l0 k x0 x1 (wrap64 (x5 + 1))) else (some false)) else (none)) else (none)) else (some true)
def jacquardref02_Nums.f (k : Nat) (l0 : List Int) (l1 : List Int) : Option (Bool) := if (l0.length : Int) = (l1.length : Int) then (jacquardref02_Nums.l0 k l0 l1 0) else (some false)
theorem jacquardref02_Nums.mono_l : ∀ k, (∀ y0 y1 y2, LeO (jacquardref02_Nums.l0 k y0 y1 y2) (jacquardref02_Nums.l0 (k + 1) y0 y1 y2))
  | 0 => fun _ _ _ r h => by simp [jacquardref02_Nums.l0] at h
  | k + 1 => by
    have ih0 := jacquardref02_Nums.mono_l k
    · intro y0 y1 y2
      unfold jacquardref02_Nums.l0
      repeat' first | (with_reducible exact LeO.refl _) | (with_reducible refine LeO.ite ?_ ?_) | (with_reducible refine LeO.bind ?_ (fun _ => ?_)) | exact LeO.none _ | exact ih0 _ _ _ | refine LeO.ite ?_ ?_ | refine LeO.bind ?_ (fun _ => ?_)
theorem jacquardref02_Nums.mono : ∀ a0 a1 k, LeO (jacquardref02_Nums.f k a0 a1) (jacquardref02_Nums.f (k + 1) a0 a1) := by
  intro a0 a1 k
  have ih0 := jacquardref02_Nums.mono_l k
  unfold jacquardref02_Nums.f
  repeat' first | (with_reducible exact LeO.refl _) | (with_reducible refine LeO.ite ?_ ?_) | (with_reducible refine LeO.bind ?_ (fun _ => ?_)) | exact LeO.none _ | exact ih0 _ _ _ | refine LeO.ite ?_ ?_ | refine LeO.bind ?_ (fun _ => ?_)
set_option maxHeartbeats 8000000 in
set_option maxRecDepth 100000 in
theorem jacquardref02_Nums.calls (k : Nat) (A0 : Option Addr) (c0 : Nat) (l0 : List Int) (A1 : Option Addr) (c1 : Nat) (l1 : List Int) (r : Bool) (w : World) (hr0 : Kd.C (Kd.int .i64) w A0 l0.length l0) (hc0 : l0.length ≤ c0) (hr1 : Kd.C (Kd.int .i64) w A1 l1.length l1) (hc1 : l1.length ≤ c1) (h : jacquardref02_Nums.f k l0 l1 = some r) :
    Calls Try.prog 60 #[.slice A0 l0.length c0, .slice A1 l1.length c1] w fun e w' => e = .returned (.bool r) ∧ Drawn0 w w' := by
  have HR0 := Aside0.mk hr0
  have HC0 := Aside0.mk hc0
  clear hr0 hc0
  have HR1 := Aside0.mk hr1
  have HC1 := Aside0.mk hc1
  clear hr1 hc1
  have H : (if (l0.length : Int) = (l1.length : Int) then (jacquardref02_Nums.l0 k l0 l1 0) else (some false)) = some r := h
  clear h
  by_cases c3 : (l0.length : Int) = (l1.length : Int)
  · rw [if_pos c3] at H
    have c3b0 : ((l0.length : Int) == (l1.length : Int)) = true := beq_iff_eq.mpr c3
    have c3b1 : ((l0.length : Int) != (l1.length : Int)) = false := bne_eq_false_iff_eq.mpr c3
    have c3b2 : (l0.length == l1.length) = true := by first | simpa using c3 | (simp at c3 ⊢; omega)
    clear c3
    have H' := Aside0.mk H
    clear H
    go_enter Try.func60, Try.ntmps60
    go_wp2
    repeat (go_quiet (fail); try go_wp2)
    go_loopg [5] k (fun kq v5 w' => ∃ (x5_1 : Int), v5 = .int .i64 x5_1 ∧ Aside0 (jacquardref02_Nums.l0 kq l0 l1 x5_1 = some r) ∧ Aside0 (kq ≤ k) ∧ Drawn0 w w')
    case atStart => exact ⟨(0), (by first | rfl | (simp; done) | (simp [*]; done)), H', ⟨Nat.le_refl _⟩, by repeat (first | exact Drawn0.refl _ | apply Drawn0.step)⟩
    case round =>
      clear H'; (try clear c1); (try clear p2); (try clear c3); (try clear c3b0); (try clear c3b1); (try clear c3b2)
      obtain ⟨x5_1, rfl, HA, HK1, ⟨m1, rfl⟩⟩ := hrel
      cases gk with
      | zero => exact absurd HA.out (by simp [jacquardref02_Nums.l0])
      | succ k1 =>
        have H := HA.out
        clear HA
        simp only [jacquardref02_Nums.l0] at H
        by_cases c4 : x5_1 < (l0.length : Int)
        · rw [if_pos c4] at H
          have c4b0 : decide (x5_1 < (l0.length : Int)) = true := decide_eq_true c4
          clear c4
          by_cases c5 : 0 ≤ x5_1
          · rw [if_pos c5] at H
            have c5b0 : decide (0 ≤ x5_1) = true := decide_eq_true c5
            clear c5
            by_cases c6 : x5_1 < (l1.length : Int)
            · rw [if_pos c6] at H
              have c6b0 : decide (x5_1 < (l1.length : Int)) = true := decide_eq_true c6
              clear c6
              by_cases c7 : (rd l0 x5_1) = (rd l1 x5_1)
              · rw [if_pos c7] at H
                have c7b0 : ((rd l0 x5_1) == (rd l1 x5_1)) = true := beq_iff_eq.mpr c7
                have c7b1 : ((rd l0 x5_1) != (rd l1 x5_1)) = false := bne_eq_false_iff_eq.mpr c7
                clear c7
                have H' := Aside0.mk H
                clear H
                have p137 : 0 ≤ (x5_1 : Int) := of_decide_eq_true (by first | (with_reducible assumption) | assumption)
                have q137 : x5_1 < (l0.length : Int) := of_decide_eq_true (by first | (with_reducible assumption) | assumption)
                obtain ⟨ad137, e137, hx137_0⟩ := Kd.at_int HR0.out x5_1 p137 q137
                cases e137
                replace p137 := eq_true p137
                replace q137 := eq_true q137
                have p138 : 0 ≤ (x5_1 : Int) := of_decide_eq_true (by first | (with_reducible assumption) | assumption)
                have q138 : x5_1 < (l1.length : Int) := of_decide_eq_true (by first | (with_reducible assumption) | assumption)
                obtain ⟨ad138, e138, hx138_0⟩ := Kd.at_int HR1.out x5_1 p138 q138
                cases e138
                replace p138 := eq_true p138
                replace q138 := eq_true q138
                go_wp2
                repeat (go_quiet (fail); try go_wp2)
                go_roundg k1
                case measure => have := HK1.out; omega
                case rel => exact ⟨(wrap64 (x5_1 + 1)), (by first | rfl | (simp; done) | (simp [*]; done)), H', ⟨by have := HK1.out; omega⟩, by repeat (first | exact Drawn0.refl _ | apply Drawn0.step)⟩
              · rw [if_neg c7] at H
                have c7b0 : ((rd l0 x5_1) == (rd l1 x5_1)) = false := beq_eq_false_iff_ne.mpr c7
                have c7b1 : ((rd l0 x5_1) != (rd l1 x5_1)) = true := bne_iff_ne.mpr c7
                obtain rfl := Option.some.inj H
                have p137 : 0 ≤ (x5_1 : Int) := of_decide_eq_true (by first | (with_reducible assumption) | assumption)
                have q137 : x5_1 < (l0.length : Int) := of_decide_eq_true (by first | (with_reducible assumption) | assumption)
                obtain ⟨ad137, e137, hx137_0⟩ := Kd.at_int HR0.out x5_1 p137 q137
                cases e137
                replace p137 := eq_true p137
                replace q137 := eq_true q137
                have p138 : 0 ≤ (x5_1 : Int) := of_decide_eq_true (by first | (with_reducible assumption) | assumption)
                have q138 : x5_1 < (l1.length : Int) := of_decide_eq_true (by first | (with_reducible assumption) | assumption)
                obtain ⟨ad138, e138, hx138_0⟩ := Kd.at_int HR1.out x5_1 p138 q138
                cases e138
                replace p138 := eq_true p138
                replace q138 := eq_true q138
                go_wp2
                repeat (go_quiet (fail); try go_wp2)
                go_ret
                exact ⟨by first | rfl | (simp; done) | (simp [*]; done), by repeat (first | exact Drawn0.refl _ | apply Drawn0.step)⟩
            · rw [if_neg c6] at H
              exact absurd H (by simp)
          · rw [if_neg c5] at H
            exact absurd H (by simp)
        · rw [if_neg c4] at H
          have c4b0 : decide (x5_1 < (l0.length : Int)) = false := decide_eq_false c4
          clear c4
          obtain rfl := Option.some.inj H
          go_wp2
          repeat (go_quiet (fail); try go_wp2)
          go_ret
          exact ⟨by first | rfl | (simp; done) | (simp [*]; done), by repeat (first | exact Drawn0.refl _ | apply Drawn0.step)⟩
  · rw [if_neg c3] at H
    have c3b0 : ((l0.length : Int) == (l1.length : Int)) = false := beq_eq_false_iff_ne.mpr c3
    have c3b1 : ((l0.length : Int) != (l1.length : Int)) = true := bne_iff_ne.mpr c3
    have c3b2 : (l0.length == l1.length) = false := by first | simpa using c3 | (simp at c3 ⊢; omega)
    obtain rfl := Option.some.inj H
    go_enter Try.func60, Try.ntmps60
    go_wp2
    repeat (go_quiet (fail); try go_wp2)
    go_ret
    exact ⟨by first | rfl | (simp; done) | (simp [*]; done), by repeat (first | exact Drawn0.refl _ | apply Drawn0.step)⟩

end Go.Proofs.Ytnmeomdjhjgnfaa.X
end
section
set_option linter.unusedSimpArgs false
namespace Go.Proofs.Ytnmeomdjhjgnfaa.X
open Go.RowKit Go.Shelf Go.Proofs.YtnmeomdjhjgnfaaW.PrintWords Go.Proofs.YtnmeomdjhjgnfaaW.PrintLast Go.Proofs.YtnmeomdjhjgnfaaW.PrintMore
set_option linter.unusedVariables false
set_option maxRecDepth 100000

def gA : List (List Int) := [[1,2],[3],[3],[1]]
def gB : List (List Int) := [[1],[2,3],[1],[]]
def gC : List (List Int) := [[1,2],[2],[]]
theorem aw1 : graph_Order.f 100 gA = some [0,2,1,3] := by kernel_rfl
theorem aw2 : graph_Idom.f 100 gA = some [-1,0,0,0] := by kernel_rfl
theorem aw3 : graph_Body.f 100 gB 1 = some [1,2] := by kernel_rfl
theorem aw4 : graph_Critical.f gC = some [⟨0,2⟩] := by kernel_rfl
theorem aw5 : graph_Reducible.f 100 gA = some false := by kernel_rfl
theorem aw6 : graph_Reducible.f 100 gB = some true := by kernel_rfl
theorem aw7 : graph_Headers.f 100 gA = some [] := by kernel_rfl
theorem aw8 : jacquardref02_Nums.f 100 [0,2,1,3] [0,2,1,3] = some true := by kernel_rfl
theorem aw9 : jacquardref02_Nums.f 100 [-1,0,0,0] [-1,0,0,0] = some true := by kernel_rfl
theorem aw10 : jacquardref02_Nums.f 100 [1,2] [1,2] = some true := by kernel_rfl
theorem aw11 : jacquardref02_Pairs.f [⟨0,2⟩] [⟨0,2⟩] = some true := by kernel_rfl

theorem C_ints {W : World} {b : Nat} {zs : List Int} (h : W.heap[b]? = some (.cells (zs.map (Value.int .i64)).toArray 3 (0, 0))) (hl : zs.length ≤ 9223372036854775807) : Kd.C (Kd.int .i64) W (some ⟨b, 0, none⟩) zs.length zs := by
  refine ⟨rfl, hl, fun _ => ⟨_, rfl, fun j p hp => ⟨[.int .i64 p], rfl, rfl, fun i u hu => ?_⟩⟩⟩
  have hi : i = 0 := by
    rcases Nat.eq_zero_or_pos i with h | h
    · exact h
    · rw [List.getElem?_eq_none (by simp; omega)] at hu; cases hu
  subst hi
  simp at hu
  subst hu
  rw [add_at]
  simp [World.cell?, h]
  rw [show j * (Kd.int .i64).sz = j from Nat.mul_one j]
  exact hp
theorem C_rows {W : World} {b : Nat} {rows : List (List Int)} {vs : List Value} (h : W.heap[b]? = some (.cells vs.toArray 23 (0, 0))) (hl : rows.length ≤ 9223372036854775807)
    (hv : ∀ (i : Nat) (row : List Int), rows[i]? = some row → ∃ A c, vs[i]? = some (Value.slice A row.length c) ∧ row.length ≤ c ∧ Kd.C (Kd.int .i64) W A row.length row) : Kd.C (Kd.slice 3 (Kd.int .i64)) W (some ⟨b, 0, none⟩) rows.length rows := by
  refine ⟨rfl, hl, fun _ => ⟨_, rfl, fun j p hp => ?_⟩⟩
  obtain ⟨A, c, hv, hc, hC⟩ := hv j p hp
  refine ⟨[.slice A p.length c], rfl, ⟨A, c, rfl, hc, hC⟩, fun i u hu => ?_⟩
  have hi : i = 0 := by
    rcases Nat.eq_zero_or_pos i with h | h
    · exact h
    · rw [List.getElem?_eq_none (by simp; omega)] at hu; cases hu
  subst hi
  simp at hu
  subst hu
  rw [add_at]
  simp [World.cell?, h]
  rw [show j * (Kd.slice 3 (Kd.int .i64)).sz = j from Nat.mul_one j]
  exact hv
theorem alloc_at (os : List Obj) : ∀ (w : World) (i : Nat), i < os.length → (os.foldl World.alloc w).heap[w.heap.size + i]? = os[i]? := by
  induction os with
  | nil => intro w i h; simp at h
  | cons o os ih =>
    intro w i h
    cases i with
    | zero =>
      have : ∀ (os : List Obj) (w : World) (k : Nat), k < w.heap.size → (os.foldl World.alloc w).heap[k]? = w.heap[k]? := by
        intro os
        induction os with
        | nil => intro w k _; rfl
        | cons o os ih => intro w k hk; rw [List.foldl_cons, ih _ _ (by simp; omega)]; exact (below_alloc (Below.refl _ w) o : Below w.heap.size w _).block k hk
      rw [List.foldl_cons, Nat.add_zero, this _ _ _ (by simp)]
      exact World.alloc_heap_new w o
    | succ i =>
      have := ih (w.alloc o) i (by simpa using h)
      rw [List.foldl_cons, List.getElem?_cons_succ, ← this]
      congr 1
      simp; omega
def iv (zs : List Int) : Obj := .cells (zs.map (Value.int .i64)).toArray 3 (0, 0)
def sl (b n : Nat) : Value := .slice (some ⟨b, 0, none⟩) n n
set_option maxHeartbeats 4000000 in
theorem jacquardlaw02_awake.calls (r : Bool) (w : World) (h : jacquardlaw02_awake.f = some r) :
    Calls Try.prog 22 #[] w fun e w' => e = .returned (.bool r) ∧ Below w.heap.size w w' := by
  obtain rfl : r = true := by unfold jacquardlaw02_awake.f at h; injection h with h; exact h.symm
  clear h
  go_enter Try.func22, Try.ntmps22
  go_wp2_with fail
  obtain ⟨W1, hW1⟩ : ∃ W1, ([iv [1,2], iv [3], iv [3], iv [1], .cells #[sl w.heap.size 2, sl (w.heap.size + 1) 1, sl (w.heap.size + 2) 1, sl (w.heap.size + 3) 1] 23, iv [1], iv [2,3], iv [1], iv [], .cells #[sl (w.heap.size + 5) 1, sl (w.heap.size + 6) 2, sl (w.heap.size + 7) 1, sl (w.heap.size + 8) 0] 23] : List Obj).foldl World.alloc w = W1 := ⟨_, rfl⟩
  have hA : ∀ i o, ([iv [1,2], iv [3], iv [3], iv [1], .cells #[sl w.heap.size 2, sl (w.heap.size + 1) 1, sl (w.heap.size + 2) 1, sl (w.heap.size + 3) 1] 23, iv [1], iv [2,3], iv [1], iv [], .cells #[sl (w.heap.size + 5) 1, sl (w.heap.size + 6) 2, sl (w.heap.size + 7) 1, sl (w.heap.size + 8) 0] 23] : List Obj)[i]? = some o → W1.heap[w.heap.size + i]? = some o := by
    intro i o h
    rw [← hW1, alloc_at _ _ _ (List.getElem?_eq_some_iff.1 h).1]
    exact h
  have hBW : Below w.heap.size w W1 := by
    rw [← hW1]
    exact below_alloc (below_alloc (below_alloc (below_alloc (below_alloc (below_alloc (below_alloc (below_alloc (below_alloc (below_alloc (Below.refl _ _) _) _) _) _) _) _) _) _) _) _
  have hCA : Kd.C (Kd.slice 3 (Kd.int .i64)) W1 (some ⟨w.heap.size + 4, 0, none⟩) gA.length gA := C_rows (hA 4 _ rfl) (by decide) (by
    intro i row hi
    match i, hi with
    | 0, hi => cases hi; exact ⟨_, _, rfl, Nat.le_refl _, C_ints (hA 0 _ rfl) (by decide)⟩
    | 1, hi => cases hi; exact ⟨_, _, rfl, Nat.le_refl _, C_ints (hA 1 _ rfl) (by decide)⟩
    | 2, hi => cases hi; exact ⟨_, _, rfl, Nat.le_refl _, C_ints (hA 2 _ rfl) (by decide)⟩
    | 3, hi => cases hi; exact ⟨_, _, rfl, Nat.le_refl _, C_ints (hA 3 _ rfl) (by decide)⟩
    | i + 4, hi => cases hi)
  have hCB : Kd.C (Kd.slice 3 (Kd.int .i64)) W1 (some ⟨w.heap.size + 9, 0, none⟩) gB.length gB := C_rows (hA 9 _ rfl) (by decide) (by
    intro i row hi
    match i, hi with
    | 0, hi => cases hi; exact ⟨_, _, rfl, Nat.le_refl _, C_ints (hA 5 _ rfl) (by decide)⟩
    | 1, hi => cases hi; exact ⟨_, _, rfl, Nat.le_refl _, C_ints (hA 6 _ rfl) (by decide)⟩
    | 2, hi => cases hi; exact ⟨_, _, rfl, Nat.le_refl _, C_ints (hA 7 _ rfl) (by decide)⟩
    | 3, hi => cases hi; exact ⟨_, _, rfl, Nat.le_refl _, C_ints (hA 8 _ rfl) (by decide)⟩
    | i + 4, hi => cases hi)
  have HCA := Aside0.mk hCA
  have HCB := Aside0.mk hCB
  have HBW := Aside0.mk hBW
  refine Calls.mono (show Calls Try.prog 26 #[.slice (some ⟨w.heap.size + 4, 0, none⟩) 4 4] _ _ from by have := graph_Order.calls 100 (some ⟨w.heap.size + 4, 0, none⟩) 4 gA _ W1 HCA.out (by decide) aw1; rw [← hW1] at this; exact this) ?_
  clear hCA hCB hBW hA
  rintro e W2 ⟨v, rfl, hR, hB⟩
  rw [hW1] at hB
  clear hW1
  obtain ⟨A, c, rfl⟩ := Kd.R_slice hR
  have H2 := Aside0.mk (And.intro (Kd.R_reads' hR).2.1 (Kd.R_reads' hR).2.2)
  have HB2 := Aside0.mk hB
  clear hR hB
  go_wp2_with fail
  have hA2 : (W2.alloc (iv [0,2,1,3])).heap[W2.heap.size]? = some (iv [0,2,1,3]) := World.alloc_heap_new _ _
  refine Calls.mono (jacquardref02_Nums.calls 100 A c [0,2,1,3] (some ⟨W2.heap.size, 0, none⟩) 4 [0,2,1,3] true (W2.alloc (iv [0,2,1,3])) (Kd.C_alloc H2.out.2 _) H2.out.1 (C_ints hA2 (by decide)) (by decide) aw8) ?_
  rintro e W3 ⟨rfl, hD⟩
  have HB3 := Aside0.mk ((below_alloc HB2.out (iv [0,2,1,3])).trans (hD.below.mono (by have := HB2.out.size; simp; omega)))
  clear hD hA2 H2 HB2
  go_wp2_with fail
  refine Calls.mono (graph_Idom.calls 100 (some ⟨w.heap.size + 4, 0, none⟩) 4 gA _ W3 (Kd.C_below HCA.out HB3.out) (by decide) aw2) ?_
  rintro e W4 ⟨v, rfl, hR, hB⟩
  obtain ⟨A, c, rfl⟩ := Kd.R_slice hR
  have H4 := Aside0.mk (And.intro (Kd.R_reads' hR).2.1 (Kd.R_reads' hR).2.2)
  have HB4 := Aside0.mk (HB3.out.trans (hB.mono HB3.out.size))
  clear hR hB
  go_wp2_with fail
  have hA4 : (W4.alloc (iv [-1,0,0,0])).heap[W4.heap.size]? = some (iv [-1,0,0,0]) := World.alloc_heap_new _ _
  refine Calls.mono (jacquardref02_Nums.calls 100 A c [-1,0,0,0] (some ⟨W4.heap.size, 0, none⟩) _ [-1,0,0,0] true (W4.alloc (iv [-1,0,0,0])) (Kd.C_alloc H4.out.2 _) H4.out.1 (C_ints hA4 (by decide)) (by decide) aw9) ?_
  rintro e W5 ⟨rfl, hD⟩
  have HB5 := Aside0.mk ((below_alloc HB4.out (iv [-1,0,0,0])).trans (hD.below.mono (by have := HB4.out.size; simp; omega)))
  clear hD hA4 H4 HB4 HB3
  go_wp2_with fail
  refine Calls.mono (graph_Body.calls 100 (some ⟨w.heap.size + 9, 0, none⟩) 4 gB 1 _ W5 (Kd.C_below HCB.out HB5.out) (by decide) aw3) ?_
  rintro e W6 ⟨v, rfl, hR, hB⟩
  obtain ⟨A, c, rfl⟩ := Kd.R_slice hR
  have H6 := Aside0.mk (And.intro (Kd.R_reads' hR).2.1 (Kd.R_reads' hR).2.2)
  have HB6 := Aside0.mk (HB5.out.trans (hB.mono HB5.out.size))
  clear hR hB
  go_wp2_with fail
  have hA6 : (W6.alloc (iv [1,2])).heap[W6.heap.size]? = some (iv [1,2]) := World.alloc_heap_new _ _
  refine Calls.mono (jacquardref02_Nums.calls 100 A c [1,2] (some ⟨W6.heap.size, 0, none⟩) _ [1,2] true (W6.alloc (iv [1,2])) (Kd.C_alloc H6.out.2 _) H6.out.1 (C_ints hA6 (by decide)) (by decide) aw10) ?_
  rintro e W7 ⟨rfl, hD⟩
  have HB7 := Aside0.mk ((below_alloc HB6.out (iv [1,2])).trans (hD.below.mono (by have := HB6.out.size; simp; omega)))
  clear hD hA6 H6 HB6 HB5
  go_wp2_with fail
  obtain ⟨W8, hW8⟩ : ∃ W8, ([iv [1,2], iv [2], iv [], .cells #[sl W7.heap.size 2, sl (W7.heap.size + 1) 1, sl (W7.heap.size + 2) 0] 23] : List Obj).foldl World.alloc W7 = W8 := ⟨_, rfl⟩
  have hA : ∀ i o, ([iv [1,2], iv [2], iv [], .cells #[sl W7.heap.size 2, sl (W7.heap.size + 1) 1, sl (W7.heap.size + 2) 0] 23] : List Obj)[i]? = some o → W8.heap[W7.heap.size + i]? = some o := by
    intro i o h
    rw [← hW8, alloc_at _ _ _ (List.getElem?_eq_some_iff.1 h).1]
    exact h
  have hBW : Below W7.heap.size W7 W8 := by
    rw [← hW8]
    exact below_alloc (below_alloc (below_alloc (below_alloc (Below.refl _ _) _) _) _) _
  have hCC : Kd.C (Kd.slice 3 (Kd.int .i64)) W8 (some ⟨W7.heap.size + 3, 0, none⟩) gC.length gC := C_rows (hA 3 _ rfl) (by decide) (by
    intro i row hi
    match i, hi with
    | 0, hi => cases hi; exact ⟨_, _, rfl, Nat.le_refl _, C_ints (hA 0 _ rfl) (by decide)⟩
    | 1, hi => cases hi; exact ⟨_, _, rfl, Nat.le_refl _, C_ints (hA 1 _ rfl) (by decide)⟩
    | 2, hi => cases hi; exact ⟨_, _, rfl, Nat.le_refl _, C_ints (hA 2 _ rfl) (by decide)⟩
    | i + 3, hi => cases hi)
  have HCC := Aside0.mk hCC
  have HB8 := Aside0.mk (HB7.out.trans (hBW.mono HB7.out.size))
  refine Calls.mono (show Calls Try.prog 48 #[.slice (some ⟨W7.heap.size + 3, 0, none⟩) 3 3] _ _ from by have := graph_Critical.calls (some ⟨W7.heap.size + 3, 0, none⟩) 3 gC _ W8 HCC.out (by decide) aw4; rw [← hW8] at this; exact this) ?_
  rintro e W9 ⟨v, rfl, hR, hB⟩
  rw [hW8] at hB
  clear hCC hA hBW hW8 HCC HB7
  obtain ⟨A, c, rfl⟩ := Kd.R_slice hR
  have H9 := Aside0.mk (And.intro (Kd.R_reads' hR).2.1 (Kd.R_reads' hR).2.2)
  have HB9 := Aside0.mk (HB8.out.trans (hB.mono HB8.out.size))
  clear hR hB HB8
  go_wp2_with fail
  have hA9 : (W9.alloc (.cells #[.int .i64 0, .int .i64 2] 73)).heap[W9.heap.size]? = some (.cells #[.int .i64 0, .int .i64 2] 73 (0, 0)) := World.alloc_heap_new _ _
  have hP : Kd.C k73 (W9.alloc (.cells #[.int .i64 0, .int .i64 2] 73)) (some ⟨W9.heap.size, 0, none⟩) ([⟨0, 2⟩] : List S73).length [⟨0, 2⟩] := by
    refine ⟨rfl, by decide, fun _ => ⟨_, rfl, fun j p hp => ?_⟩⟩
    match j, hp with
    | 0, hp =>
      cases hp
      refine ⟨[.int .i64 0, .int .i64 2], rfl, k73_mk _ ⟨0, 2⟩, fun i u hu => ?_⟩
      rw [add_at]
      match i, hu with
      | 0, hu => cases hu; exact blk_cell hA9 0
      | 1, hu => cases hu; exact blk_cell hA9 1
      | i + 2, hu => cases hu
    | j + 1, hp => cases hp
  refine Calls.mono (jacquardref02_Pairs.calls A c [⟨0, 2⟩] (some ⟨W9.heap.size, 0, none⟩) 1 [⟨0, 2⟩] true (W9.alloc (.cells #[.int .i64 0, .int .i64 2] 73)) (Kd.C_alloc H9.out.2 _) H9.out.1 hP (by decide) aw11) ?_
  rintro e W10 ⟨rfl, hD⟩
  have HB10 := Aside0.mk ((below_alloc HB9.out (.cells #[.int .i64 0, .int .i64 2] 73)).trans (hD.below.mono (by have := HB9.out.size; simp; omega)))
  clear hD hA9 hP H9 HB9
  go_wp2_with fail
  refine Calls.mono (graph_Reducible.calls 100 (some ⟨w.heap.size + 4, 0, none⟩) 4 gA false W10 (Kd.C_below HCA.out HB10.out) (by decide) aw5) ?_
  rintro e W11 ⟨rfl, hB⟩
  have HB11 := Aside0.mk (HB10.out.trans (hB.mono HB10.out.size))
  clear hB HB10
  go_wp2_with fail
  refine Calls.mono (graph_Reducible.calls 100 (some ⟨w.heap.size + 9, 0, none⟩) 4 gB true W11 (Kd.C_below HCB.out HB11.out) (by decide) aw6) ?_
  rintro e W12 ⟨rfl, hB⟩
  have HB12 := Aside0.mk (HB11.out.trans (hB.mono HB11.out.size))
  clear hB HB11
  go_wp2_with fail
  refine Calls.mono (graph_Headers.calls 100 (some ⟨w.heap.size + 4, 0, none⟩) 4 gA [] W12 (Kd.C_below HCA.out HB12.out) (by decide) aw7) ?_
  rintro e W13 ⟨v, rfl, hR, hB⟩
  have HB13 := Aside0.mk (HB12.out.trans (hB.mono HB12.out.size))
  obtain ⟨A, c, rfl⟩ := Kd.R_slice hR
  clear hR hB HB12
  go_wp2
  go_ret
  exact ⟨rfl, HBW.out.trans (HB13.out.mono HBW.out.size)⟩
end Go.Proofs.Ytnmeomdjhjgnfaa.X
end
section
set_option linter.unusedVariables false
set_option linter.unusedSimpArgs false
namespace Go.Proofs.Ytnmeomdjhjgnfaa.X
open Go.RowKit Go.Proofs.YtnmeomdjhjgnfaaW.PrintWords Go.Proofs.YtnmeomdjhjgnfaaW.PrintLast Go.Proofs.YtnmeomdjhjgnfaaW.PrintMore

/-- y stands ahead of x. -/
def Bef (L : List Int) (y x : Int) : Prop := ∃ l1 l2, L = l1 ++ l2 ∧ y ∈ l1 ∧ x ∈ l2
theorem Bef.left {L : List Int} {y x : Int} (h : Bef L y x) (M : List Int) : Bef (L ++ M) y x := by
  obtain ⟨l1, l2, rfl, h1, h2⟩ := h
  exact ⟨l1, l2 ++ M, by simp, h1, by simp [h2]⟩
/-- A way from y on, each step to a block that is left earlier. -/
inductive FP (E : Int → Int → Prop) (L : List Int) (y : Int) : Int → Prop
  | refl : FP E L y y
  | step {z x : Int} : FP E L y z → E z x → Bef L x z → FP E L y x
theorem FP.mono {E : Int → Int → Prop} {L M : List Int} (hb : ∀ a b, Bef L a b → Bef M a b) {y x : Int} (h : FP E L y x) : FP E M y x := by
  induction h with
  | refl => exact .refl
  | step _ he hbf ih => exact .step ih he (hb _ _ hbf)
theorem FP.trans {E : Int → Int → Prop} {L : List Int} {w y x : Int} (h : FP E L w y) (k : FP E L y x) : FP E L w x := by
  induction k with
  | refl => exact h
  | step _ he hbf ih => exact .step ih he hbf

def on (t : List Bool) (y : Int) : Prop := t.getD y.toNat false = true
/-- What is new from t to t'. -/
structure DfsNew (E : Int → Int → Prop) (n : Nat) (t t' : List Bool) (new : List Int) : Prop where
  len : t'.length = t.length
  mark : ∀ y : Int, 0 ≤ y → y < (n : Int) → (on t' y ↔ on t y ∨ y ∈ new)
  rng : ∀ x ∈ new, 0 ≤ x ∧ x < (n : Int)
  fresh : ∀ x ∈ new, ¬ on t x
  nodup : new.Nodup
  closed : ∀ x ∈ new, ∀ y, E x y → on t' y
  back : ∀ x ∈ new, ∀ y ∈ new, E x y → Bef new y x ∨ FP E new y x
theorem DfsNew.nil (E : Int → Int → Prop) (n : Nat) (t : List Bool) : DfsNew E n t t [] :=
  ⟨rfl, (fun y _ _ => by simp), (fun x (h : x ∈ []) => nomatch h), (fun x (h : x ∈ []) => nomatch h), List.nodup_nil, (fun x (h : x ∈ []) => nomatch h), (fun x (h : x ∈ []) => nomatch h)⟩
/-- The block at a place. -/
def at_ (o : List Int) (i : Nat) : Int := o.getD i 0
/-- From place j on to place i, by edges that go on. -/
inductive FW (E : Int → Int → Prop) (o : List Int) (j : Nat) : Nat → Prop
  | refl : FW E o j j
  | step {z x : Nat} : FW E o j z → E (at_ o z) (at_ o x) → z < x → x < o.length → FW E o j x
structure Ordd (E : Int → Int → Prop) (n : Nat) (o : List Int) : Prop where
  nodup : o.Nodup
  rng : ∀ x ∈ o, 0 ≤ x ∧ x < (n : Int)
  pos : 0 < o.length
  head : at_ o 0 = 0
  closed : ∀ x ∈ o, ∀ y, E x y → y ∈ o
  fwd : ∀ i, 0 < i → i < o.length → ∃ j, j < i ∧ E (at_ o j) (at_ o i)
  back : ∀ i j, i < o.length → j < o.length → E (at_ o i) (at_ o j) → i < j ∨ FW E o j i
theorem at_mem {o : List Int} {i : Nat} (h : i < o.length) : at_ o i ∈ o := by
  unfold at_
  rw [List.getD_eq_getElem?_getD, List.getElem?_eq_getElem h]
  exact List.getElem_mem h
theorem at_inj {o : List Int} (hn : o.Nodup) {i j : Nat} (hi : i < o.length) (hj : j < o.length) (h : at_ o i = at_ o j) : i = j := by
  unfold at_ at h
  rw [List.getD_eq_getElem?_getD, List.getElem?_eq_getElem hi, List.getD_eq_getElem?_getD, List.getElem?_eq_getElem hj] at h
  have hp := List.pairwise_iff_getElem.1 hn
  rcases Nat.lt_trichotomy i j with hlt | hlt | hlt
  · exact absurd h (hp i j hi hj hlt)
  · exact hlt
  · exact absurd h.symm (hp j i hj hi hlt)
end Go.Proofs.Ytnmeomdjhjgnfaa.X
end
section
set_option linter.unusedVariables false
namespace Go.Proofs.Ytnmeomdjhjgnfaa.X

/-- z stands on u's chain. -/
inductive An (par : Nat → Nat) (z : Nat) : Nat → Prop
  | refl : An par z z
  | up {u : Nat} : 0 < u → An par z (par u) → An par z u
/-- Parents stand ahead. -/
def Dn (par : Nat → Nat) : Prop := ∀ u, 0 < u → par u < u
theorem An.le {par : Nat → Nat} (hd : Dn par) {z u : Nat} (h : An par z u) : z ≤ u := by
  induction h with
  | refl => exact Nat.le_refl _
  | up h0 _ ih => have := hd _ h0; omega
theorem An.trans {par : Nat → Nat} {z w u : Nat} (h : An par z w) (k : An par w u) : An par z u := by
  induction k with
  | refl => exact h
  | up h0 _ ih => exact .up h0 ih
theorem An.inv {par : Nat → Nat} {z u : Nat} (h : An par z u) : z = u ∨ (0 < u ∧ An par z (par u)) := by
  cases h with
  | refl => exact .inl rfl
  | up h0 h => exact .inr ⟨h0, h⟩
theorem An.linear {par : Nat → Nat} (hd : Dn par) {z w u : Nat} (h : An par z u) (k : An par w u) (hle : z ≤ w) : An par z w := by
  induction k with
  | refl => exact h
  | @up u h0 k ih =>
    rcases h.inv with rfl | ⟨_, h⟩
    · have h1 := k.le hd
      have h2 := hd _ h0
      omega
    · exact ih h
theorem An.root {par : Nat → Nat} (hd : Dn par) : ∀ (n u : Nat), u ≤ n → An par 0 u
  | 0, u, h => by obtain rfl : u = 0 := by omega
                  exact .refl
  | n + 1, u, h => by
    rcases Nat.eq_zero_or_pos u with rfl | h0
    · exact .refl
    · exact .up h0 (An.root hd n (par u) (by have := hd u h0; omega))
/-- The nearest one of two chains. -/
def com (par : Nat → Nat) : Nat → Nat → Nat → Nat
  | 0, a, _ => a
  | k + 1, a, b => if b < a then com par k (par a) b else if a < b then com par k a (par b) else a
theorem com_an {par : Nat → Nat} (hd : Dn par) : ∀ (k a b : Nat), a + b < k → ∀ z, An par z (com par k a b) ↔ An par z a ∧ An par z b
  | 0, _, _, h, _ => by omega
  | k + 1, a, b, h, z => by
    rw [com]
    by_cases h1 : b < a
    · have h2 := hd a (by omega)
      rw [if_pos h1, com_an hd k (par a) b (by omega) z]
      constructor
      · exact fun ⟨x, y⟩ => ⟨.up (by omega) x, y⟩
      · rintro ⟨x, y⟩
        rcases x.inv with rfl | ⟨_, x⟩
        · have := y.le hd; omega
        · exact ⟨x, y⟩
    · rw [if_neg h1]
      by_cases h3 : a < b
      · have h2 := hd b (by omega)
        rw [if_pos h3, com_an hd k a (par b) (by omega) z]
        constructor
        · exact fun ⟨x, y⟩ => ⟨x, .up (by omega) y⟩
        · rintro ⟨x, y⟩
          rcases y.inv with rfl | ⟨_, y⟩
          · have := x.le hd; omega
          · exact ⟨x, y⟩
      · rw [if_neg h3]
        obtain rfl : a = b := by omega
        exact ⟨fun x => ⟨x, x⟩, fun x => x.1⟩
theorem com_dom {par : Nat → Nat} (hd : Dn par) {Dm : Nat → Nat → Prop} (hle : ∀ d u, Dm d u → d ≤ u) (d : Nat) : ∀ (k a b : Nat), (∀ u, 0 < u → u ≤ max a b → Dm d u → d ≠ u → Dm d (par u)) → Dm d a → Dm d b → Dm d (com par k a b)
  | 0, _, _, _, ha, _ => ha
  | k + 1, a, b, hB, ha, hb => by
    rw [com]
    by_cases h1 : b < a
    · rw [if_pos h1]
      have h2 := hd a (by omega)
      refine com_dom hd hle d k (par a) b (fun u h0 hu => hB u h0 (by omega)) (hB a (by omega) (by omega) ha (fun e => ?_)) hb
      have := hle d b hb
      omega
    · rw [if_neg h1]
      by_cases h3 : a < b
      · rw [if_pos h3]
        have h2 := hd b (by omega)
        refine com_dom hd hle d k a (par b) (fun u h0 hu => hB u h0 (by omega)) ha (hB b (by omega) (by omega) hb (fun e => ?_))
        have := hle d a ha
        omega
      · rw [if_neg h3]; exact ha
/-- The nearest one of several: of p and those behind it. -/
def nca (par : Nat → Nat) (K p : Nat) (ps : List Nat) : Nat := ps.foldl (com par K) p
theorem com_le {par : Nat → Nat} (hd : Dn par) (K a b : Nat) (h : a + b < K) : com par K a b ≤ a ∧ com par K a b ≤ b := by
  have := (com_an hd K a b h (com par K a b)).1 .refl
  exact ⟨this.1.le hd, this.2.le hd⟩
theorem nca_an {par : Nat → Nat} (hd : Dn par) (m : Nat) : ∀ (ps : List Nat) (p : Nat), p < m → (∀ q ∈ ps, q < m) → ∀ z, An par z (nca par (2 * m) p ps) ↔ An par z p ∧ ∀ q ∈ ps, An par z q
  | [], p, _, _, z => by simp [nca]
  | q :: ps, p, hp, hq, z => by
    have h1 := hq q List.mem_cons_self
    have h2 := com_le hd (2 * m) p q (by omega)
    have ih := nca_an hd m ps (com par (2 * m) p q) (by omega) (fun x hx => hq x (List.mem_cons_of_mem _ hx)) z
    unfold nca at ih ⊢
    rw [List.foldl_cons, ih, com_an hd (2 * m) p q (by omega) z]
    constructor
    · rintro ⟨⟨x, y⟩, h⟩
      refine ⟨x, fun w hw => ?_⟩
      rcases List.mem_cons.1 hw with rfl | hw
      · exact y
      · exact h w hw
    · rintro ⟨x, h⟩
      exact ⟨⟨x, h q List.mem_cons_self⟩, fun w hw => h w (List.mem_cons_of_mem _ hw)⟩
theorem nca_dom {par : Nat → Nat} (hd : Dn par) {Dm : Nat → Nat → Prop} (hle : ∀ d u, Dm d u → d ≤ u) (m i d : Nat) (hi : i ≤ m) (hB : ∀ u, 0 < u → u < i → Dm d u → d ≠ u → Dm d (par u)) : ∀ (ps : List Nat) (p : Nat), p < i → (∀ q ∈ ps, q < i) → Dm d p → (∀ q ∈ ps, Dm d q) → Dm d (nca par (2 * m) p ps)
  | [], p, _, _, h, _ => h
  | q :: ps, p, hp, hq, h, hs => by
    have h1 := hq q List.mem_cons_self
    have h2 := com_le hd (2 * m) p q (by omega)
    have h3 := com_dom hd hle d (2 * m) p q (fun u h0 hu => hB u h0 (by omega)) h (hs q List.mem_cons_self)
    exact nca_dom hd hle m i d hi hB ps (com par (2 * m) p q) (by omega) (fun x hx => hq x (List.mem_cons_of_mem _ hx)) h3 (fun x hx => hs x (List.mem_cons_of_mem _ hx))

/-! ### one parent is turned -/
def upd (par : Nat → Nat) (b v : Nat) : Nat → Nat := fun u => if u = b then v else par u
theorem upd_dn {par : Nat → Nat} (hd : Dn par) {b v : Nat} (hv : v < b) : Dn (upd par b v) := by
  intro u h0
  unfold upd
  split
  · omega
  · exact hd u h0
theorem an_upd_lt {par : Nat → Nat} (hd : Dn par) {b v z : Nat} (hv : v < b) {u : Nat} (hu : u < b) : An (upd par b v) z u ↔ An par z u := by
  constructor
  · intro h
    induction h with
    | refl => exact .refl
    | @up u h0 _ ih =>
      have e : upd par b v u = par u := by unfold upd; rw [if_neg (by omega)]
      rw [e] at ih
      exact .up h0 (ih (by have := hd u h0; omega))
  · intro h
    induction h with
    | refl => exact .refl
    | @up u h0 _ ih =>
      have e : upd par b v u = par u := by unfold upd; rw [if_neg (by omega)]
      exact .up h0 (by rw [e]; exact ih (by have := hd u h0; omega))
theorem an_upd_off {par : Nat → Nat} {b v z u : Nat} (hu : ¬ An par b u) : An (upd par b v) z u ↔ An par z u := by
  constructor
  · intro h
    induction h with
    | refl => exact .refl
    | @up u h0 _ ih =>
      have hb : u ≠ b := fun e => hu (e ▸ .refl)
      have e : upd par b v u = par u := by unfold upd; rw [if_neg hb]
      rw [e] at ih
      exact .up h0 (ih (fun h => hu (.up h0 h)))
  · intro h
    induction h with
    | refl => exact .refl
    | @up u h0 _ ih =>
      have hb : u ≠ b := fun e => hu (e ▸ .refl)
      have e : upd par b v u = par u := by unfold upd; rw [if_neg hb]
      exact .up h0 (by rw [e]; exact ih (fun h => hu (.up h0 h)))
theorem an_upd_at {par : Nat → Nat} (hd : Dn par) {b v z : Nat} (h0 : 0 < b) (hv : v < b) : An (upd par b v) z b ↔ z = b ∨ An par z v := by
  have e : upd par b v b = v := by unfold upd; rw [if_pos rfl]
  constructor
  · intro h
    rcases h.inv with h | ⟨_, h⟩
    · exact .inl h
    · rw [e] at h; exact .inr ((an_upd_lt hd hv hv).1 h)
  · rintro (rfl | h)
    · exact .refl
    · exact .up h0 (by rw [e]; exact (an_upd_lt hd hv hv).2 h)
theorem an_upd_on {par : Nat → Nat} (hd : Dn par) {b v z u : Nat} (h0 : 0 < b) (hv : v < b) (hu : An par b u) : An (upd par b v) z u ↔ (b ≤ z ∧ An par z u) ∨ An par z v := by
  induction hu with
  | refl =>
    rw [an_upd_at hd h0 hv]
    constructor
    · rintro (rfl | h)
      · exact .inl ⟨Nat.le_refl _, .refl⟩
      · exact .inr h
    · rintro (⟨h1, h2⟩ | h)
      · exact .inl (by have := h2.le hd; omega)
      · exact .inr h
  | @up u hu0 hb ih =>
    have hbu : b < u := by have := hb.le hd; have := hd u hu0; omega
    have e : upd par b v u = par u := by unfold upd; rw [if_neg (by omega)]
    constructor
    · intro h
      rcases h.inv with rfl | ⟨_, h⟩
      · exact .inl ⟨by omega, .refl⟩
      · rw [e] at h
        rcases ih.1 h with ⟨h1, h2⟩ | h
        · exact .inl ⟨h1, .up hu0 h2⟩
        · exact .inr h
    · rintro (⟨h1, h2⟩ | h)
      · rcases h2.inv with rfl | ⟨_, h2⟩
        · exact .refl
        · exact .up hu0 (by rw [e]; exact ih.2 (.inl ⟨h1, h2⟩))
      · exact .up hu0 (by rw [e]; exact ih.2 (.inr h))
/-- Where the new parent stands on the old one's chain, chains only lose. -/
theorem an_upd_le {par : Nat → Nat} (hd : Dn par) {b v z u : Nat} (h0 : 0 < b) (hv : An par v (par b)) (h : An (upd par b v) z u) : An par z u := by
  have hvb : v < b := by have := hv.le hd; have := hd b h0; omega
  by_cases hu : An par b u
  · rcases (an_upd_on hd h0 hvb hu).1 h with ⟨_, h⟩ | h
    · exact h
    · exact (h.trans hv).trans ((An.up h0 .refl : An par (par b) b).trans hu)
  · exact (an_upd_off hu).1 h
end Go.Proofs.Ytnmeomdjhjgnfaa.X
namespace Go.Proofs.Ytnmeomdjhjgnfaa.X
/-! ### sweeps -/
/-- m blocks by their places in the order; P: the places from which each one comes; Dm: who dominates. -/
structure Gr (m : Nat) (P : Nat → List Nat) (Dm : Nat → Nat → Prop) : Prop where
  inb : ∀ u, u < m → ∀ p ∈ P u, p < m
  fwd : ∀ u, 0 < u → u < m → ∃ s, s ∈ P u ∧ s < u
  dle : ∀ d u, Dm d u → d ≤ u
  dstep : ∀ d u, 0 < u → u < m → Dm d u → d ≠ u → ∀ p ∈ P u, Dm d p
/-- What holds while a later sweep goes, the places below i done. -/
structure Swp (m : Nat) (P : Nat → List Nat) (Dm : Nat → Nat → Prop) (i : Nat) (par : Nat → Nat) : Prop where
  dn : Dn par
  dom : ∀ u, 0 < u → u < m → ∀ d, Dm d u → d ≠ u → Dm d (par u)
  low : ∀ u, 0 < u → u < m → ∀ z, (∀ p ∈ P u, An par z p) → z ≤ par u
  old : ∀ u, 0 < u → u < m → ∃ s, s ∈ P u ∧ s < u ∧ ((u < i → An par (par u) s) ∧ (An par (par u) s ∨ (par u < i ∧ ∀ z, An par z s → z ≤ par u → An par z (par u))))
theorem Swp.step {m : Nat} {P : Nat → List Nat} {Dm : Nat → Nat → Prop} (G : Gr m P Dm) {i : Nat} {par : Nat → Nat} (h : Swp m P Dm i par) (h0 : 0 < i) (hm : i < m) {p : Nat} {ps : List Nat} (hP : P i = p :: ps) :
    nca par (2 * m) p ps ≤ par i ∧ Swp m P Dm (i + 1) (upd par i (nca par (2 * m) p ps)) := by
  obtain ⟨v, hv⟩ : ∃ v, nca par (2 * m) p ps = v := ⟨_, rfl⟩
  have hp : p < m := G.inb i hm p (by rw [hP]; exact List.mem_cons_self)
  have hps : ∀ q ∈ ps, q < m := fun q hq => G.inb i hm q (by rw [hP]; exact List.mem_cons_of_mem _ hq)
  have hvA : ∀ z, An par z v ↔ ∀ q ∈ P i, An par z q := by
    intro z
    rw [← hv, nca_an h.dn m ps p hp hps z, hP]
    simp
  have hvv := (hvA v).1 .refl
  rw [hv]
  have hlow : v ≤ par i := h.low i h0 hm v hvv
  have hvi : v < i := by have := h.dn i h0; omega
  have hvp : An par v (par i) := by
    obtain ⟨s, hs, _, _, ho⟩ := h.old i h0 hm
    rcases ho with ho | ⟨_, ho⟩
    · exact (hvv s hs).linear h.dn ho hlow
    · exact ho v (hvv s hs) hlow
  have hle : ∀ {z u}, An (upd par i v) z u → An par z u := fun hz => an_upd_le h.dn h0 hvp hz
  have e : ∀ u, u ≠ i → upd par i v u = par u := fun u hu => by unfold upd; rw [if_neg hu]
  have ei : upd par i v i = v := by unfold upd; rw [if_pos rfl]
  refine ⟨hlow, upd_dn h.dn hvi, fun u hu0 hum d hd hne => ?_, fun u hu0 hum z hz => ?_, fun u hu0 hum => ?_⟩
  · by_cases hu : u = i
    · subst hu
      rw [ei, ← hv]
      exact nca_dom h.dn G.dle m m d (Nat.le_refl _) (fun u h0 hm hd hne => h.dom u h0 hm d hd hne) ps p hp hps (G.dstep d u h0 hm hd hne p (by rw [hP]; exact List.mem_cons_self)) (fun q hq => G.dstep d u h0 hm hd hne q (by rw [hP]; exact List.mem_cons_of_mem _ hq))
    · rw [e u hu]; exact h.dom u hu0 hum d hd hne
  · by_cases hu : u = i
    · subst hu
      rw [ei]
      exact ((hvA z).2 (fun q hq => hle (hz q hq))).le h.dn
    · rw [e u hu]; exact h.low u hu0 hum z (fun q hq => hle (hz q hq))
  · obtain ⟨s, hs, hsu, ho1, ho2⟩ := h.old u hu0 hum
    rcases Nat.lt_trichotomy u i with hu | hu | hu
    · have h1 : An (upd par i v) (par u) s := (an_upd_lt h.dn hvi (by omega)).2 (ho1 hu)
      rw [e u (by omega)]
      exact ⟨s, hs, hsu, fun _ => h1, .inl h1⟩
    · subst hu
      rw [ei]
      have h1 : An (upd par u v) v s := (an_upd_lt h.dn hvi hsu).2 (hvv s hs)
      exact ⟨s, hs, hsu, fun _ => h1, .inl h1⟩
    · rw [e u (by omega)]
      refine ⟨s, hs, hsu, fun hlt => by omega, ?_⟩
      rcases ho2 with ho | ⟨ho, hq⟩
      · by_cases hb : An par i s
        · by_cases hge : i ≤ par u
          · exact .inl ((an_upd_on h.dn h0 hvi hb).2 (.inl ⟨hge, ho⟩))
          · refine .inr ⟨by omega, fun z hz hzo => ?_⟩
            have hzv : An par z v := by
              rcases (an_upd_on h.dn h0 hvi hb).1 hz with ⟨h1, _⟩ | h1
              · omega
              · exact h1
            have hoi : An par (par u) i := ho.linear h.dn hb (by omega)
            have hop : An par (par u) (par i) := by
              rcases hoi.inv with h1 | ⟨_, h1⟩
              · omega
              · exact h1
            have h1 : An par z (par u) := (hzv.trans hvp).linear h.dn hop hzo
            exact (an_upd_lt h.dn hvi (by omega)).2 h1
        · exact .inl ((an_upd_off hb).2 ho)
      · exact .inr ⟨by omega, fun z hz hzo => (an_upd_lt h.dn hvi ho).2 (hq z (hle hz) hzo)⟩
/-- What holds while the first sweep goes. -/
structure Fst (m : Nat) (P : Nat → List Nat) (Dm : Nat → Nat → Prop) (i : Nat) (par : Nat → Nat) : Prop where
  dn : Dn par
  dom : ∀ u, 0 < u → u < i → ∀ d, Dm d u → d ≠ u → Dm d (par u)
  low : ∀ u, 0 < u → u < i → ∀ z, (∀ p ∈ P u, p < u → An par z p) → z ≤ par u
  old : ∀ u, 0 < u → u < i → ∃ s, s ∈ P u ∧ s < u ∧ An par (par u) s
theorem Fst.step {m : Nat} {P : Nat → List Nat} {Dm : Nat → Nat → Prop} (G : Gr m P Dm) {i : Nat} {par : Nat → Nat} (h : Fst m P Dm i par) (h0 : 0 < i) (hm : i < m) {p : Nat} {ps : List Nat} (hP : (P i).filter (fun q => decide (q < i)) = p :: ps) :
    Fst m P Dm (i + 1) (upd par i (nca par (2 * m) p ps)) := by
  obtain ⟨v, hv⟩ : ∃ v, nca par (2 * m) p ps = v := ⟨_, rfl⟩
  have hmem : ∀ q, q ∈ p :: ps ↔ q ∈ P i ∧ q < i := fun q => by rw [← hP, List.mem_filter]; simp
  have hp : p ∈ P i ∧ p < i := (hmem p).1 List.mem_cons_self
  have hps : ∀ q ∈ ps, q ∈ P i ∧ q < i := fun q hq => (hmem q).1 (List.mem_cons_of_mem _ hq)
  have hvA : ∀ z, An par z v ↔ ∀ q ∈ P i, q < i → An par z q := by
    intro z
    rw [← hv, nca_an h.dn m ps p (by omega) (fun q hq => by have := (hps q hq).2; omega) z]
    constructor
    · rintro ⟨h1, h2⟩ q hq hlt
      rcases List.mem_cons.1 ((hmem q).2 ⟨hq, hlt⟩) with rfl | hq
      · exact h1
      · exact h2 q hq
    · exact fun hh => ⟨hh p hp.1 hp.2, fun q hq => hh q (hps q hq).1 (hps q hq).2⟩
  have hvv := (hvA v).1 .refl
  have hvi : v < i := by have := (hvv p hp.1 hp.2).le h.dn; omega
  have e : ∀ u, u ≠ i → upd par i v u = par u := fun u hu => by unfold upd; rw [if_neg hu]
  have ei : upd par i v i = v := by unfold upd; rw [if_pos rfl]
  rw [hv]
  refine ⟨upd_dn h.dn hvi, fun u hu0 hum d hd hne => ?_, fun u hu0 hum z hz => ?_, fun u hu0 hum => ?_⟩
  · by_cases hu : u = i
    · subst hu
      rw [ei, ← hv]
      exact nca_dom h.dn G.dle m u d (by omega) (fun u' h0 hm' hd hne => h.dom u' h0 hm' d hd hne) ps p hp.2 (fun q hq => (hps q hq).2) (G.dstep d u h0 hm hd hne p hp.1) (fun q hq => G.dstep d u h0 hm hd hne q (hps q hq).1)
    · rw [e u hu]; exact h.dom u hu0 (by omega) d hd hne
  · by_cases hu : u = i
    · subst hu
      rw [ei]
      exact ((hvA z).2 (fun q hq hlt => (an_upd_lt h.dn hvi hlt).1 (hz q hq hlt))).le h.dn
    · rw [e u hu]; exact h.low u hu0 (by omega) z (fun q hq hlt => (an_upd_lt h.dn hvi (by omega)).1 (hz q hq hlt))
  · by_cases hu : u = i
    · subst hu
      obtain ⟨s, hs, hsu⟩ := G.fwd u h0 hm
      rw [ei]
      exact ⟨s, hs, hsu, (an_upd_lt h.dn hvi hsu).2 (hvv s hs hsu)⟩
    · obtain ⟨s, hs, hsu, h1⟩ := h.old u hu0 (by omega)
      rw [e u hu]
      exact ⟨s, hs, hsu, (an_upd_lt h.dn hvi (by omega)).2 h1⟩
end Go.Proofs.Ytnmeomdjhjgnfaa.X
end
section
-- written by a driver of this session (wip/xprint.py) over the kit's print, for this claim; Lean checks it
namespace Go.Proofs.Ytnmeomdjhjgnfaa.X
open Go.RowKit Go.Proofs.YtnmeomdjhjgnfaaW.PrintWords Go.Proofs.YtnmeomdjhjgnfaaW.PrintLast Go.Proofs.YtnmeomdjhjgnfaaW.PrintMore
attribute [local go_sem] max2_int min2_int max_two min_two max_three min_three max_four min_four   -- for this text's walks alone
set_option linter.unusedVariables false
set_option linter.unusedSimpArgs false

/-! ### jacquardref02_Edge: function 29 -/
mutual
def jacquardref02_Edge.j0 : Nat → List (List Int) → Int → Int → Bool → Option (Bool)
  | 0, _, _, _, _ => none
  | k + 1, x0, x1, x2, x25 => if x25 = true then (some false) else (jacquardref02_Edge.l0 k x0 x1 x2 0)
def jacquardref02_Edge.l0 : Nat → List (List Int) → Int → Int → Int → Option (Bool)
  | 0, _, _, _, _ => none
  | k + 1, x0, x1, x2, x7 => if 0 ≤ x1 then (if x1 < (x0.length : Int) then (if x7 < ((rd_L1 x0 x1).length : Int) then (if 0 ≤ x7 then (if (rd (rd_L1 x0 x1) x7) = x2 then (some true) else (jacquardref02_Edge.l0 k x0 x1 x2 (wrap64 (x7 + 1)))) else (none)) else (some false)) else (none)) else (none)
end
def jacquardref02_Edge.f (k : Nat) (l0 : List (List Int)) (a1 : Int) (a2 : Int) : Option (Bool) := if a1 < 0 then (jacquardref02_Edge.j0 k l0 a1 a2 true) else (if a1 ≥ (l0.length : Int) then (jacquardref02_Edge.j0 k l0 a1 a2 true) else (if a2 < 0 then (jacquardref02_Edge.j0 k l0 a1 a2 true) else (jacquardref02_Edge.j0 k l0 a1 a2 (decide (a2 ≥ (l0.length : Int))))))
theorem jacquardref02_Edge.mono_l : ∀ k, (∀ y0 y1 y2 y3, LeO (jacquardref02_Edge.j0 k y0 y1 y2 y3) (jacquardref02_Edge.j0 (k + 1) y0 y1 y2 y3)) ∧ (∀ y0 y1 y2 y3, LeO (jacquardref02_Edge.l0 k y0 y1 y2 y3) (jacquardref02_Edge.l0 (k + 1) y0 y1 y2 y3))
  | 0 => ⟨fun _ _ _ _ r h => by simp [jacquardref02_Edge.j0] at h, fun _ _ _ _ r h => by simp [jacquardref02_Edge.l0] at h⟩
  | k + 1 => by
    obtain ⟨ih0, ih1⟩ := jacquardref02_Edge.mono_l k
    refine ⟨?_, ?_⟩
    · intro y0 y1 y2 y3
      unfold jacquardref02_Edge.j0
      repeat' first | (with_reducible exact LeO.refl _) | (with_reducible refine LeO.ite ?_ ?_) | (with_reducible refine LeO.bind ?_ (fun _ => ?_)) | exact LeO.none _ | exact ih0 _ _ _ _ | exact ih1 _ _ _ _ | refine LeO.ite ?_ ?_ | refine LeO.bind ?_ (fun _ => ?_)
    · intro y0 y1 y2 y3
      unfold jacquardref02_Edge.l0
      repeat' first | (with_reducible exact LeO.refl _) | (with_reducible refine LeO.ite ?_ ?_) | (with_reducible refine LeO.bind ?_ (fun _ => ?_)) | exact LeO.none _ | exact ih0 _ _ _ _ | exact ih1 _ _ _ _ | refine LeO.ite ?_ ?_ | refine LeO.bind ?_ (fun _ => ?_)
theorem jacquardref02_Edge.mono : ∀ a0 a1 a2 k, LeO (jacquardref02_Edge.f k a0 a1 a2) (jacquardref02_Edge.f (k + 1) a0 a1 a2) := by
  intro a0 a1 a2 k
  obtain ⟨ih0, ih1⟩ := jacquardref02_Edge.mono_l k
  unfold jacquardref02_Edge.f
  repeat' first | (with_reducible exact LeO.refl _) | (with_reducible refine LeO.ite ?_ ?_) | (with_reducible refine LeO.bind ?_ (fun _ => ?_)) | exact LeO.none _ | exact ih0 _ _ _ _ | exact ih1 _ _ _ _ | refine LeO.ite ?_ ?_ | refine LeO.bind ?_ (fun _ => ?_)
mutual
def jacquardref02_Made.j0 : Nat → List Int → Int → Option ((List (List Int)))
  | 0, _, _ => none
  | k + 1, x0, x3 => jacquardref02_Made.l0 k x0 x3 ([] : List (List Int)) 0
def jacquardref02_Made.l0 : Nat → List Int → Int → List (List Int) → Int → Option ((List (List Int)))
  | 0, _, _, _, _ => none
  | k + 1, x0, x3, x4, x5 => if x5 < x3 then (jacquardref02_Made.l1 k x0 x3 x4 x5 ([] : List Int) 1) else (some x4)
def jacquardref02_Made.l1 : Nat → List Int → Int → List (List Int) → Int → List Int → Int → Option ((List (List Int)))
  | 0, _, _, _, _, _, _ => none
  | k + 1, x0, x3, x4, x5, x6, x7 => if x7 ≤ 3 then (if (wrap64 ((wrap64 (3 * x5)) + x7)) < (x0.length : Int) then (if 0 ≤ (wrap64 ((wrap64 (3 * x5)) + x7)) then (if (wrap64 (x3 + 3)) = 0 then (none) else (if (Int.tmod (wrap64 ((wrap64 ((Int.tmod (rd x0 (wrap64 ((wrap64 (3 * x5)) + x7))) (wrap64 (x3 + 3))) + x3)) + 3)) (wrap64 (x3 + 3))) < x3 then (if x6.length < 17592186044416 then (jacquardref02_Made.l1 k x0 x3 x4 x5 (x6 ++ [Int.tmod (wrap64 ((wrap64 ((Int.tmod (rd x0 (wrap64 ((wrap64 (3 * x5)) + x7))) (wrap64 (x3 + 3))) + x3)) + 3)) (wrap64 (x3 + 3))]) (wrap64 (x7 + 1))) else (none)) else (jacquardref02_Made.l1 k x0 x3 x4 x5 x6 (wrap64 (x7 + 1))))) else (none)) else (jacquardref02_Made.l1 k x0 x3 x4 x5 x6 (wrap64 (x7 + 1)))) else (if x4.length < 5864062014805 then (jacquardref02_Made.l0 k x0 x3 (x4 ++ [x6]) (wrap64 (x5 + 1))) else (none))
end
def jacquardref02_Made.f (k : Nat) (l0 : List Int) : Option ((List (List Int))) := if (l0.length : Int) > 0 then (if 0 < (l0.length : Int) then (jacquardref02_Made.j0 k l0 (wrap64 (1 + (Int.tmod (wrap64 ((Int.tmod (rd l0 0) 10) + 10)) 10)))) else (none)) else (jacquardref02_Made.j0 k l0 1)
theorem jacquardref02_Made.mono_l : ∀ k, (∀ y0 y1, LeO (jacquardref02_Made.j0 k y0 y1) (jacquardref02_Made.j0 (k + 1) y0 y1)) ∧ (∀ y0 y1 y2 y3, LeO (jacquardref02_Made.l0 k y0 y1 y2 y3) (jacquardref02_Made.l0 (k + 1) y0 y1 y2 y3)) ∧ (∀ y0 y1 y2 y3 y4 y5, LeO (jacquardref02_Made.l1 k y0 y1 y2 y3 y4 y5) (jacquardref02_Made.l1 (k + 1) y0 y1 y2 y3 y4 y5))
  | 0 => ⟨fun _ _ r h => by simp [jacquardref02_Made.j0] at h, fun _ _ _ _ r h => by simp [jacquardref02_Made.l0] at h, fun _ _ _ _ _ _ r h => by simp [jacquardref02_Made.l1] at h⟩
  | k + 1 => by
    obtain ⟨ih0, ih1, ih2⟩ := jacquardref02_Made.mono_l k
    refine ⟨?_, ?_, ?_⟩
    · intro y0 y1
      unfold jacquardref02_Made.j0
      repeat' first | (with_reducible exact LeO.refl _) | (with_reducible refine LeO.ite ?_ ?_) | (with_reducible refine LeO.bind ?_ (fun _ => ?_)) | exact LeO.none _ | exact ih0 _ _ | exact ih1 _ _ _ _ | exact ih2 _ _ _ _ _ _ | refine LeO.ite ?_ ?_ | refine LeO.bind ?_ (fun _ => ?_)
    · intro y0 y1 y2 y3
      unfold jacquardref02_Made.l0
      repeat' first | (with_reducible exact LeO.refl _) | (with_reducible refine LeO.ite ?_ ?_) | (with_reducible refine LeO.bind ?_ (fun _ => ?_)) | exact LeO.none _ | exact ih0 _ _ | exact ih1 _ _ _ _ | exact ih2 _ _ _ _ _ _ | refine LeO.ite ?_ ?_ | refine LeO.bind ?_ (fun _ => ?_)
    · intro y0 y1 y2 y3 y4 y5
      unfold jacquardref02_Made.l1
      repeat' first | (with_reducible exact LeO.refl _) | (with_reducible refine LeO.ite ?_ ?_) | (with_reducible refine LeO.bind ?_ (fun _ => ?_)) | exact LeO.none _ | exact ih0 _ _ | exact ih1 _ _ _ _ | exact ih2 _ _ _ _ _ _ | refine LeO.ite ?_ ?_ | refine LeO.bind ?_ (fun _ => ?_)
theorem jacquardref02_Made.mono : ∀ a0 k, LeO (jacquardref02_Made.f k a0) (jacquardref02_Made.f (k + 1) a0) := by
  intro a0 k
  obtain ⟨ih0, ih1, ih2⟩ := jacquardref02_Made.mono_l k
  unfold jacquardref02_Made.f
  repeat' first | (with_reducible exact LeO.refl _) | (with_reducible refine LeO.ite ?_ ?_) | (with_reducible refine LeO.bind ?_ (fun _ => ?_)) | exact LeO.none _ | exact ih0 _ _ | exact ih1 _ _ _ _ | exact ih2 _ _ _ _ _ _ | refine LeO.ite ?_ ?_ | refine LeO.bind ?_ (fun _ => ?_)
end Go.Proofs.Ytnmeomdjhjgnfaa.X
end
section
set_option linter.unusedSimpArgs false
set_option linter.unusedVariables false
namespace Go.Proofs.Ytnmeomdjhjgnfaa.X
open Go.RowKit Go.Proofs.YtnmeomdjhjgnfaaW.PrintWords Go.Proofs.YtnmeomdjhjgnfaaW.PrintLast Go.Proofs.YtnmeomdjhjgnfaaW.PrintMore

/-- More rounds tell the same. -/
theorem up {α : Type} {f : Nat → Option α} (h : ∀ k, LeO (f k) (f (k + 1))) {k m : Nat} (hm : k ≤ m) {r : α} (hr : f k = some r) : f m = some r := by
  obtain ⟨d, rfl⟩ := Nat.exists_eq_add_of_le hm
  clear hm
  induction d with
  | zero => exact hr
  | succ d ih => exact h (k + d) r ih
theorem w64 {x : Int} (h0 : -9223372036854775808 ≤ x) (h1 : x ≤ 9223372036854775807) : wrap64 x = x := by unfold wrap64; omega

/-! ### an edge -/
def eB (g : List (List Int)) (a b : Int) : Bool := decide (0 ≤ a ∧ a < g.length ∧ 0 ≤ b ∧ b < g.length) && (rd_L1 g a).contains b
theorem eB_iff {g : List (List Int)} {a b : Int} : eB g a b = true ↔ 0 ≤ a ∧ a < g.length ∧ 0 ≤ b ∧ b < g.length ∧ b ∈ rd_L1 g a := by
  unfold eB
  rw [Bool.and_eq_true, decide_eq_true_eq, List.contains_iff_mem]
  constructor
  · rintro ⟨⟨h1, h2, h3, h4⟩, h5⟩; exact ⟨h1, h2, h3, h4, h5⟩
  · rintro ⟨h1, h2, h3, h4, h5⟩; exact ⟨⟨h1, h2, h3, h4⟩, h5⟩
/-! ### the edges' list -/
/-! ### Preds' rows -/
/-! ### a graph of plain numbers -/
structure MadeG (g : List (List Int)) : Prop where
  pos : 1 ≤ g.length
  few : g.length ≤ 10
  rows : ∀ r ∈ g, r.length ≤ 3 ∧ ∀ b ∈ r, 0 ≤ b ∧ b < g.length
theorem MadeG.ok {g : List (List Int)} (h : MadeG g) : okG g = true := by
  unfold okG
  rw [Bool.and_eq_true, decide_eq_true_eq, List.all_eq_true]
  exact ⟨by have := h.few; omega, fun r hr => decide_eq_true (by have := (h.rows r hr).1; omega)⟩
/-- What the list of parents holds when the places below i have one. -/
structure Ot (o : List Int) (n i : Nat) (par : Nat → Nat) (out : List Int) : Prop where
  len : out.length = n
  on : ∀ j, 0 < j → j < i → rd out (at_ o j) = at_ o (par j)
  root : rd out 0 = -1
  not : ∀ j, i ≤ j → j < o.length → rd out (at_ o j) = -1
  off : ∀ x, 0 ≤ x → x < (n : Int) → x ∉ o → rd out x = -1

end Go.Proofs.Ytnmeomdjhjgnfaa.X
namespace Go.Proofs.Ytnmeomdjhjgnfaa.X
open Go.RowKit Go.Proofs.YtnmeomdjhjgnfaaW.PrintWords Go.Proofs.YtnmeomdjhjgnfaaW.PrintLast Go.Proofs.YtnmeomdjhjgnfaaW.PrintMore
/-! ### the fold is the nearest one -/
/-- A parent is written. -/
theorem Ot.put {E : Int → Int → Prop} {o : List Int} {n i k v : Nat} {par : Nat → Nat} {out : List Int} (H : Ordd E n o) (h : Ot o n i par out) (hk0 : 0 < k) (hk : k < o.length) (hki : k ≤ i) (him : i ≤ o.length) (hv : v < o.length) :
    Ot o n (max i (k + 1)) (upd par k v) (out.set (at_ o k).toNat (at_ o v)) := by
  have hr := H.rng _ (at_mem hk)
  have hlen := h.len
  have hne : ∀ x, 0 ≤ x → x ≠ at_ o k → rd (out.set (at_ o k).toNat (at_ o v)) x = rd out x := fun x h0 hn => by
    unfold rd
    rw [List.getD_eq_getElem?_getD, List.getD_eq_getElem?_getD, List.getElem?_set_ne (by omega)]
  have heq : rd (out.set (at_ o k).toNat (at_ o v)) (at_ o k) = at_ o v := by
    unfold rd
    rw [List.getD_eq_getElem?_getD, List.getElem?_set_self (by omega)]
    rfl
  refine ⟨by simp [h.len], fun j h0 hj => ?_, ?_, fun j hj hm => ?_, fun x h0 h1 hx => ?_⟩
  · by_cases e : j = k
    · subst e; rw [heq]; unfold upd; rw [if_pos rfl]
    · rw [hne _ (H.rng _ (at_mem (by omega))).1 (fun hh => e (at_inj H.nodup (by omega) hk hh)), h.on j h0 (by omega)]
      unfold upd; rw [if_neg e]
  · rw [hne 0 (Int.le_refl 0) (fun hh => by have := at_inj H.nodup H.pos hk (H.head.trans hh); omega)]; exact h.root
  · rw [hne _ (H.rng _ (at_mem hm)).1 (fun hh => by have := at_inj H.nodup hm hk hh; omega)]; exact h.not j (by omega) hm
  · rw [hne x h0 (fun hh => hx (hh ▸ at_mem hk))]; exact h.off x h0 h1 hx
end Go.Proofs.Ytnmeomdjhjgnfaa.X
namespace Go.Proofs.Ytnmeomdjhjgnfaa.X
open Go.RowKit Go.Proofs.YtnmeomdjhjgnfaaW.PrintWords Go.Proofs.YtnmeomdjhjgnfaaW.PrintLast Go.Proofs.YtnmeomdjhjgnfaaW.PrintMore
/-! ### sweeps over the lists -/
end Go.Proofs.Ytnmeomdjhjgnfaa.X
namespace Go.Proofs.Ytnmeomdjhjgnfaa.X
open Go.RowKit Go.Proofs.YtnmeomdjhjgnfaaW.PrintWords Go.Proofs.YtnmeomdjhjgnfaaW.PrintLast Go.Proofs.YtnmeomdjhjgnfaaW.PrintMore
section
variable {E : Int → Int → Prop} {o : List Int} {n : Nat} {num : List Int} {preds : List (List Int)} {Dm : Nat → Nat → Prop}
end
end Go.Proofs.Ytnmeomdjhjgnfaa.X
namespace Go.Proofs.Ytnmeomdjhjgnfaa.X
open Go.RowKit Go.Proofs.YtnmeomdjhjgnfaaW.PrintWords Go.Proofs.YtnmeomdjhjgnfaaW.PrintLast Go.Proofs.YtnmeomdjhjgnfaaW.PrintMore
section
variable {E : Int → Int → Prop} {o : List Int} {n : Nat} {num : List Int} {preds : List (List Int)} {Dm : Nat → Nat → Prop}
end
/-- Come to from block 0 without z. -/
inductive RAv (E : Int → Int → Prop) (z : Int) : Int → Prop
  | start : z ≠ 0 → RAv E z 0
  | step {x y : Int} : RAv E z x → E x y → y ≠ z → RAv E z y
def Eg (g : List (List Int)) (x y : Int) : Prop := eB g x y = true
section
variable {E : Int → Int → Prop} {o : List Int} {n : Nat} {num : List Int} {preds : List (List Int)}
end
/-- Come to from block 0. -/
def Rch (E : Int → Int → Prop) (x : Int) : Prop := RAv E (-1) x
theorem Rch.step {E : Int → Int → Prop} {x y : Int} (hE : ∀ x y, E x y → 0 ≤ y) (h : Rch E x) (he : E x y) : Rch E y := RAv.step h he (by have := hE _ _ he; omega)
theorem Eg_in {g : List (List Int)} {x y : Int} (h : Eg g x y) : 0 ≤ x ∧ x < g.length ∧ 0 ≤ y ∧ y < g.length := by
  have := eB_iff.1 h
  exact ⟨this.1, this.2.1, this.2.2.1, this.2.2.2.1⟩
theorem Rch.rng {g : List (List Int)} (hn : 0 < g.length) {x : Int} (h : Rch (Eg g) x) : 0 ≤ x ∧ x < g.length := by
  cases h with
  | start => omega
  | step _ he _ => have := Eg_in he; omega
theorem RAv.rng {g : List (List Int)} (hn : 0 < g.length) {z x : Int} (h : RAv (Eg g) z x) : 0 ≤ x ∧ x < g.length := by
  cases h with
  | start => omega
  | step _ he _ => have := Eg_in he; omega
section
variable {g : List (List Int)} {o r : List Int} {par : Nat → Nat}
end
/-- Some rounds suffice, and what comes out is Q. -/
def Ends {α : Type} (f : Nat → Option α) (Q : α → Prop) : Prop := ∃ k r, f k = some r ∧ Q r
theorem Ends.mono {α : Type} {f : Nat → Option α} {Q R : α → Prop} (h : Ends f Q) (hqr : ∀ r, Q r → R r) : Ends f R := by
  obtain ⟨k, r, hk, hq⟩ := h
  exact ⟨k, r, hk, hqr r hq⟩
theorem Ends.step {α : Type} {f g : Nat → Option α} {Q : α → Prop} (h : Ends g Q) (e : ∀ k, f (k + 1) = g k) : Ends f Q := by
  obtain ⟨k, r, hk, hq⟩ := h
  exact ⟨k + 1, r, (e k).trans hk, hq⟩
theorem Ends.same {α : Type} {f g : Nat → Option α} {Q : α → Prop} (h : Ends g Q) (e : ∀ k, f k = g k) : Ends f Q := by
  obtain ⟨k, r, hk, hq⟩ := h
  exact ⟨k, r, (e k).trans hk, hq⟩
theorem Ends.bind {α β : Type} {f : Nat → Option α} {g : Nat → α → Option β} {P : α → Prop} {Q : β → Prop} (hf : ∀ k, LeO (f k) (f (k + 1))) (hg : ∀ a k, LeO (g k a) (g (k + 1) a)) (h : Ends f P) (h2 : ∀ a, P a → Ends (fun k => g k a) Q) : Ends (fun k => (f k).bind (g k)) Q := by
  obtain ⟨k, a, hk, hp⟩ := h
  obtain ⟨m, r, hm, hq⟩ := h2 a hp
  refine ⟨k + m, r, ?_, hq⟩
  show (f (k + m)).bind (g (k + m)) = some r
  rw [up hf (m := k + m) (by omega) hk, Option.bind_some]
  exact up (f := fun k => g k a) (hg a) (by omega) hm

/-- The numbers from i on, d of them, that P holds of. -/
def upto (P : Int → Bool) : Nat → Int → List Int
  | 0, _ => []
  | d + 1, i => if P i = true then i :: upto P d (i + 1) else upto P d (i + 1)
theorem upto_range (P : Int → Bool) : ∀ (d i : Nat), upto P d i = ((List.range' i d).map (fun (b : Nat) => (b : Int))).filter P
  | 0, _ => rfl
  | d + 1, i => by
    have ih := upto_range P d (i + 1)
    rw [upto, List.range'_succ, List.map_cons, List.filter_cons, ← ih]
    rfl
theorem keptL_upto (row : List Int) (n : Nat) : keptL row n = upto (fun b => row.contains b) n 0 := by
  have := upto_range (fun b => row.contains b) n 0
  rw [← List.range_eq_range'] at this
  unfold keptL
  rw [Int.toNat_natCast]
  exact this.symm

end Go.Proofs.Ytnmeomdjhjgnfaa.X
end
section
-- written by a driver of this session (wip/xprint.py) over the kit's print, for this claim; Lean checks it
namespace Go.Proofs.Ytnmeomdjhjgnfaa.X
open Go.RowKit Go.Proofs.YtnmeomdjhjgnfaaW.PrintWords Go.Proofs.YtnmeomdjhjgnfaaW.PrintLast Go.Proofs.YtnmeomdjhjgnfaaW.PrintMore
attribute [local go_sem] max2_int min2_int max_two min_two max_three min_three max_four min_four   -- for this text's walks alone
set_option linter.unusedVariables false
set_option linter.unusedSimpArgs false

/-! ### jacquardref02_next: function 72 -/
def jacquardref02_next.l0 : Nat → List (List Int) → Int → List Int → Int → Option (List Int)
  | 0, _, _, _, _ => none
  | k + 1, x0, x1, x5, x6 => if x6 < (x0.length : Int) then ((jacquardref02_Edge.f k x0 x1 x6).bind fun t152 => (if t152 = true then (if x5.length < 17592186044416 then (jacquardref02_next.l0 k x0 x1 (x5 ++ [x6]) (wrap64 (x6 + 1))) else (none)) else (jacquardref02_next.l0 k x0 x1 x5 (wrap64 (x6 + 1))))) else (some x5)
def jacquardref02_next.f (k : Nat) (l0 : List (List Int)) (a1 : Int) : Option (List Int) := jacquardref02_next.l0 k l0 a1 ([] : List Int) 0
theorem jacquardref02_next.mono_l : ∀ k, (∀ y0 y1 y2 y3, LeO (jacquardref02_next.l0 k y0 y1 y2 y3) (jacquardref02_next.l0 (k + 1) y0 y1 y2 y3))
  | 0 => fun _ _ _ _ r h => by simp [jacquardref02_next.l0] at h
  | k + 1 => by
    have ih0 := jacquardref02_next.mono_l k
    · intro y0 y1 y2 y3
      unfold jacquardref02_next.l0
      repeat' first | (with_reducible exact LeO.refl _) | (with_reducible refine LeO.ite ?_ ?_) | (with_reducible refine LeO.bind ?_ (fun _ => ?_)) | exact LeO.none _ | exact ih0 _ _ _ _ | exact jacquardref02_Edge.mono _ _ _ _ | refine LeO.ite ?_ ?_ | refine LeO.bind ?_ (fun _ => ?_)
theorem jacquardref02_next.mono : ∀ a0 a1 k, LeO (jacquardref02_next.f k a0 a1) (jacquardref02_next.f (k + 1) a0 a1) := by
  intro a0 a1 k
  have ih0 := jacquardref02_next.mono_l k
  unfold jacquardref02_next.f
  repeat' first | (with_reducible exact LeO.refl _) | (with_reducible refine LeO.ite ?_ ?_) | (with_reducible refine LeO.bind ?_ (fun _ => ?_)) | exact LeO.none _ | exact ih0 _ _ _ _ | exact jacquardref02_Edge.mono _ _ _ _ | refine LeO.ite ?_ ?_ | refine LeO.bind ?_ (fun _ => ?_)
mutual
def jacquardref02_Without.j0 : Nat → List (List Int) → Int → List Bool → Bool → Option (List Bool)
  | 0, _, _, _, _ => none
  | k + 1, x0, x1, x5, x19 => if x19 = true then (some x5) else (if 0 < (x5.length : Int) then (jacquardref02_Without.l0 k x0 x1 (x5.set (0 : Int).toNat true) 0) else (none))
def jacquardref02_Without.l0 : Nat → List (List Int) → Int → List Bool → Int → Option (List Bool)
  | 0, _, _, _, _ => none
  | k + 1, x0, x1, x5, x6 => if x6 < (x0.length : Int) then (jacquardref02_Without.l1 k x0 x1 x5 x6 0) else (some x5)
def jacquardref02_Without.l1 : Nat → List (List Int) → Int → List Bool → Int → Int → Option (List Bool)
  | 0, _, _, _, _, _ => none
  | k + 1, x0, x1, x5, x6, x7 => if x7 < (x0.length : Int) then (if 0 ≤ x7 then (if x7 < (x5.length : Int) then (if rdOf false x5 x7 = true then ((jacquardref02_next.f k x0 x7).bind fun t161 => (jacquardref02_Without.l2 k x0 x1 x5 x6 x7 t161 0)) else (jacquardref02_Without.l1 k x0 x1 x5 x6 (wrap64 (x7 + 1)))) else (none)) else (none)) else (jacquardref02_Without.l0 k x0 x1 x5 (wrap64 (x6 + 1)))
def jacquardref02_Without.l2 : Nat → List (List Int) → Int → List Bool → Int → Int → List Int → Int → Option (List Bool)
  | 0, _, _, _, _, _, _, _ => none
  | k + 1, x0, x1, x5, x6, x7, x8, x9 => if x9 < (x8.length : Int) then (if 0 ≤ x9 then (if 0 ≤ (rd x8 x9) then (if (rd x8 x9) < (x5.length : Int) then (if rdOf false x5 (rd x8 x9) = true then (jacquardref02_Without.l2 k x0 x1 (x5.set ((rd x8 x9) : Int).toNat true) x6 x7 x8 (wrap64 (x9 + 1))) else (jacquardref02_Without.l2 k x0 x1 (x5.set ((rd x8 x9) : Int).toNat ((rd x8 x9) != x1)) x6 x7 x8 (wrap64 (x9 + 1)))) else (none)) else (none)) else (none)) else (jacquardref02_Without.l1 k x0 x1 x5 x6 (wrap64 (x7 + 1)))
end
def jacquardref02_Without.f (k : Nat) (l0 : List (List Int)) (a1 : Int) : Option (List Bool) := if 0 ≤ (l0.length : Int) then (if ((l0.length : Int) : Int).toNat ≤ 281474976710656 then ((some (List.replicate ((l0.length : Int) : Int).toNat false : List Bool)).bind fun y156 => (if (l0.length : Int) = 0 then (jacquardref02_Without.j0 k l0 a1 y156 true) else (jacquardref02_Without.j0 k l0 a1 y156 (a1 == 0)))) else (none)) else (none)
theorem jacquardref02_Without.mono_l : ∀ k, (∀ y0 y1 y2 y3, LeO (jacquardref02_Without.j0 k y0 y1 y2 y3) (jacquardref02_Without.j0 (k + 1) y0 y1 y2 y3)) ∧ (∀ y0 y1 y2 y3, LeO (jacquardref02_Without.l0 k y0 y1 y2 y3) (jacquardref02_Without.l0 (k + 1) y0 y1 y2 y3)) ∧ (∀ y0 y1 y2 y3 y4, LeO (jacquardref02_Without.l1 k y0 y1 y2 y3 y4) (jacquardref02_Without.l1 (k + 1) y0 y1 y2 y3 y4)) ∧ (∀ y0 y1 y2 y3 y4 y5 y6, LeO (jacquardref02_Without.l2 k y0 y1 y2 y3 y4 y5 y6) (jacquardref02_Without.l2 (k + 1) y0 y1 y2 y3 y4 y5 y6))
  | 0 => ⟨fun _ _ _ _ r h => by simp [jacquardref02_Without.j0] at h, fun _ _ _ _ r h => by simp [jacquardref02_Without.l0] at h, fun _ _ _ _ _ r h => by simp [jacquardref02_Without.l1] at h, fun _ _ _ _ _ _ _ r h => by simp [jacquardref02_Without.l2] at h⟩
  | k + 1 => by
    obtain ⟨ih0, ih1, ih2, ih3⟩ := jacquardref02_Without.mono_l k
    refine ⟨?_, ?_, ?_, ?_⟩
    · intro y0 y1 y2 y3
      unfold jacquardref02_Without.j0
      repeat' first | (with_reducible exact LeO.refl _) | (with_reducible refine LeO.ite ?_ ?_) | (with_reducible refine LeO.bind ?_ (fun _ => ?_)) | exact LeO.none _ | exact ih0 _ _ _ _ | exact ih1 _ _ _ _ | exact ih2 _ _ _ _ _ | exact ih3 _ _ _ _ _ _ _ | exact jacquardref02_next.mono _ _ _ | refine LeO.ite ?_ ?_ | refine LeO.bind ?_ (fun _ => ?_)
    · intro y0 y1 y2 y3
      unfold jacquardref02_Without.l0
      repeat' first | (with_reducible exact LeO.refl _) | (with_reducible refine LeO.ite ?_ ?_) | (with_reducible refine LeO.bind ?_ (fun _ => ?_)) | exact LeO.none _ | exact ih0 _ _ _ _ | exact ih1 _ _ _ _ | exact ih2 _ _ _ _ _ | exact ih3 _ _ _ _ _ _ _ | exact jacquardref02_next.mono _ _ _ | refine LeO.ite ?_ ?_ | refine LeO.bind ?_ (fun _ => ?_)
    · intro y0 y1 y2 y3 y4
      unfold jacquardref02_Without.l1
      repeat' first | (with_reducible exact LeO.refl _) | (with_reducible refine LeO.ite ?_ ?_) | (with_reducible refine LeO.bind ?_ (fun _ => ?_)) | exact LeO.none _ | exact ih0 _ _ _ _ | exact ih1 _ _ _ _ | exact ih2 _ _ _ _ _ | exact ih3 _ _ _ _ _ _ _ | exact jacquardref02_next.mono _ _ _ | refine LeO.ite ?_ ?_ | refine LeO.bind ?_ (fun _ => ?_)
    · intro y0 y1 y2 y3 y4 y5 y6
      unfold jacquardref02_Without.l2
      repeat' first | (with_reducible exact LeO.refl _) | (with_reducible refine LeO.ite ?_ ?_) | (with_reducible refine LeO.bind ?_ (fun _ => ?_)) | exact LeO.none _ | exact ih0 _ _ _ _ | exact ih1 _ _ _ _ | exact ih2 _ _ _ _ _ | exact ih3 _ _ _ _ _ _ _ | exact jacquardref02_next.mono _ _ _ | refine LeO.ite ?_ ?_ | refine LeO.bind ?_ (fun _ => ?_)
theorem jacquardref02_Without.mono : ∀ a0 a1 k, LeO (jacquardref02_Without.f k a0 a1) (jacquardref02_Without.f (k + 1) a0 a1) := by
  intro a0 a1 k
  obtain ⟨ih0, ih1, ih2, ih3⟩ := jacquardref02_Without.mono_l k
  unfold jacquardref02_Without.f
  repeat' first | (with_reducible exact LeO.refl _) | (with_reducible refine LeO.ite ?_ ?_) | (with_reducible refine LeO.bind ?_ (fun _ => ?_)) | exact LeO.none _ | exact ih0 _ _ _ _ | exact ih1 _ _ _ _ | exact ih2 _ _ _ _ _ | exact ih3 _ _ _ _ _ _ _ | exact jacquardref02_next.mono _ _ _ | refine LeO.ite ?_ ?_ | refine LeO.bind ?_ (fun _ => ?_)
mutual
def jacquardref02_Table.l0 : Nat → List (List Int) → List Bool → List (List Bool) → Int → Option ((List (List Bool)))
  | 0, _, _, _, _ => none
  | k + 1, x0, x3, x4, x5 => if x5 < (x0.length : Int) then (if 0 ≤ (x0.length : Int) then (if ((x0.length : Int) : Int).toNat ≤ 281474976710656 then ((jacquardref02_Without.f k x0 x5).bind fun t176 => (jacquardref02_Table.l1 k x0 x3 x4 x5 (List.replicate ((x0.length : Int) : Int).toNat false) t176 0)) else (none)) else (none)) else (some x4)
def jacquardref02_Table.l1 : Nat → List (List Int) → List Bool → List (List Bool) → Int → List Bool → List Bool → Int → Option ((List (List Bool)))
  | 0, _, _, _, _, _, _, _ => none
  | k + 1, x0, x3, x4, x5, x6, x7, x8 => if x8 < (x0.length : Int) then (if 0 ≤ x5 then (if x5 < (x3.length : Int) then (if rdOf false x3 x5 = true then (if 0 ≤ x8 then (if x8 < (x3.length : Int) then (if rdOf false x3 x8 = true then (if x5 = x8 then (if x8 < (x6.length : Int) then (jacquardref02_Table.l1 k x0 x3 x4 x5 (x6.set (x8 : Int).toNat true) x7 (wrap64 (x8 + 1))) else (none)) else (if x8 < (x7.length : Int) then (if x8 < (x6.length : Int) then (jacquardref02_Table.l1 k x0 x3 x4 x5 (x6.set (x8 : Int).toNat (!(rdOf false x7 x8))) x7 (wrap64 (x8 + 1))) else (none)) else (none))) else (if x8 < (x6.length : Int) then (jacquardref02_Table.l1 k x0 x3 x4 x5 (x6.set (x8 : Int).toNat false) x7 (wrap64 (x8 + 1))) else (none))) else (none)) else (none)) else (if 0 ≤ x8 then (if x8 < (x6.length : Int) then (jacquardref02_Table.l1 k x0 x3 x4 x5 (x6.set (x8 : Int).toNat false) x7 (wrap64 (x8 + 1))) else (none)) else (none))) else (none)) else (none)) else (if x4.length < 5864062014805 then (jacquardref02_Table.l0 k x0 x3 (x4 ++ [x6]) (wrap64 (x5 + 1))) else (none))
end
def jacquardref02_Table.f (k : Nat) (l0 : List (List Int)) : Option ((List (List Bool))) := (jacquardref02_Without.f k l0 (-1)).bind fun t170 => (jacquardref02_Table.l0 k l0 t170 ([] : List (List Bool)) 0)
theorem jacquardref02_Table.mono_l : ∀ k, (∀ y0 y1 y2 y3, LeO (jacquardref02_Table.l0 k y0 y1 y2 y3) (jacquardref02_Table.l0 (k + 1) y0 y1 y2 y3)) ∧ (∀ y0 y1 y2 y3 y4 y5 y6, LeO (jacquardref02_Table.l1 k y0 y1 y2 y3 y4 y5 y6) (jacquardref02_Table.l1 (k + 1) y0 y1 y2 y3 y4 y5 y6))
  | 0 => ⟨fun _ _ _ _ r h => by simp [jacquardref02_Table.l0] at h, fun _ _ _ _ _ _ _ r h => by simp [jacquardref02_Table.l1] at h⟩
  | k + 1 => by
    obtain ⟨ih0, ih1⟩ := jacquardref02_Table.mono_l k
    refine ⟨?_, ?_⟩
    · intro y0 y1 y2 y3
      unfold jacquardref02_Table.l0
      repeat' first | (with_reducible exact LeO.refl _) | (with_reducible refine LeO.ite ?_ ?_) | (with_reducible refine LeO.bind ?_ (fun _ => ?_)) | exact LeO.none _ | exact ih0 _ _ _ _ | exact ih1 _ _ _ _ _ _ _ | exact jacquardref02_Without.mono _ _ _ | refine LeO.ite ?_ ?_ | refine LeO.bind ?_ (fun _ => ?_)
    · intro y0 y1 y2 y3 y4 y5 y6
      unfold jacquardref02_Table.l1
      repeat' first | (with_reducible exact LeO.refl _) | (with_reducible refine LeO.ite ?_ ?_) | (with_reducible refine LeO.bind ?_ (fun _ => ?_)) | exact LeO.none _ | exact ih0 _ _ _ _ | exact ih1 _ _ _ _ _ _ _ | exact jacquardref02_Without.mono _ _ _ | refine LeO.ite ?_ ?_ | refine LeO.bind ?_ (fun _ => ?_)
theorem jacquardref02_Table.mono : ∀ a0 k, LeO (jacquardref02_Table.f k a0) (jacquardref02_Table.f (k + 1) a0) := by
  intro a0 k
  obtain ⟨ih0, ih1⟩ := jacquardref02_Table.mono_l k
  unfold jacquardref02_Table.f
  repeat' first | (with_reducible exact LeO.refl _) | (with_reducible refine LeO.ite ?_ ?_) | (with_reducible refine LeO.bind ?_ (fun _ => ?_)) | exact LeO.none _ | exact ih0 _ _ _ _ | exact ih1 _ _ _ _ _ _ _ | exact jacquardref02_Without.mono _ _ _ | refine LeO.ite ?_ ?_ | refine LeO.bind ?_ (fun _ => ?_)
end Go.Proofs.Ytnmeomdjhjgnfaa.X
end
section
set_option linter.unusedSimpArgs false
set_option linter.unusedVariables false
namespace Go.Proofs.Ytnmeomdjhjgnfaa.X
open Go.RowKit Go.Proofs.YtnmeomdjhjgnfaaW.PrintWords Go.Proofs.YtnmeomdjhjgnfaaW.PrintLast Go.Proofs.YtnmeomdjhjgnfaaW.PrintMore

/-- The reference's walker: rows are asked of next. -/
def roverL (g : List (List Int)) : Nat → Int → List Bool × List Int → Option (List Bool × List Int)
  | 0, _, _ => none
  | k + 1, a, s => (jacquardref02_next.f k g a).bind fun l => (l.foldlM (fun s b => if s.1.getD b.toNat false = true then some s else roverL g k b s) (s.1.set a.toNat true, s.2)).map fun s => (s.1, s.2 ++ [a])
def jacquardref02_Order.f (k : Nat) (l0 : List (List Int)) : Option (List Int) :=
  if okG l0 = true then (if l0.length = 0 then some [] else (roverL l0 k 0 (List.replicate l0.length false, [])).map fun s => s.2.reverse) else none
theorem roverL_mono (g : List (List Int)) : ∀ k a s, LeO (roverL g k a s) (roverL g (k + 1) a s)
  | 0, _, _ => fun r h => by simp [roverL] at h
  | k + 1, a, s => fun r h => by
    have ih := roverL_mono g k
    have key : ∀ (l : List Int) (s : List Bool × List Int), LeO (l.foldlM (fun s b => if s.1.getD b.toNat false = true then some s else roverL g k b s) s)
        (l.foldlM (fun s b => if s.1.getD b.toNat false = true then some s else roverL g (k + 1) b s) s) := by
      intro l
      induction l with
      | nil => intro s; exact LeO.refl _
      | cons b l ihl =>
        intro s
        simp only [List.foldlM_cons]
        refine LeO.bind ?_ (fun _ => ihl _)
        exact LeO.ite (LeO.refl _) (ih b s)
    rw [roverL] at h ⊢
    exact LeO.bind (jacquardref02_next.mono _ _ _) (fun _ => LeO.map _ (key _ _)) r h
theorem jacquardref02_Order.mono (k : Nat) (l0 : List (List Int)) : LeO (jacquardref02_Order.f k l0) (jacquardref02_Order.f (k + 1) l0) := by
  unfold jacquardref02_Order.f
  exact LeO.ite (LeO.ite (LeO.refl _) (LeO.map _ (roverL_mono _ _ _ _))) (LeO.refl _)

/-- What lies in memory while the walker goes; W1: the world when it set out. -/
structure RvInv (W1 : World) (gt bw cT : Nat) (W : World) (there : List Bool) (out : List Int) (vout : Value) : Prop where
  bel : Below W1.heap.size W1 W
  ge : W1.heap.size ≤ gt ∧ W1.heap.size ≤ bw
  hw : W.heap[bw]? = some (.cells #[.slice (some ⟨gt, 0, none⟩) there.length cT, vout] 129 (0, 0))
  T : Kd.R Kd.bool 4 W W1.heap.size (fun _ => True) (.slice (some ⟨gt, 0, none⟩) there.length cT) there
  O : Kd.R (Kd.int .i64) 3 W W1.heap.size (fun _ => True) vout out
theorem RvInv.seen {W1 W : World} {gt bw cT : Nat} {there : List Bool} {out : List Int} {vout : Value} (h : RvInv W1 gt bw cT W there out vout) (i : Nat) (hi : i < there.length) :
    RvInv W1 gt bw cT (W.setCell ⟨gt, i, none⟩ (.bool true)) (there.set i true) out vout := by
  obtain ⟨cg, hcg⟩ := Kd.R_typed h.T gt rfl
  refine ⟨h.bel.setCell (p := ⟨gt, i, none⟩) h.ge.1 _, h.ge, ?_, ?_, Kd.R_set h.O hcg (by decide) i _⟩
  · rw [List.length_set]; exact blk_far h.hw (blk_ne h.hw hcg (by decide)) _
  · have := Kd.R_put h.T (i : Int) true
    rw [List.length_set]
    exact this.1
theorem RvInv.left {W1 W W2 : World} {gt bw cT : Nat} {there : List Bool} {out out2 : List Int} {vout v2 : Value} (h : RvInv W1 gt bw cT W there out vout)
    (hg : W.grownBy W2 vout.ownBlock) (hO : Kd.R (Kd.int .i64) 3 W2 W1.heap.size (fun _ => True) v2 out2) : RvInv W1 gt bw cT (W2.setCell ⟨bw, 1, none⟩ v2) there out2 v2 := by
  have e2 := blk_grown h.hw hg (Kd.R_ne h.O h.hw (by decide))
  have T2 := Kd.R_over' h.T (Kd.R_typed h.O) (by decide) hg
  refine ⟨(h.bel.grown hg h.bel.size (fun k hk => Kd.R_base h.O k hk)).setCell (p := ⟨bw, 1, none⟩) h.ge.2 _, h.ge, ?_, ?_, ?_⟩
  · simpa using blk_set e2 1 v2
  · exact Kd.R_set T2 e2 (by decide) 1 _
  · exact Kd.R_set hO e2 (by decide) 1 _
theorem RvInv.below {W1 W W2 : World} {gt bw cT : Nat} {there : List Bool} {out : List Int} {vout : Value} (h : RvInv W1 gt bw cT W there out vout) (hb : Below W.heap.size W W2) : RvInv W1 gt bw cT W2 there out vout :=
  ⟨h.bel.trans (hb.mono h.bel.size), h.ge, (hb.block _ (blk_lt h.hw)).trans h.hw, Kd.R_below h.T hb, Kd.R_below h.O hb⟩
theorem RvInv.cells {W1 W : World} {gt bw cT : Nat} {there : List Bool} {out : List Int} {vout : Value} (h : RvInv W1 gt bw cT W there out vout) :
    W.cell? ⟨bw, 0, none⟩ = some (.slice (some ⟨gt, 0, none⟩) there.length cT) ∧ W.cell? ⟨bw, 1, none⟩ = some vout ∧ W.frozen? ⟨bw, 1, none⟩ = false :=
  ⟨by simpa using blk_cell h.hw 0, by simpa using blk_cell h.hw 1, blk_frozen h.hw 1⟩

/-- What a walk keeps beside the walker's own. -/
structure RvFr (gt bw : Nat) (W : World) (vout : Value) (W' : World) (vout' : Value) : Prop where
  size : W.heap.size ≤ W'.heap.size
  keep : ∀ k, k < W.heap.size → k ≠ gt → k ≠ bw → some k ≠ vout.ownBlock → W'.heap[k]? = W.heap[k]?
  own : vout'.ownBlock = vout.ownBlock ∨ ∃ k, vout'.ownBlock = some k ∧ W.heap.size ≤ k
theorem RvFr.refl (gt bw : Nat) (W : World) (vout : Value) : RvFr gt bw W vout W vout := ⟨Nat.le_refl _, fun _ _ _ _ _ => rfl, .inl rfl⟩
theorem RvFr.trans {gt bw : Nat} {W X Y : World} {v x y : Value} (h : RvFr gt bw W v X x) (k : RvFr gt bw X x Y y) : RvFr gt bw W v Y y := by
  refine ⟨Nat.le_trans h.size k.size, fun i hi h1 h2 h3 => ?_, ?_⟩
  · refine (k.keep i (Nat.lt_of_lt_of_le hi h.size) h1 h2 (fun e => ?_)).trans (h.keep i hi h1 h2 h3)
    rcases h.own with ho | ⟨j, ho, hj⟩
    · exact h3 (e.trans ho)
    · rw [ho] at e; injection e with e; omega
  · rcases k.own with ho | ⟨j, ho, hj⟩
    · rw [ho]; exact h.own
    · exact .inr ⟨j, ho, Nat.le_trans h.size hj⟩
theorem RvFr.put {gt bw i : Nat} {W X : World} {v v' u : Value} (hg : W.grownBy X v.ownBlock) (hat : v'.ownBlock = v.ownBlock ∨ ∃ k, v'.ownBlock = some k ∧ W.heap.size ≤ k) : RvFr gt bw W v (X.setCell ⟨bw, i, none⟩ u) v' :=
  ⟨by have := hg.size; simpa [World.setCell] using this, fun k hk _ h2 h3 => (Below.heap_setCell X ⟨bw, i, none⟩ u k h2).trans (hg.block k hk h3), hat⟩
end Go.Proofs.Ytnmeomdjhjgnfaa.X
end
