-- written by a driver of this session (wip/xprint.py) over the kit's print, for this claim; Lean checks it
import Derived.Test.YtnmeomdjhjgnfaaX0
import Derived.Test.YtnmeomdjhjgnfaaX5
import Derived.Test.YtnmeomdjhjgnfaaX17
import Derived.Test.YtnmeomdjhjgnfaaGawake
import Derived.Test.YtnmeomdjhjgnfaaGpreds
namespace Go.Proofs.Ytnmeomdjhjgnfaa.X
open Go.RowKit Go.Proofs.YtnmeomdjhjgnfaaW.PrintWords Go.Proofs.YtnmeomdjhjgnfaaW.PrintLast Go.Proofs.YtnmeomdjhjgnfaaW.PrintMore
attribute [local go_sem] max2_int min2_int max_two min_two max_three min_three max_four min_four   -- for this text's walks alone
set_option linter.unusedVariables false
set_option linter.unusedSimpArgs false

/-! ### jacquardlaw02_GraphTurns: function 10 -/
mutual
def jacquardlaw02_GraphTurns.j0 : Nat → Bool → List (List Int) → List (List Int) → List (List Int) → Bool → Option (Bool)
  | 0, _, _, _, _, _ => none
  | k + 1, x3, x4, x5, x6, x28 => if x28 = true then (some false) else (jacquardlaw02_GraphTurns.l0 k x3 x4 x5 x6 0)
def jacquardlaw02_GraphTurns.l0 : Nat → Bool → List (List Int) → List (List Int) → List (List Int) → Int → Option (Bool)
  | 0, _, _, _, _, _ => none
  | k + 1, x3, x4, x5, x6, x7 => if x7 < (x4.length : Int) then (jacquardlaw02_GraphTurns.l1 k x3 x4 x5 x6 x7 0) else (some x3)
def jacquardlaw02_GraphTurns.l1 : Nat → Bool → List (List Int) → List (List Int) → List (List Int) → Int → Int → Option (Bool)
  | 0, _, _, _, _, _, _ => none
  | k + 1, x3, x4, x5, x6, x7, x8 => if x8 < (x4.length : Int) then ((jacquardref02_Edge.f k x4 x7 x8).bind fun t426 => ((jacquardref02_Edge.f k x5 x8 x7).bind fun t427 => (if (t427 != t426) = true then (some false) else ((jacquardref02_Edge.f k x6 x7 x8).bind fun t428 => (if (t428 != t426) = true then (some false) else (jacquardlaw02_GraphTurns.l1 k x3 x4 x5 x6 x7 (wrap64 (x8 + 1)))))))) else (jacquardlaw02_GraphTurns.l0 k x3 x4 x5 x6 (wrap64 (x7 + 1)))
end
def jacquardlaw02_GraphTurns.f (k : Nat) (l0 : List Int) : Option (Bool) := (jacquardlaw02_awake.f).bind fun t416 => ((jacquardref02_Made.f k l0).bind fun t417 => ((graph_Preds.f t417).bind fun t420 => ((graph_Preds.f t420).bind fun t423 => (if (t420.length : Int) = (t417.length : Int) then (jacquardlaw02_GraphTurns.j0 k t416 t417 t420 t423 ((t423.length : Int) != (t417.length : Int))) else (jacquardlaw02_GraphTurns.j0 k t416 t417 t420 t423 true)))))
theorem jacquardlaw02_GraphTurns.mono_l : ∀ k, (∀ y0 y1 y2 y3 y4, LeO (jacquardlaw02_GraphTurns.j0 k y0 y1 y2 y3 y4) (jacquardlaw02_GraphTurns.j0 (k + 1) y0 y1 y2 y3 y4)) ∧ (∀ y0 y1 y2 y3 y4, LeO (jacquardlaw02_GraphTurns.l0 k y0 y1 y2 y3 y4) (jacquardlaw02_GraphTurns.l0 (k + 1) y0 y1 y2 y3 y4)) ∧ (∀ y0 y1 y2 y3 y4 y5, LeO (jacquardlaw02_GraphTurns.l1 k y0 y1 y2 y3 y4 y5) (jacquardlaw02_GraphTurns.l1 (k + 1) y0 y1 y2 y3 y4 y5))
  | 0 => ⟨fun _ _ _ _ _ r h => by simp [jacquardlaw02_GraphTurns.j0] at h, fun _ _ _ _ _ r h => by simp [jacquardlaw02_GraphTurns.l0] at h, fun _ _ _ _ _ _ r h => by simp [jacquardlaw02_GraphTurns.l1] at h⟩
  | k + 1 => by
    obtain ⟨ih0, ih1, ih2⟩ := jacquardlaw02_GraphTurns.mono_l k
    refine ⟨?_, ?_, ?_⟩
    · intro y0 y1 y2 y3 y4
      unfold jacquardlaw02_GraphTurns.j0
      repeat' first
      | (with_reducible exact ih0 _ _ _ _ _)
      | (with_reducible exact ih1 _ _ _ _ _)
      | (with_reducible exact ih2 _ _ _ _ _ _)
      | (with_reducible exact jacquardref02_Edge.mono _ _ _ _)
      | (with_reducible exact jacquardref02_Made.mono _ _)
      | (with_reducible exact LeO.refl _)
      | (with_reducible exact LeO.none _)
      | (with_reducible refine LeO.ite ?_ ?_)
      | (with_reducible refine LeO.bind ?_ (fun _ => ?_))
      | exact ih0 _ _ _ _ _
      | exact ih1 _ _ _ _ _
      | exact ih2 _ _ _ _ _ _
      | exact jacquardref02_Edge.mono _ _ _ _
      | exact jacquardref02_Made.mono _ _
      | exact LeO.none _
      | refine LeO.ite ?_ ?_
      | refine LeO.bind ?_ (fun _ => ?_)
    · intro y0 y1 y2 y3 y4
      unfold jacquardlaw02_GraphTurns.l0
      repeat' first
      | (with_reducible exact ih0 _ _ _ _ _)
      | (with_reducible exact ih1 _ _ _ _ _)
      | (with_reducible exact ih2 _ _ _ _ _ _)
      | (with_reducible exact jacquardref02_Edge.mono _ _ _ _)
      | (with_reducible exact jacquardref02_Made.mono _ _)
      | (with_reducible exact LeO.refl _)
      | (with_reducible exact LeO.none _)
      | (with_reducible refine LeO.ite ?_ ?_)
      | (with_reducible refine LeO.bind ?_ (fun _ => ?_))
      | exact ih0 _ _ _ _ _
      | exact ih1 _ _ _ _ _
      | exact ih2 _ _ _ _ _ _
      | exact jacquardref02_Edge.mono _ _ _ _
      | exact jacquardref02_Made.mono _ _
      | exact LeO.none _
      | refine LeO.ite ?_ ?_
      | refine LeO.bind ?_ (fun _ => ?_)
    · intro y0 y1 y2 y3 y4 y5
      unfold jacquardlaw02_GraphTurns.l1
      repeat' first
      | (with_reducible exact ih0 _ _ _ _ _)
      | (with_reducible exact ih1 _ _ _ _ _)
      | (with_reducible exact ih2 _ _ _ _ _ _)
      | (with_reducible exact jacquardref02_Edge.mono _ _ _ _)
      | (with_reducible exact jacquardref02_Made.mono _ _)
      | (with_reducible exact LeO.refl _)
      | (with_reducible exact LeO.none _)
      | (with_reducible refine LeO.ite ?_ ?_)
      | (with_reducible refine LeO.bind ?_ (fun _ => ?_))
      | exact ih0 _ _ _ _ _
      | exact ih1 _ _ _ _ _
      | exact ih2 _ _ _ _ _ _
      | exact jacquardref02_Edge.mono _ _ _ _
      | exact jacquardref02_Made.mono _ _
      | exact LeO.none _
      | refine LeO.ite ?_ ?_
      | refine LeO.bind ?_ (fun _ => ?_)
theorem jacquardlaw02_GraphTurns.mono : ∀ a0 k, LeO (jacquardlaw02_GraphTurns.f k a0) (jacquardlaw02_GraphTurns.f (k + 1) a0) := by
  intro a0 k
  obtain ⟨ih0, ih1, ih2⟩ := jacquardlaw02_GraphTurns.mono_l k
  unfold jacquardlaw02_GraphTurns.f
  repeat' first
      | (with_reducible exact ih0 _ _ _ _ _)
      | (with_reducible exact ih1 _ _ _ _ _)
      | (with_reducible exact ih2 _ _ _ _ _ _)
      | (with_reducible exact jacquardref02_Edge.mono _ _ _ _)
      | (with_reducible exact jacquardref02_Made.mono _ _)
      | (with_reducible exact LeO.refl _)
      | (with_reducible exact LeO.none _)
      | (with_reducible refine LeO.ite ?_ ?_)
      | (with_reducible refine LeO.bind ?_ (fun _ => ?_))
      | exact ih0 _ _ _ _ _
      | exact ih1 _ _ _ _ _
      | exact ih2 _ _ _ _ _ _
      | exact jacquardref02_Edge.mono _ _ _ _
      | exact jacquardref02_Made.mono _ _
      | exact LeO.none _
      | refine LeO.ite ?_ ?_
      | refine LeO.bind ?_ (fun _ => ?_)
set_option maxHeartbeats 8000000 in
set_option maxRecDepth 100000 in
theorem jacquardlaw02_GraphTurns.calls (k : Nat) (A0 : Option Addr) (c0 : Nat) (l0 : List Int) (r : Bool) (w : World) (hr0 : Kd.C (Kd.int .i64) w A0 l0.length l0) (hc0 : l0.length ≤ c0) (h : jacquardlaw02_GraphTurns.f k l0 = some r) :
    Calls Try.prog 10 #[.slice A0 l0.length c0] w fun e w' => e = .returned (.bool r) ∧ Below w.heap.size w w' := by
  have HR0 := Aside0.mk hr0
  have HC0 := Aside0.mk hc0
  clear hr0 hc0
  have HB := Aside0.mk (Below.refl w.heap.size w)
  have H : ((jacquardlaw02_awake.f).bind fun t416 => ((jacquardref02_Made.f k l0).bind fun t417 => ((graph_Preds.f t417).bind fun t420 => ((graph_Preds.f t420).bind fun t423 => (if (t420.length : Int) = (t417.length : Int) then (jacquardlaw02_GraphTurns.j0 k t416 t417 t420 t423 ((t423.length : Int) != (t417.length : Int))) else (jacquardlaw02_GraphTurns.j0 k t416 t417 t420 t423 true)))))) = some r := h
  clear h
  replace H := Option.bind_eq_some_iff.mp H
  obtain ⟨t416, A20, H⟩ := H
  replace H : ((jacquardref02_Made.f k l0).bind fun t417 => ((graph_Preds.f t417).bind fun t420 => ((graph_Preds.f t420).bind fun t423 => (if (t420.length : Int) = (t417.length : Int) then (jacquardlaw02_GraphTurns.j0 k t416 t417 t420 t423 ((t423.length : Int) != (t417.length : Int))) else (jacquardlaw02_GraphTurns.j0 k t416 t417 t420 t423 true))))) = some r := H
  have A2 := Aside0.mk A20
  clear A20
  replace H := Option.bind_eq_some_iff.mp H
  obtain ⟨t417, A30, H⟩ := H
  replace H : ((graph_Preds.f t417).bind fun t420 => ((graph_Preds.f t420).bind fun t423 => (if (t420.length : Int) = (t417.length : Int) then (jacquardlaw02_GraphTurns.j0 k t416 t417 t420 t423 ((t423.length : Int) != (t417.length : Int))) else (jacquardlaw02_GraphTurns.j0 k t416 t417 t420 t423 true)))) = some r := H
  have A3 := Aside0.mk A30
  clear A30
  replace H := Option.bind_eq_some_iff.mp H
  obtain ⟨t420, A40, H⟩ := H
  replace H : ((graph_Preds.f t420).bind fun t423 => (if (t420.length : Int) = (t417.length : Int) then (jacquardlaw02_GraphTurns.j0 k t416 t417 t420 t423 ((t423.length : Int) != (t417.length : Int))) else (jacquardlaw02_GraphTurns.j0 k t416 t417 t420 t423 true))) = some r := H
  have A4 := Aside0.mk A40
  clear A40
  replace H := Option.bind_eq_some_iff.mp H
  obtain ⟨t423, A50, H⟩ := H
  replace H : (if (t420.length : Int) = (t417.length : Int) then (jacquardlaw02_GraphTurns.j0 k t416 t417 t420 t423 ((t423.length : Int) != (t417.length : Int))) else (jacquardlaw02_GraphTurns.j0 k t416 t417 t420 t423 true)) = some r := H
  have A5 := Aside0.mk A50
  clear A50
  have HC6 := Aside0.mk H
  clear H
  go_enter Try.func10, Try.ntmps10
  go_upto_region 5 with (first | ((with_reducible refine gate_callee (f := 22) rfl ?_); refine goesL_ (some 10) rfl rfl Try.func22 (by kernel_rfl) rfl #[] rfl (by (try simp only [List.map_toArray, List.map_cons, List.map_nil]); first | done | rfl | (simp only [List.length_drop, List.length_take]; rfl)) ?_; (with_reducible refine (jacquardlaw02_awake.calls  t416 _ A2.out).mono ?_); rintro e w7 ⟨rfl, hb⟩; refine ⟨_, rfl, ?_⟩; have n0_ := Aside0.mk (below_step (by repeat (first | (with_reducible first | exact HB.out | apply below_alloc | apply pw_below_drewN | apply below_drew1) | exact HB.out)) hb); clear HB; have HB := n0_; clear n0_; (try clear hb); (try clear hb2); (try clear hk); (try clear hi)) | ((with_reducible refine gate_callee (f := 25) rfl ?_); refine goesL_ (some 12) rfl rfl Try.func25 (by kernel_rfl) rfl #[.slice A0 l0.length c0] rfl (by (try simp only [List.map_toArray, List.map_cons, List.map_nil]); first | done | rfl | (simp only [List.length_drop, List.length_take]; rfl)) ?_; (with_reducible refine (jacquardref02_Made.calls k _ _ l0 t417 _ ?side1 ?side2 A3.out).mono ?_); (case side1 => repeat (first | exact (Kd.C_below HR0.out HB.out) | (with_reducible refine Kd.C_alloc ?_ _) | (with_reducible refine Kd.C_drewN ?_ _) | (with_reducible refine Kd.C_drew ?_))); (case side2 => exact HC0.out); rintro e w8 ⟨v418, rfl, ho0, hb⟩; refine ⟨_, rfl, ?_⟩; have n0_ := Aside0.mk (Kd.S_lower ho0 (below_size (by repeat (first | (with_reducible first | exact HB.out | apply below_alloc | apply pw_below_drewN | apply below_drew1) | exact HB.out)))); have n1_ := Aside0.mk (below_step (by repeat (first | (with_reducible first | exact HB.out | apply below_alloc | apply pw_below_drewN | apply below_drew1) | exact HB.out)) hb); clear HB; have HO419 := n0_; have HB := n1_; clear n0_ n1_; (try clear hb); (try clear hb2); (try clear hk); (try clear hi); (try clear ho0); obtain ⟨Ao9, co9, eo9⟩ := Kd.S_slice HO419.out; subst eo9) | ((with_reducible refine gate_callee (f := 47) rfl ?_); refine goesL_ (some 14) rfl rfl Try.func47 (by kernel_rfl) rfl #[.slice Ao9 t417.length co9] rfl (by (try simp only [List.map_toArray, List.map_cons, List.map_nil]); first | done | rfl | (simp only [List.length_drop, List.length_take]; rfl)) ?_; (with_reducible refine (graph_Preds.calls _ _ t417 t420 _ ?side1 ?side2 A4.out).mono ?_); (case side1 => repeat (first | exact (Kd.S_reads' HO419.out).2.2 | (with_reducible refine Kd.C_alloc ?_ _) | (with_reducible refine Kd.C_drewN ?_ _) | (with_reducible refine Kd.C_drew ?_))); (case side2 => exact (Kd.S_reads' HO419.out).2.1); rintro e w10 ⟨v421, rfl, ho0, hb⟩; refine ⟨_, rfl, ?_⟩; have n0_ := Aside0.mk (Kd.S_elder' (by (with_reducible repeat (first | apply Kd.S_alloc | apply Kd.S_drewN | apply Kd.S_drew)); exact HO419.out) (Kd.S_base ho0) hb); have n1_ := Aside0.mk (Kd.S_lower (Kd.S_new' ho0 (Kd.S_lt (by (with_reducible repeat (first | apply Kd.S_alloc | apply Kd.S_drewN | apply Kd.S_drew)); exact HO419.out))) (below_size (by repeat (first | (with_reducible first | exact HB.out | apply below_alloc | apply pw_below_drewN | apply below_drew1) | exact HB.out)))); have n2_ := Aside0.mk (below_step (by repeat (first | (with_reducible first | exact HB.out | apply below_alloc | apply pw_below_drewN | apply below_drew1) | exact HB.out)) hb); clear HO419; clear HB; have HO419 := n0_; have HO422 := n1_; have HB := n2_; clear n0_ n1_ n2_; (try clear hb); (try clear hb2); (try clear hk); (try clear hi); (try clear ho0); obtain ⟨Ao11, co11, eo11⟩ := Kd.S_slice HO422.out; subst eo11) | ((with_reducible refine gate_callee (f := 47) rfl ?_); refine goesL_ (some 16) rfl rfl Try.func47 (by kernel_rfl) rfl #[.slice Ao11 t420.length co11] rfl (by (try simp only [List.map_toArray, List.map_cons, List.map_nil]); first | done | rfl | (simp only [List.length_drop, List.length_take]; rfl)) ?_; (with_reducible refine (graph_Preds.calls _ _ t420 t423 _ ?side1 ?side2 A5.out).mono ?_); (case side1 => repeat (first | exact (Kd.S_reads' HO422.out).2.2 | (with_reducible refine Kd.C_alloc ?_ _) | (with_reducible refine Kd.C_drewN ?_ _) | (with_reducible refine Kd.C_drew ?_))); (case side2 => exact (Kd.S_reads' HO422.out).2.1); rintro e w12 ⟨v424, rfl, ho0, hb⟩; refine ⟨_, rfl, ?_⟩; have n0_ := Aside0.mk (Kd.S_elder' (by (with_reducible repeat (first | apply Kd.S_alloc | apply Kd.S_drewN | apply Kd.S_drew)); exact HO419.out) (Kd.S_base ho0) hb); have n1_ := Aside0.mk (Kd.S_elder' (by (with_reducible repeat (first | apply Kd.S_alloc | apply Kd.S_drewN | apply Kd.S_drew)); exact HO422.out) (Kd.S_base ho0) hb); have n2_ := Aside0.mk (Kd.S_lower (Kd.S_new' (Kd.S_new' ho0 (Kd.S_lt (by (with_reducible repeat (first | apply Kd.S_alloc | apply Kd.S_drewN | apply Kd.S_drew)); exact HO419.out))) (Kd.S_lt (by (with_reducible repeat (first | apply Kd.S_alloc | apply Kd.S_drewN | apply Kd.S_drew)); exact HO422.out))) (below_size (by repeat (first | (with_reducible first | exact HB.out | apply below_alloc | apply pw_below_drewN | apply below_drew1) | exact HB.out)))); have n3_ := Aside0.mk (below_step (by repeat (first | (with_reducible first | exact HB.out | apply below_alloc | apply pw_below_drewN | apply below_drew1) | exact HB.out)) hb); clear HO419; clear HO422; clear HB; have HO419 := n0_; have HO422 := n1_; have HO425 := n2_; have HB := n3_; clear n0_ n1_ n2_ n3_; (try clear hb); (try clear hb2); (try clear hk); (try clear hi); (try clear ho0)))
  (try simp only [Act.put, List.setIfInBounds_toArray, List.set_cons_zero, List.set_cons_succ])
  go_cut [28] (fun v28 wc => ∃ (kq : Nat) (x28_5 : Bool), v28 = .bool x28_5 ∧ Aside0 (jacquardlaw02_GraphTurns.j0 kq t416 t417 t420 t423 x28_5 = some r) ∧ Aside0 (kq ≤ k) ∧ Aside0 (Kd.S (Kd.slice 3 (Kd.int .i64)) 23 wc w.heap.size (fun k_ => some k_ ≠ ((.slice Ao11 t420.length co11) : Value).ownBlock ∧ some k_ ≠ (v424 : Value).ownBlock) (.slice Ao9 t417.length co9) t417) ∧ Aside0 (Kd.S (Kd.slice 3 (Kd.int .i64)) 23 wc w.heap.size (fun k_ => some k_ ≠ ((.slice Ao9 t417.length co9) : Value).ownBlock ∧ some k_ ≠ (v424 : Value).ownBlock) (.slice Ao11 t420.length co11) t420) ∧ Aside0 (Kd.S (Kd.slice 3 (Kd.int .i64)) 23 wc w.heap.size (fun k_ => some k_ ≠ ((.slice Ao9 t417.length co9) : Value).ownBlock ∧ some k_ ≠ ((.slice Ao11 t420.length co11) : Value).ownBlock) v424 t423) ∧ Aside0 (Below w.heap.size w wc))
  case first =>
    have H := HC6.out
    clear HC6
    by_cases c13 : (t420.length : Int) = (t417.length : Int)
    · rw [if_pos c13] at H
      have c13b0 : ((t420.length : Int) == (t417.length : Int)) = true := beq_iff_eq.mpr c13
      have c13b1 : ((t420.length : Int) != (t417.length : Int)) = false := bne_eq_false_iff_eq.mpr c13
      have c13b2 : (t420.length == t417.length) = true := by first | simpa using c13 | (simp at c13 ⊢; omega)
      clear c13
      (first | rw [c13b0] | (simp only [i64_w, i32_w]; rw [c13b0]) | skip)
      have H' := Aside0.mk H
      clear H
      obtain ⟨Ao14, co14, eo14⟩ := Kd.S_slice HO425.out
      subst eo14
      go_wp2
      go_meet
      case rel => exact ⟨_, (((t423.length : Int) != (t417.length : Int))), (by first | rfl | (simp; done) | (simp [*]; done)), H', ⟨by first | omega | exact Nat.le_refl _⟩, ⟨by (with_reducible repeat (first | apply Kd.S_alloc | apply Kd.S_drewN | apply Kd.S_drew)); exact Kd.S_mono HO419.out (fun _ hk => ⟨hk.1.2, hk.2⟩)⟩, ⟨by (with_reducible repeat (first | apply Kd.S_alloc | apply Kd.S_drewN | apply Kd.S_drew)); exact Kd.S_mono HO422.out (fun _ hk => ⟨hk.1.2, hk.2⟩)⟩, ⟨by (with_reducible repeat (first | apply Kd.S_alloc | apply Kd.S_drewN | apply Kd.S_drew)); exact Kd.S_mono HO425.out (fun _ hk => ⟨hk.1.2, hk.2⟩)⟩, ⟨by repeat (first | (with_reducible first | exact HB.out | apply below_alloc | apply pw_below_drewN | apply below_drew1) | exact HB.out)⟩⟩
    · rw [if_neg c13] at H
      have c13b0 : ((t420.length : Int) == (t417.length : Int)) = false := beq_eq_false_iff_ne.mpr c13
      have c13b1 : ((t420.length : Int) != (t417.length : Int)) = true := bne_iff_ne.mpr c13
      have c13b2 : (t420.length == t417.length) = false := by first | simpa using c13 | (simp at c13 ⊢; omega)
      (first | rw [c13b0] | (simp only [i64_w, i32_w]; rw [c13b0]) | skip)
      have H' := Aside0.mk H
      clear H
      go_wp2
      go_meet
      case rel => exact ⟨_, (true), (by first | rfl | (simp; done) | (simp [*]; done)), H', ⟨by first | omega | exact Nat.le_refl _⟩, ⟨by (with_reducible repeat (first | apply Kd.S_alloc | apply Kd.S_drewN | apply Kd.S_drew)); exact Kd.S_mono HO419.out (fun _ hk => ⟨hk.1.2, hk.2⟩)⟩, ⟨by (with_reducible repeat (first | apply Kd.S_alloc | apply Kd.S_drewN | apply Kd.S_drew)); exact Kd.S_mono HO422.out (fun _ hk => ⟨hk.1.2, hk.2⟩)⟩, ⟨by (with_reducible repeat (first | apply Kd.S_alloc | apply Kd.S_drewN | apply Kd.S_drew)); exact Kd.S_mono HO425.out (fun _ hk => ⟨hk.1.2, hk.2⟩)⟩, ⟨by repeat (first | (with_reducible first | exact HB.out | apply below_alloc | apply pw_below_drewN | apply below_drew1) | exact HB.out)⟩⟩
  case rest =>
    clear HC6
    try clear c1
    try clear c2
    try clear p2
    try clear c4
    try clear c10
    try clear c13
    try clear c13b0
    try clear c13b1
    try clear c13b2
    obtain ⟨kq, x28_5, rfl, HA, HJ5, HO_4, HO_5, HO_6, HB⟩ := hcut
    cases kq with
    | zero => exact absurd HA.out (by simp [jacquardlaw02_GraphTurns.j0])
    | succ kj5 =>
      have H := HA.out
      clear HA
      simp only [jacquardlaw02_GraphTurns.j0] at H
      by_cases c15 : x28_5 = true
      · subst c15
        have H1 : (some false) = some r := by rw [if_pos rfl] at H; exact H
        clear H
        have H := H1
        clear H1
        obtain rfl := Option.some.inj H
        go_wp2
        go_ret
        exact ⟨by first | rfl | (simp [errW_none, errW_some] <;> rfl) | (simp [*, errW_none, errW_some] <;> rfl), by repeat (first | (with_reducible first | exact HB.out | apply below_alloc | apply pw_below_drewN | apply below_drew1) | exact HB.out)⟩
      · replace c15 := Bool.eq_false_iff.mpr c15
        subst c15
        have H1 : (jacquardlaw02_GraphTurns.l0 kj5 t416 t417 t420 t423 0) = some r := by rw [if_neg (show ¬ (false = true) by decide)] at H; exact H
        clear H
        have H := H1
        clear H1
        have H' := Aside0.mk H
        clear H
        go_wp2
        go_loopg [7] kj5 (fun kq v7 w' => ∃ (x7_2 : Int), v7 = .int .i64 x7_2 ∧ Aside0 (jacquardlaw02_GraphTurns.l0 kq t416 t417 t420 t423 x7_2 = some r) ∧ Aside0 (kq ≤ kj5) ∧ Aside0 (Kd.S (Kd.slice 3 (Kd.int .i64)) 23 w' w.heap.size (fun k_ => some k_ ≠ ((.slice Ao11 t420.length co11) : Value).ownBlock ∧ some k_ ≠ (v424 : Value).ownBlock) (.slice Ao9 t417.length co9) t417) ∧ Aside0 (Kd.S (Kd.slice 3 (Kd.int .i64)) 23 w' w.heap.size (fun k_ => some k_ ≠ ((.slice Ao9 t417.length co9) : Value).ownBlock ∧ some k_ ≠ (v424 : Value).ownBlock) (.slice Ao11 t420.length co11) t420) ∧ Aside0 (Kd.S (Kd.slice 3 (Kd.int .i64)) 23 w' w.heap.size (fun k_ => some k_ ≠ ((.slice Ao9 t417.length co9) : Value).ownBlock ∧ some k_ ≠ ((.slice Ao11 t420.length co11) : Value).ownBlock) v424 t423) ∧ Aside0 (Below w.heap.size w w'))
        case atStart => exact ⟨(0), (by first | rfl | (simp; done) | (simp [*]; done)), H', ⟨Nat.le_refl _⟩, ⟨by (with_reducible repeat (first | apply Kd.S_alloc | apply Kd.S_drewN | apply Kd.S_drew)); exact HO_4.out⟩, ⟨by (with_reducible repeat (first | apply Kd.S_alloc | apply Kd.S_drewN | apply Kd.S_drew)); exact HO_5.out⟩, ⟨by (with_reducible repeat (first | apply Kd.S_alloc | apply Kd.S_drewN | apply Kd.S_drew)); exact HO_6.out⟩, ⟨by repeat (first | (with_reducible first | exact HB.out | apply below_alloc | apply pw_below_drewN | apply below_drew1) | exact HB.out)⟩⟩
        case round =>
          clear H'
          try clear c1
          try clear c2
          try clear p2
          try clear c4
          try clear c10
          try clear c13
          try clear c13b0
          try clear c13b1
          try clear c13b2
          try clear c15
          try clear p2
          obtain ⟨x7_2, rfl, HA, HK2, HO_4, HO_5, HO_6, HB⟩ := hrel
          cases gk with
          | zero => exact absurd HA.out (by simp [jacquardlaw02_GraphTurns.l0])
          | succ k2 =>
            have H := HA.out
            clear HA
            simp only [jacquardlaw02_GraphTurns.l0] at H
            by_cases c16 : x7_2 < (t417.length : Int)
            · rw [if_pos c16] at H
              have c16b0 : decide (x7_2 < (t417.length : Int)) = true := decide_eq_true c16
              clear c16
              have H' := Aside0.mk H
              clear H
              go_wp2
              go_loopg [8] k2 (fun kq v8 w' => ∃ (x8_3 : Int), v8 = .int .i64 x8_3 ∧ Aside0 (jacquardlaw02_GraphTurns.l1 kq t416 t417 t420 t423 x7_2 x8_3 = some r) ∧ Aside0 (kq ≤ k2) ∧ Aside0 (Kd.S (Kd.slice 3 (Kd.int .i64)) 23 w' w.heap.size (fun k_ => some k_ ≠ ((.slice Ao11 t420.length co11) : Value).ownBlock ∧ some k_ ≠ (v424 : Value).ownBlock) (.slice Ao9 t417.length co9) t417) ∧ Aside0 (Kd.S (Kd.slice 3 (Kd.int .i64)) 23 w' w.heap.size (fun k_ => some k_ ≠ ((.slice Ao9 t417.length co9) : Value).ownBlock ∧ some k_ ≠ (v424 : Value).ownBlock) (.slice Ao11 t420.length co11) t420) ∧ Aside0 (Kd.S (Kd.slice 3 (Kd.int .i64)) 23 w' w.heap.size (fun k_ => some k_ ≠ ((.slice Ao9 t417.length co9) : Value).ownBlock ∧ some k_ ≠ ((.slice Ao11 t420.length co11) : Value).ownBlock) v424 t423) ∧ Aside0 (Below w.heap.size w w'))
              case atStart => exact ⟨(0), (by first | rfl | (simp; done) | (simp [*]; done)), H', ⟨Nat.le_refl _⟩, ⟨by (with_reducible repeat (first | apply Kd.S_alloc | apply Kd.S_drewN | apply Kd.S_drew)); exact HO_4.out⟩, ⟨by (with_reducible repeat (first | apply Kd.S_alloc | apply Kd.S_drewN | apply Kd.S_drew)); exact HO_5.out⟩, ⟨by (with_reducible repeat (first | apply Kd.S_alloc | apply Kd.S_drewN | apply Kd.S_drew)); exact HO_6.out⟩, ⟨by repeat (first | (with_reducible first | exact HB.out | apply below_alloc | apply pw_below_drewN | apply below_drew1) | exact HB.out)⟩⟩
              case round =>
                clear H'
                try clear c1
                try clear c2
                try clear p2
                try clear c4
                try clear c10
                try clear c13
                try clear c13b0
                try clear c13b1
                try clear c13b2
                try clear c15
                try clear c16
                try clear c16b0
                try clear p2
                obtain ⟨x8_3, rfl, HA, HK3, HO_4, HO_5, HO_6, HB⟩ := hrel
                cases gk with
                | zero => exact absurd HA.out (by simp [jacquardlaw02_GraphTurns.l1])
                | succ k3 =>
                  have H := HA.out
                  clear HA
                  simp only [jacquardlaw02_GraphTurns.l1] at H
                  by_cases c17 : x8_3 < (t417.length : Int)
                  · rw [if_pos c17] at H
                    have c17b0 : decide (x8_3 < (t417.length : Int)) = true := decide_eq_true c17
                    clear c17
                    replace H := Option.bind_eq_some_iff.mp H
                    obtain ⟨t426, A180, H⟩ := H
                    replace H : ((jacquardref02_Edge.f k3 t420 x8_3 x7_2).bind fun t427 => (if (t427 != t426) = true then (some false) else ((jacquardref02_Edge.f k3 t423 x7_2 x8_3).bind fun t428 => (if (t428 != t426) = true then (some false) else (jacquardlaw02_GraphTurns.l1 k3 t416 t417 t420 t423 x7_2 (wrap64 (x8_3 + 1))))))) = some r := H
                    have A18 := Aside0.mk A180
                    clear A180
                    replace H := Option.bind_eq_some_iff.mp H
                    obtain ⟨t427, A190, H⟩ := H
                    replace H : (if (t427 != t426) = true then (some false) else ((jacquardref02_Edge.f k3 t423 x7_2 x8_3).bind fun t428 => (if (t428 != t426) = true then (some false) else (jacquardlaw02_GraphTurns.l1 k3 t416 t417 t420 t423 x7_2 (wrap64 (x8_3 + 1)))))) = some r := H
                    have A19 := Aside0.mk A190
                    clear A190
                    by_cases c20 : (t427 != t426) = true
                    · rw [if_pos c20] at H
                      have c20b0 : (t427 != t426) = true := c20
                      (try (have c20b1 : decide (t427 = t426) = false := by simpa using c20))
                      (try (have c20b2 : (t427 == t426) = false := by simpa using c20))
                      (try (have c20b3 : ¬ (t427 = t426) := by simpa using c20))
                      clear c20
                      obtain rfl := Option.some.inj H
                      go_wp2_with (first | ((with_reducible refine gate_callee (f := 29) rfl ?_); refine goesL_ (some 44) rfl rfl Try.func29 (by kernel_rfl) rfl #[.slice Ao9 t417.length co9, .int .i64 x7_2, .int .i64 x8_3] rfl (by (try simp only [List.map_toArray, List.map_cons, List.map_nil]); first | done | rfl | (simp only [List.length_drop, List.length_take]; rfl)) ?_; (with_reducible refine (jacquardref02_Edge.calls k3 _ _ t417 x7_2 x8_3 t426 _ ?side1 ?side2 A18.out).mono ?_); (case side1 => repeat (first | exact (Kd.S_reads' HO_4.out).2.2 | (with_reducible refine Kd.C_alloc ?_ _) | (with_reducible refine Kd.C_drewN ?_ _) | (with_reducible refine Kd.C_drew ?_))); (case side2 => exact (Kd.S_reads' HO_4.out).2.1); rintro e w' ⟨rfl, ⟨nd, rfl⟩⟩; refine ⟨_, rfl, ?_⟩) | ((with_reducible refine gate_callee (f := 29) rfl ?_); refine goesL_ (some 48) rfl rfl Try.func29 (by kernel_rfl) rfl #[.slice Ao11 t420.length co11, .int .i64 x8_3, .int .i64 x7_2] rfl (by (try simp only [List.map_toArray, List.map_cons, List.map_nil]); first | done | rfl | (simp only [List.length_drop, List.length_take]; rfl)) ?_; (with_reducible refine (jacquardref02_Edge.calls k3 _ _ t420 x8_3 x7_2 t427 _ ?side1 ?side2 A19.out).mono ?_); (case side1 => repeat (first | exact (Kd.S_reads' HO_5.out).2.2 | (with_reducible refine Kd.C_alloc ?_ _) | (with_reducible refine Kd.C_drewN ?_ _) | (with_reducible refine Kd.C_drew ?_))); (case side2 => exact (Kd.S_reads' HO_5.out).2.1); rintro e w' ⟨rfl, ⟨nd, rfl⟩⟩; refine ⟨_, rfl, ?_⟩))
                      go_ret
                      exact ⟨by first | rfl | (simp [errW_none, errW_some] <;> rfl) | (simp [*, errW_none, errW_some] <;> rfl), by repeat (first | (with_reducible first | exact HB.out | apply below_alloc | apply pw_below_drewN | apply below_drew1) | exact HB.out)⟩
                    · rw [if_neg c20] at H
                      have c20b0 : (t427 != t426) = false := by simpa using c20
                      (try (have c20b1 : decide (t427 = t426) = true := by simpa using c20))
                      (try (have c20b2 : (t427 == t426) = true := by simpa using c20))
                      clear c20
                      replace H := Option.bind_eq_some_iff.mp H
                      obtain ⟨t428, A210, H⟩ := H
                      replace H : (if (t428 != t426) = true then (some false) else (jacquardlaw02_GraphTurns.l1 k3 t416 t417 t420 t423 x7_2 (wrap64 (x8_3 + 1)))) = some r := H
                      have A21 := Aside0.mk A210
                      clear A210
                      by_cases c22 : (t428 != t426) = true
                      · rw [if_pos c22] at H
                        have c22b0 : (t428 != t426) = true := c22
                        (try (have c22b1 : decide (t428 = t426) = false := by simpa using c22))
                        (try (have c22b2 : (t428 == t426) = false := by simpa using c22))
                        (try (have c22b3 : ¬ (t428 = t426) := by simpa using c22))
                        clear c22
                        obtain rfl := Option.some.inj H
                        go_wp2_with (first | ((with_reducible refine gate_callee (f := 29) rfl ?_); refine goesL_ (some 44) rfl rfl Try.func29 (by kernel_rfl) rfl #[.slice Ao9 t417.length co9, .int .i64 x7_2, .int .i64 x8_3] rfl (by (try simp only [List.map_toArray, List.map_cons, List.map_nil]); first | done | rfl | (simp only [List.length_drop, List.length_take]; rfl)) ?_; (with_reducible refine (jacquardref02_Edge.calls k3 _ _ t417 x7_2 x8_3 t426 _ ?side1 ?side2 A18.out).mono ?_); (case side1 => repeat (first | exact (Kd.S_reads' HO_4.out).2.2 | (with_reducible refine Kd.C_alloc ?_ _) | (with_reducible refine Kd.C_drewN ?_ _) | (with_reducible refine Kd.C_drew ?_))); (case side2 => exact (Kd.S_reads' HO_4.out).2.1); rintro e w' ⟨rfl, ⟨nd, rfl⟩⟩; refine ⟨_, rfl, ?_⟩) | ((with_reducible refine gate_callee (f := 29) rfl ?_); refine goesL_ (some 48) rfl rfl Try.func29 (by kernel_rfl) rfl #[.slice Ao11 t420.length co11, .int .i64 x8_3, .int .i64 x7_2] rfl (by (try simp only [List.map_toArray, List.map_cons, List.map_nil]); first | done | rfl | (simp only [List.length_drop, List.length_take]; rfl)) ?_; (with_reducible refine (jacquardref02_Edge.calls k3 _ _ t420 x8_3 x7_2 t427 _ ?side1 ?side2 A19.out).mono ?_); (case side1 => repeat (first | exact (Kd.S_reads' HO_5.out).2.2 | (with_reducible refine Kd.C_alloc ?_ _) | (with_reducible refine Kd.C_drewN ?_ _) | (with_reducible refine Kd.C_drew ?_))); (case side2 => exact (Kd.S_reads' HO_5.out).2.1); rintro e w' ⟨rfl, ⟨nd, rfl⟩⟩; refine ⟨_, rfl, ?_⟩; obtain ⟨Ao23, co23, eo23⟩ := Kd.S_slice HO_6.out; subst eo23) | (go_at_call 29; (with_reducible refine (jacquardref02_Edge.calls k3 _ _ t423 x7_2 x8_3 t428 _ ?side1 ?side2 A21.out).mono ?_); (case side1 => repeat (first | exact (Kd.S_reads' HO_6.out).2.2 | (with_reducible refine Kd.C_alloc ?_ _) | (with_reducible refine Kd.C_drewN ?_ _) | (with_reducible refine Kd.C_drew ?_))); (case side2 => exact (Kd.S_reads' HO_6.out).2.1); rintro e w' ⟨rfl, ⟨nd, rfl⟩⟩))
                        go_ret
                        exact ⟨by first | rfl | (simp [errW_none, errW_some] <;> rfl) | (simp [*, errW_none, errW_some] <;> rfl), by repeat (first | (with_reducible first | exact HB.out | apply below_alloc | apply pw_below_drewN | apply below_drew1) | exact HB.out)⟩
                      · rw [if_neg c22] at H
                        have c22b0 : (t428 != t426) = false := by simpa using c22
                        (try (have c22b1 : decide (t428 = t426) = true := by simpa using c22))
                        (try (have c22b2 : (t428 == t426) = true := by simpa using c22))
                        clear c22
                        have H' := Aside0.mk H
                        clear H
                        go_wp2_with (first | ((with_reducible refine gate_callee (f := 29) rfl ?_); refine goesL_ (some 44) rfl rfl Try.func29 (by kernel_rfl) rfl #[.slice Ao9 t417.length co9, .int .i64 x7_2, .int .i64 x8_3] rfl (by (try simp only [List.map_toArray, List.map_cons, List.map_nil]); first | done | rfl | (simp only [List.length_drop, List.length_take]; rfl)) ?_; (with_reducible refine (jacquardref02_Edge.calls k3 _ _ t417 x7_2 x8_3 t426 _ ?side1 ?side2 A18.out).mono ?_); (case side1 => repeat (first | exact (Kd.S_reads' HO_4.out).2.2 | (with_reducible refine Kd.C_alloc ?_ _) | (with_reducible refine Kd.C_drewN ?_ _) | (with_reducible refine Kd.C_drew ?_))); (case side2 => exact (Kd.S_reads' HO_4.out).2.1); rintro e w' ⟨rfl, ⟨nd, rfl⟩⟩; refine ⟨_, rfl, ?_⟩) | ((with_reducible refine gate_callee (f := 29) rfl ?_); refine goesL_ (some 48) rfl rfl Try.func29 (by kernel_rfl) rfl #[.slice Ao11 t420.length co11, .int .i64 x8_3, .int .i64 x7_2] rfl (by (try simp only [List.map_toArray, List.map_cons, List.map_nil]); first | done | rfl | (simp only [List.length_drop, List.length_take]; rfl)) ?_; (with_reducible refine (jacquardref02_Edge.calls k3 _ _ t420 x8_3 x7_2 t427 _ ?side1 ?side2 A19.out).mono ?_); (case side1 => repeat (first | exact (Kd.S_reads' HO_5.out).2.2 | (with_reducible refine Kd.C_alloc ?_ _) | (with_reducible refine Kd.C_drewN ?_ _) | (with_reducible refine Kd.C_drew ?_))); (case side2 => exact (Kd.S_reads' HO_5.out).2.1); rintro e w' ⟨rfl, ⟨nd, rfl⟩⟩; refine ⟨_, rfl, ?_⟩; obtain ⟨Ao24, co24, eo24⟩ := Kd.S_slice HO_6.out; subst eo24) | (go_at_call 29; (with_reducible refine (jacquardref02_Edge.calls k3 _ _ t423 x7_2 x8_3 t428 _ ?side1 ?side2 A21.out).mono ?_); (case side1 => repeat (first | exact (Kd.S_reads' HO_6.out).2.2 | (with_reducible refine Kd.C_alloc ?_ _) | (with_reducible refine Kd.C_drewN ?_ _) | (with_reducible refine Kd.C_drew ?_))); (case side2 => exact (Kd.S_reads' HO_6.out).2.1); rintro e w' ⟨rfl, ⟨nd, rfl⟩⟩))
                        go_roundg k3
                        case measure => have := HJ5.out; have := HK2.out; have := HK3.out; omega
                        case rel => exact ⟨(wrap64 (x8_3 + 1)), (by first | rfl | (simp; done) | (simp [*]; done)), H', ⟨by have := HJ5.out; have := HK2.out; have := HK3.out; omega⟩, ⟨by (with_reducible repeat (first | apply Kd.S_alloc | apply Kd.S_drewN | apply Kd.S_drew)); exact HO_4.out⟩, ⟨by (with_reducible repeat (first | apply Kd.S_alloc | apply Kd.S_drewN | apply Kd.S_drew)); exact HO_5.out⟩, ⟨by (with_reducible repeat (first | apply Kd.S_alloc | apply Kd.S_drewN | apply Kd.S_drew)); exact HO_6.out⟩, ⟨by repeat (first | (with_reducible first | exact HB.out | apply below_alloc | apply pw_below_drewN | apply below_drew1) | exact HB.out)⟩⟩
                  · rw [if_neg c17] at H
                    have c17b0 : decide (x8_3 < (t417.length : Int)) = false := decide_eq_false c17
                    clear c17
                    have H' := Aside0.mk H
                    clear H
                    go_wp2
                    go_roundg k3
                    case measure => have := HJ5.out; have := HK2.out; have := HK3.out; omega
                    case rel => exact ⟨(wrap64 (x7_2 + 1)), (by first | rfl | (simp; done) | (simp [*]; done)), H', ⟨by have := HJ5.out; have := HK2.out; have := HK3.out; omega⟩, ⟨by (with_reducible repeat (first | apply Kd.S_alloc | apply Kd.S_drewN | apply Kd.S_drew)); exact HO_4.out⟩, ⟨by (with_reducible repeat (first | apply Kd.S_alloc | apply Kd.S_drewN | apply Kd.S_drew)); exact HO_5.out⟩, ⟨by (with_reducible repeat (first | apply Kd.S_alloc | apply Kd.S_drewN | apply Kd.S_drew)); exact HO_6.out⟩, ⟨by repeat (first | (with_reducible first | exact HB.out | apply below_alloc | apply pw_below_drewN | apply below_drew1) | exact HB.out)⟩⟩
            · rw [if_neg c16] at H
              have c16b0 : decide (x7_2 < (t417.length : Int)) = false := decide_eq_false c16
              clear c16
              obtain rfl := Option.some.inj H
              go_wp2
              go_ret
              exact ⟨by first | rfl | (simp [errW_none, errW_some] <;> rfl) | (simp [*, errW_none, errW_some] <;> rfl), by repeat (first | (with_reducible first | exact HB.out | apply below_alloc | apply pw_below_drewN | apply below_drew1) | exact HB.out)⟩

/-- THE ONE PURE STATEMENT of jacquardlaw02_GraphTurns: yours. -/
def jacquardlaw02_GraphTurns.Pure : Prop := ∀ (l0 : List Int), l0.length ≤ maxLen → l0.length * 8 ≤ 140737488351232 → (∀ x ∈ l0, (Lit.int .i64 x).wf = true) → ∃ k, jacquardlaw02_GraphTurns.f k l0 = some true
theorem jacquardlaw02_GraphTurns.walk (P : jacquardlaw02_GraphTurns.Pure) (a0 : Option Addr) (len0 cap0 : Nat) (z0 : List Int) (w : World) (w0 : (a0 = none ∧ len0 = 0 ∧ cap0 = 0 ∧ z0 = []) ∨ ∃ x, a0 = some x ∧ len0 ≤ cap0 ∧ cap0 ≤ maxLen ∧ z0.length = cap0 ∧ (∀ i, i < z0.length → w.cell? (x.add i) = some (.int .i64 (z0.getD i 0))) ∧ ∀ n ∈ z0, (Lit.int .i64 n).wf = true) (y0 : len0 * 8 ≤ 140737488351232) :
    Calls Try.prog 10 #[.slice a0 len0 cap0] w fun e w' => e = .returned (.bool true) ∧ Below w.heap.size w w' := by
  obtain ⟨l0, rfl, hr0, hm0, hw0, hc0⟩ := ReadsInt.ofRowC w0
  obtain ⟨k, h⟩ := P l0 hm0 y0 hw0
  refine (jacquardlaw02_GraphTurns.calls k _ _ l0 true w (Kd.C_of_reads (d := (0 : Int)) (h1 := fun _ => rfl) hr0) hc0 h).mono ?_
  rintro e w' ⟨rfl, hd⟩
  exact ⟨rfl, hd⟩

end Go.Proofs.Ytnmeomdjhjgnfaa.X
