/- Parts of the proof of GraphTells: X6, X7, X8, X9, X10, X11, X12. -/
import Derived.Test.YtnmeomdjhjgnfaaB1
section
-- written by a driver of this session (wip/xprint.py) over the kit's print, for this claim; Lean checks it
namespace Go.Proofs.Ytnmeomdjhjgnfaa.X
open Go.RowKit Go.Proofs.YtnmeomdjhjgnfaaW.PrintWords Go.Proofs.YtnmeomdjhjgnfaaW.PrintLast
attribute [local go_sem] min2_int min_two
set_option linter.unusedVariables false
set_option linter.unusedSimpArgs false

/-! ### jacquardref02_Preds: function 62 -/
mutual
def jacquardref02_Preds.l0 : Nat → List (List Int) → List (List Int) → Int → Option ((List (List Int)))
  | 0, _, _, _ => none
  | k + 1, x0, x3, x4 => if x4 < (x0.length : Int) then (jacquardref02_Preds.l1 k x0 x3 x4 ([] : List Int) 0) else (some x3)
def jacquardref02_Preds.l1 : Nat → List (List Int) → List (List Int) → Int → List Int → Int → Option ((List (List Int)))
  | 0, _, _, _, _, _ => none
  | k + 1, x0, x3, x4, x5, x6 => if x6 < (x0.length : Int) then ((jacquardref02_Edge.f k x0 x6 x4).bind fun t145 => (if t145 = true then (if x5.length < 17592186044416 then (jacquardref02_Preds.l1 k x0 x3 x4 (x5 ++ [x6]) (wrap64 (x6 + 1))) else (none)) else (jacquardref02_Preds.l1 k x0 x3 x4 x5 (wrap64 (x6 + 1))))) else (if x3.length < 5864062014805 then (jacquardref02_Preds.l0 k x0 (x3 ++ [x5]) (wrap64 (x4 + 1))) else (none))
end
def jacquardref02_Preds.f (k : Nat) (l0 : List (List Int)) : Option ((List (List Int))) := jacquardref02_Preds.l0 k l0 ([] : List (List Int)) 0
theorem jacquardref02_Preds.mono_l : ∀ k, (∀ y0 y1 y2, LeO (jacquardref02_Preds.l0 k y0 y1 y2) (jacquardref02_Preds.l0 (k + 1) y0 y1 y2)) ∧ (∀ y0 y1 y2 y3 y4, LeO (jacquardref02_Preds.l1 k y0 y1 y2 y3 y4) (jacquardref02_Preds.l1 (k + 1) y0 y1 y2 y3 y4))
  | 0 => ⟨fun _ _ _ r h => by simp [jacquardref02_Preds.l0] at h, fun _ _ _ _ _ r h => by simp [jacquardref02_Preds.l1] at h⟩
  | k + 1 => by
    obtain ⟨ih0, ih1⟩ := jacquardref02_Preds.mono_l k
    refine ⟨?_, ?_⟩
    · intro y0 y1 y2
      unfold jacquardref02_Preds.l0
      repeat' first | (with_reducible exact LeO.refl _) | (with_reducible refine LeO.ite ?_ ?_) | (with_reducible refine LeO.bind ?_ (fun _ => ?_)) | exact LeO.none _ | exact ih0 _ _ _ | exact ih1 _ _ _ _ _ | exact jacquardref02_Edge.mono _ _ _ _ | refine LeO.ite ?_ ?_ | refine LeO.bind ?_ (fun _ => ?_)
    · intro y0 y1 y2 y3 y4
      unfold jacquardref02_Preds.l1
      repeat' first | (with_reducible exact LeO.refl _) | (with_reducible refine LeO.ite ?_ ?_) | (with_reducible refine LeO.bind ?_ (fun _ => ?_)) | exact LeO.none _ | exact ih0 _ _ _ | exact ih1 _ _ _ _ _ | exact jacquardref02_Edge.mono _ _ _ _ | refine LeO.ite ?_ ?_ | refine LeO.bind ?_ (fun _ => ?_)
theorem jacquardref02_Preds.mono : ∀ a0 k, LeO (jacquardref02_Preds.f k a0) (jacquardref02_Preds.f (k + 1) a0) := by
  intro a0 k
  obtain ⟨ih0, ih1⟩ := jacquardref02_Preds.mono_l k
  unfold jacquardref02_Preds.f
  repeat' first | (with_reducible exact LeO.refl _) | (with_reducible refine LeO.ite ?_ ?_) | (with_reducible refine LeO.bind ?_ (fun _ => ?_)) | exact LeO.none _ | exact ih0 _ _ _ | exact ih1 _ _ _ _ _ | exact jacquardref02_Edge.mono _ _ _ _ | refine LeO.ite ?_ ?_ | refine LeO.bind ?_ (fun _ => ?_)
set_option maxHeartbeats 8000000 in
set_option maxRecDepth 100000 in
theorem jacquardref02_Preds.calls (k : Nat) (A0 : Option Addr) (c0 : Nat) (l0 : List (List Int)) (r : List (List Int)) (w : World) (hr0 : Kd.C (Kd.slice 3 (Kd.int .i64)) w A0 l0.length l0) (hc0 : l0.length ≤ c0) (h : jacquardref02_Preds.f k l0 = some r) :
    Calls Try.prog 62 #[.slice A0 l0.length c0] w fun e w' => ∃ v0_ : Value, e = .returned (v0_) ∧ Kd.S (Kd.slice 3 (Kd.int .i64)) 23 w' w.heap.size (fun _ => True) v0_ r ∧ Below w.heap.size w w' := by
  have HR0 := Aside0.mk hr0
  have HC0 := Aside0.mk hc0
  clear hr0 hc0
  have HB := Aside0.mk (Below.refl w.heap.size w)
  have H : (jacquardref02_Preds.l0 k l0 ([] : List (List Int)) 0) = some r := h
  clear h
  have H' := Aside0.mk H
  clear H
  go_enter Try.func62, Try.ntmps62
  go_wp2
  go_loopg [3, 4] k (fun kq v3 v4 w' => ∃ (x3_1 : List (List Int)) (x4_1 : Int), v4 = .int .i64 x4_1 ∧ Aside0 (jacquardref02_Preds.l0 kq l0 x3_1 x4_1 = some r) ∧ Aside0 (kq ≤ k) ∧ Aside0 (Kd.S (Kd.slice 3 (Kd.int .i64)) 23 w' w.heap.size (fun _ => True) v3 x3_1) ∧ Aside0 (Below w.heap.size w w'))
  case atStart => exact ⟨(([] : List (List Int))), (0), (by first | rfl | (simp; done) | (simp [*]; done)), H', ⟨Nat.le_refl _⟩, ⟨by first | exact Kd.S_nil _ _ _ _ _ | exact Kd.N_nil _ _ _ _ _ | exact Kd.V_nil _ _ _ _ _ | exact Kd.Q_nil _ _ _ _ _ | exact Kd.R_nil _ _ _ _ _⟩, ⟨by repeat (first | exact HB.out | apply below_alloc | apply pw_below_drewN | apply below_drew1)⟩⟩
  case round =>
    clear H'
    obtain ⟨x3_1, x4_1, rfl, HA, HK1, HO_3, HB⟩ := hrel
    cases gk with
    | zero => exact absurd HA.out (by simp [jacquardref02_Preds.l0])
    | succ k1 =>
      have H := HA.out
      clear HA
      simp only [jacquardref02_Preds.l0] at H
      by_cases c2 : x4_1 < (l0.length : Int)
      · rw [if_pos c2] at H
        have c2b0 : decide (x4_1 < (l0.length : Int)) = true := decide_eq_true c2
        clear c2
        have H' := Aside0.mk H
        clear H
        go_wp2
        go_loopg [5, 6] k1 (fun kq v5 v6 w' => ∃ (x5_2 : List Int) (x6_2 : Int), v6 = .int .i64 x6_2 ∧ Aside0 (jacquardref02_Preds.l1 kq l0 x3_1 x4_1 x5_2 x6_2 = some r) ∧ Aside0 (kq ≤ k1) ∧ Aside0 (Kd.S (Kd.slice 3 (Kd.int .i64)) 23 w' w.heap.size (fun k_ => some k_ ≠ (v5 : Value).ownBlock) u3 x3_1) ∧ Aside0 (Kd.R (Kd.int .i64) 3 w' w.heap.size (fun _ => True) v5 x5_2) ∧ Aside0 (Below w.heap.size w w'))
        case atStart => exact ⟨(([] : List Int)), (0), (by first | rfl | (simp; done) | (simp [*]; done)), H', ⟨Nat.le_refl _⟩, ⟨by (with_reducible repeat (first | apply Kd.S_alloc | apply Kd.S_drewN | apply Kd.S_drew)); exact Kd.S_mono HO_3.out (fun _ hk => (by simp [Value.ownBlock]))⟩, ⟨by first | exact Kd.R_nil _ _ _ _ _ | exact Kd.N_nil _ _ _ _ _ | exact Kd.V_nil _ _ _ _ _ | exact Kd.Q_nil _ _ _ _ _ | exact Kd.S_nil _ _ _ _ _⟩, ⟨by repeat (first | exact HB.out | apply below_alloc | apply pw_below_drewN | apply below_drew1)⟩⟩
        case round =>
          clear H'; (try clear c2); (try clear c2b0); (try clear p2)
          obtain ⟨x5_2, x6_2, rfl, HA, HK2, HO_3, HO_5, HB⟩ := hrel
          cases gk with
          | zero => exact absurd HA.out (by simp [jacquardref02_Preds.l1])
          | succ k2 =>
            have H := HA.out
            clear HA
            simp only [jacquardref02_Preds.l1] at H
            by_cases c3 : x6_2 < (l0.length : Int)
            · rw [if_pos c3] at H
              have c3b0 : decide (x6_2 < (l0.length : Int)) = true := decide_eq_true c3
              clear c3
              replace H := Option.bind_eq_some_iff.mp H
              obtain ⟨t145, A40, H⟩ := H
              have A4 := Aside0.mk A40
              clear A40
              by_cases c5 : t145 = true
              · subst c5
                rw [if_pos rfl] at H
                by_cases c6 : x5_2.length < 17592186044416
                · rw [if_pos c6] at H
                  have LMc6 := Aside0.mk c6
                  clear c6
                  obtain ⟨y146, hy146⟩ : ∃ y_ : List Int, y_ = (x5_2 ++ [x6_2]) := ⟨_, rfl⟩
                  replace H : (jacquardref02_Preds.l1 k2 l0 x3_1 x4_1 y146 (wrap64 (x6_2 + 1))) = some r := by first | (rw [hy146]; with_reducible exact H) | (have H2_ := (Option.bind_some _ _).symm.trans H; rw [hy146]; with_reducible exact H2_) | (have H2_ := (Option.bind_some _ _).symm.trans H; with_reducible exact H2_) | with_reducible exact H | (rw [hy146]; exact H) | exact H
                  have Ny146 := Aside0.mk hy146
                  clear hy146
                  have H' := Aside0.mk H
                  clear H
                  go_wp2_with (first | ((with_reducible refine gate_callee (f := 29) rfl ?_); refine goesL_ (some 23) rfl rfl Try.func29 (by kernel_rfl) rfl #[.slice A0 l0.length c0, .int .i64 x6_2, .int .i64 x4_1] rfl (by (try simp only [List.map_toArray, List.map_cons, List.map_nil]); first | done | rfl | (simp only [List.length_drop, List.length_take]; rfl)) ?_; (with_reducible refine (jacquardref02_Edge.calls k2 _ _ l0 x6_2 x4_1 true _ ?side1 ?side2 A4.out).mono ?_); (case side1 => repeat (first | exact (Kd.C_below HR0.out HB.out) | (with_reducible refine Kd.C_alloc ?_ _) | (with_reducible refine Kd.C_drewN ?_ _) | (with_reducible refine Kd.C_drew ?_))); (case side2 => exact HC0.out); rintro e w' ⟨rfl, ⟨nd, rfl⟩⟩; refine ⟨_, rfl, ?_⟩) | ((with_reducible refine gate_builtin (b := .append) (xs := #[.tmp 25, .tmp 27]) rfl ?_); at_builtin; refine Kd.R_append (Kd.int .i64) (w0 := w) w.heap.size rfl (.tmp 25) (.tmp 27) 23 3 (.int .i64 0) 8 rfl Try.underlying23 info3 rfl (by decide) (by omega) u5 x5_2 x6_2 [.int .i64 x6_2] (fun _ => True) (fun _ => False) rfl rfl ?aP (fun _ hk => hk.elim) ?aF ?aO ?aB ?aS ?aL ?_; (case aP => exact rfl); (case aB => exact (by repeat (first | exact HB.out | apply below_alloc | apply pw_below_drewN | apply below_drew1))); (case aF => exact (fun _ _ => trivial)); (case aO => exact (by (with_reducible repeat (first | apply Kd.R_alloc | apply Kd.R_drewN | apply Kd.R_drew)); exact HO_5.out)); (case aS => exact (below_size (by repeat (first | exact HB.out | apply below_alloc | apply pw_below_drewN | apply below_drew1)))); (case aL => have := LMc6.out; omega); intro v147 w7 ho hb hg hat; rw [← Ny146.out] at ho; have n0_ := Aside0.mk (Kd.S_after (ok := (fun _ => True)) (by (with_reducible repeat (first | apply Kd.S_alloc | apply Kd.S_drewN | apply Kd.S_drew)); exact Kd.S_mono HO_3.out (fun _ hk => ⟨trivial, hk⟩)) hg hat); have n1_ := Aside0.mk (hb); have n2_ := Aside0.mk (ho); clear HO_3; clear HB; clear HO_5; have HO_3 := n0_; have HB := n1_; have HO148 := n2_; clear n0_ n1_ n2_; clear ho hb hg hat))
                  go_roundg k2
                  case measure => have := HK1.out; have := HK2.out; omega
                  case rel => exact ⟨(y146), (wrap64 (x6_2 + 1)), (by first | rfl | (simp; done) | (simp [*]; done)), H', ⟨by have := HK1.out; have := HK2.out; omega⟩, ⟨by (with_reducible repeat (first | apply Kd.S_alloc | apply Kd.S_drewN | apply Kd.S_drew)); exact Kd.S_mono HO_3.out (fun _ hk => hk.2)⟩, ⟨by (with_reducible repeat (first | apply Kd.R_alloc | apply Kd.R_drewN | apply Kd.R_drew)); exact HO148.out⟩, ⟨by repeat (first | exact HB.out | apply below_alloc | apply pw_below_drewN | apply below_drew1)⟩⟩
                · rw [if_neg c6] at H
                  exact absurd H (by simp)
              · replace c5 := Bool.eq_false_iff.mpr c5
                subst c5
                rw [if_neg (show ¬ (false = true) by decide)] at H
                have H' := Aside0.mk H
                clear H
                go_wp2_with (first | ((with_reducible refine gate_callee (f := 29) rfl ?_); refine goesL_ (some 23) rfl rfl Try.func29 (by kernel_rfl) rfl #[.slice A0 l0.length c0, .int .i64 x6_2, .int .i64 x4_1] rfl (by (try simp only [List.map_toArray, List.map_cons, List.map_nil]); first | done | rfl | (simp only [List.length_drop, List.length_take]; rfl)) ?_; (with_reducible refine (jacquardref02_Edge.calls k2 _ _ l0 x6_2 x4_1 false _ ?side1 ?side2 A4.out).mono ?_); (case side1 => repeat (first | exact (Kd.C_below HR0.out HB.out) | (with_reducible refine Kd.C_alloc ?_ _) | (with_reducible refine Kd.C_drewN ?_ _) | (with_reducible refine Kd.C_drew ?_))); (case side2 => exact HC0.out); rintro e w' ⟨rfl, ⟨nd, rfl⟩⟩; refine ⟨_, rfl, ?_⟩))
                go_roundg k2
                case measure => have := HK1.out; have := HK2.out; omega
                case rel => exact ⟨(x5_2), (wrap64 (x6_2 + 1)), (by first | rfl | (simp; done) | (simp [*]; done)), H', ⟨by have := HK1.out; have := HK2.out; omega⟩, ⟨by (with_reducible repeat (first | apply Kd.S_alloc | apply Kd.S_drewN | apply Kd.S_drew)); exact HO_3.out⟩, ⟨by (with_reducible repeat (first | apply Kd.R_alloc | apply Kd.R_drewN | apply Kd.R_drew)); exact HO_5.out⟩, ⟨by repeat (first | exact HB.out | apply below_alloc | apply pw_below_drewN | apply below_drew1)⟩⟩
            · rw [if_neg c3] at H
              have c3b0 : decide (x6_2 < (l0.length : Int)) = false := decide_eq_false c3
              clear c3
              by_cases c8 : x3_1.length < 5864062014805
              · rw [if_pos c8] at H
                have LMc8 := Aside0.mk c8
                clear c8
                obtain ⟨y149, hy149⟩ : ∃ y_ : List (List Int), y_ = (x3_1 ++ [x5_2]) := ⟨_, rfl⟩
                replace H : (jacquardref02_Preds.l0 k2 l0 y149 (wrap64 (x4_1 + 1))) = some r := by first | (rw [hy149]; with_reducible exact H) | (have H2_ := (Option.bind_some _ _).symm.trans H; rw [hy149]; with_reducible exact H2_) | (have H2_ := (Option.bind_some _ _).symm.trans H; with_reducible exact H2_) | with_reducible exact H | (rw [hy149]; exact H) | exact H
                have Ny149 := Aside0.mk hy149
                clear hy149
                have H' := Aside0.mk H
                clear H
                obtain ⟨Ao10, co10, eo10⟩ := Kd.R_slice HO_5.out
                subst eo10
                go_wp2_with (first | ((with_reducible refine gate_builtin (b := .append) (xs := #[.tmp 29, .tmp 31]) rfl ?_); at_builtin; refine Kd.S_append (Kd.slice 3 (Kd.int .i64)) (w0 := w) w.heap.size rfl (.tmp 29) (.tmp 31) 22 23 (.slice none 0 0) 24 rfl Try.underlying22 info23 rfl (by decide) (by omega) u3 x3_1 x5_2 [.slice Ao10 x5_2.length co10] (fun _ => True) (fun k_ => some k_ = (.slice Ao10 x5_2.length co10 : Value).ownBlock) rfl rfl ?aP (fun k_ hk_ => ((Kd.R_mono (ok' := fun k_ => ((fun _ => True)) k_ ∧ some k_ ≠ (u3 : Value).ownBlock) (Kd.R_apart' (HO_5.out) (Kd.S_typed HO_3.out) (by decide)) (fun k_ hk => ⟨trivial, hk.2⟩))).1 k_ hk_.symm) ?aF ?aO ?aB ?aS ?aL ?_; (case aP => exact Kd.M_row (Kd.R_mono (Kd.R_tight rfl (Kd.R_mono (ok' := fun k_ => ((fun _ => True)) k_ ∧ some k_ ≠ (u3 : Value).ownBlock) (Kd.R_apart' (HO_5.out) (Kd.S_typed HO_3.out) (by decide)) (fun k_ hk => ⟨trivial, hk.2⟩))) (fun _ h_ => h_))); (case aB => exact (by repeat (first | exact HB.out | apply below_alloc | apply pw_below_drewN | apply below_drew1))); (case aF => exact (fun _ _ => trivial)); (case aO => exact (by (with_reducible repeat (first | apply Kd.S_alloc | apply Kd.S_drewN | apply Kd.S_drew)); exact Kd.S_mono HO_3.out (fun k_ hk => ⟨trivial, fun e_ => hk e_⟩))); (case aS => exact (below_size (by repeat (first | exact HB.out | apply below_alloc | apply pw_below_drewN | apply below_drew1)))); (case aL => have := LMc8.out; omega); intro v150 w9 ho hb hg hat; rw [← Ny149.out] at ho; have n0_ := Aside0.mk (hb); have n1_ := Aside0.mk (ho); clear HB; clear HO_3; clear HO_5; have HB := n0_; have HO151 := n1_; clear n0_ n1_; clear ho hb hg hat))
                go_roundg k2
                case measure => have := HK1.out; have := HK2.out; omega
                case rel => exact ⟨(y149), (wrap64 (x4_1 + 1)), (by first | rfl | (simp; done) | (simp [*]; done)), H', ⟨by have := HK1.out; have := HK2.out; omega⟩, ⟨by (with_reducible repeat (first | apply Kd.S_alloc | apply Kd.S_drewN | apply Kd.S_drew)); exact HO151.out⟩, ⟨by repeat (first | exact HB.out | apply below_alloc | apply pw_below_drewN | apply below_drew1)⟩⟩
              · rw [if_neg c8] at H
                exact absurd H (by simp)
      · rw [if_neg c2] at H
        have c2b0 : decide (x4_1 < (l0.length : Int)) = false := decide_eq_false c2
        clear c2
        obtain rfl := Option.some.inj H
        go_wp2
        go_ret
        exact ⟨_, by first | rfl | (simp [errW_none, errW_some] <;> rfl) | (simp [*, errW_none, errW_some] <;> rfl), by (with_reducible repeat (first | apply Kd.S_alloc | apply Kd.S_drewN | apply Kd.S_drew)); exact HO_3.out, by repeat (first | exact HB.out | apply below_alloc | apply pw_below_drewN | apply below_drew1)⟩

def jacquardref02_next.l0 : Nat → List (List Int) → Int → List Int → Int → Option (List Int)
  | 0, _, _, _, _ => none
  | k + 1, x0, x1, x5, x6 => if x6 < (x0.length : Int) then ((jacquardref02_Edge.f k x0 x1 x6).bind fun t152 => (if t152 = true then (if x5.length < 17592186044416 then (jacquardref02_next.l0 k x0 x1 (x5 ++ [x6]) (wrap64 (x6 + 1))) else (none)) else (jacquardref02_next.l0 k x0 x1 x5 (wrap64 (x6 + 1))))) else (some x5)
def jacquardref02_next.f (k : Nat) (l0 : List (List Int)) (a1 : Int) : Option (List Int) := jacquardref02_next.l0 k l0 a1 ([] : List Int) 0
theorem jacquardref02_next.mono_l : ∀ k, (∀ y0 y1 y2 y3, LeO (jacquardref02_next.l0 k y0 y1 y2 y3) (jacquardref02_next.l0 (k + 1) y0 y1 y2 y3))
  | 0 => fun _ _ _ _ r h => by simp [jacquardref02_next.l0] at h
  | k + 1 => by
    have ih0 := jacquardref02_next.mono_l k
    · intro y0 y1 y2 y3
      unfold jacquardref02_next.l0
      repeat' first | (with_reducible exact LeO.refl _) | (with_reducible refine LeO.ite ?_ ?_) | (with_reducible refine LeO.bind ?_ (fun _ => ?_)) | exact LeO.none _ | exact ih0 _ _ _ _ | exact jacquardref02_Edge.mono _ _ _ _ | refine LeO.ite ?_ ?_ | refine LeO.bind ?_ (fun _ => ?_)
theorem jacquardref02_next.mono : ∀ a0 a1 k, LeO (jacquardref02_next.f k a0 a1) (jacquardref02_next.f (k + 1) a0 a1) := by
  intro a0 a1 k
  have ih0 := jacquardref02_next.mono_l k
  unfold jacquardref02_next.f
  repeat' first | (with_reducible exact LeO.refl _) | (with_reducible refine LeO.ite ?_ ?_) | (with_reducible refine LeO.bind ?_ (fun _ => ?_)) | exact LeO.none _ | exact ih0 _ _ _ _ | exact jacquardref02_Edge.mono _ _ _ _ | refine LeO.ite ?_ ?_ | refine LeO.bind ?_ (fun _ => ?_)
set_option maxHeartbeats 8000000 in
set_option maxRecDepth 100000 in
theorem jacquardref02_next.calls (k : Nat) (A0 : Option Addr) (c0 : Nat) (l0 : List (List Int)) (a1 : Int) (r : List Int) (w : World) (hr0 : Kd.C (Kd.slice 3 (Kd.int .i64)) w A0 l0.length l0) (hc0 : l0.length ≤ c0) (h : jacquardref02_next.f k l0 a1 = some r) :
    Calls Try.prog 72 #[.slice A0 l0.length c0, .int .i64 a1] w fun e w' => ∃ v0_ : Value, e = .returned (v0_) ∧ Kd.R (Kd.int .i64) 3 w' w.heap.size (fun _ => True) v0_ r ∧ Below w.heap.size w w' := by
  have HR0 := Aside0.mk hr0
  have HC0 := Aside0.mk hc0
  clear hr0 hc0
  have HB := Aside0.mk (Below.refl w.heap.size w)
  have H : (jacquardref02_next.l0 k l0 a1 ([] : List Int) 0) = some r := h
  clear h
  have H' := Aside0.mk H
  clear H
  go_enter Try.func72, Try.ntmps72
  go_wp2
  go_loopg [5, 6] k (fun kq v5 v6 w' => ∃ (x5_1 : List Int) (x6_1 : Int), v6 = .int .i64 x6_1 ∧ Aside0 (jacquardref02_next.l0 kq l0 a1 x5_1 x6_1 = some r) ∧ Aside0 (kq ≤ k) ∧ Aside0 (Kd.R (Kd.int .i64) 3 w' w.heap.size (fun _ => True) v5 x5_1) ∧ Aside0 (Below w.heap.size w w'))
  case atStart => exact ⟨(([] : List Int)), (0), (by first | rfl | (simp; done) | (simp [*]; done)), H', ⟨Nat.le_refl _⟩, ⟨by first | exact Kd.R_nil _ _ _ _ _ | exact Kd.N_nil _ _ _ _ _ | exact Kd.V_nil _ _ _ _ _ | exact Kd.Q_nil _ _ _ _ _ | exact Kd.S_nil _ _ _ _ _⟩, ⟨by repeat (first | exact HB.out | apply below_alloc | apply pw_below_drewN | apply below_drew1)⟩⟩
  case round =>
    clear H'; (try clear p2)
    obtain ⟨x5_1, x6_1, rfl, HA, HK1, HO_5, HB⟩ := hrel
    cases gk with
    | zero => exact absurd HA.out (by simp [jacquardref02_next.l0])
    | succ k1 =>
      have H := HA.out
      clear HA
      simp only [jacquardref02_next.l0] at H
      by_cases c3 : x6_1 < (l0.length : Int)
      · rw [if_pos c3] at H
        have c3b0 : decide (x6_1 < (l0.length : Int)) = true := decide_eq_true c3
        clear c3
        replace H := Option.bind_eq_some_iff.mp H
        obtain ⟨t152, A40, H⟩ := H
        have A4 := Aside0.mk A40
        clear A40
        by_cases c5 : t152 = true
        · subst c5
          rw [if_pos rfl] at H
          by_cases c6 : x5_1.length < 17592186044416
          · rw [if_pos c6] at H
            have LMc6 := Aside0.mk c6
            clear c6
            obtain ⟨y153, hy153⟩ : ∃ y_ : List Int, y_ = (x5_1 ++ [x6_1]) := ⟨_, rfl⟩
            replace H : (jacquardref02_next.l0 k1 l0 a1 y153 (wrap64 (x6_1 + 1))) = some r := by first | (rw [hy153]; with_reducible exact H) | (have H2_ := (Option.bind_some _ _).symm.trans H; rw [hy153]; with_reducible exact H2_) | (have H2_ := (Option.bind_some _ _).symm.trans H; with_reducible exact H2_) | with_reducible exact H | (rw [hy153]; exact H) | exact H
            have Ny153 := Aside0.mk hy153
            clear hy153
            have H' := Aside0.mk H
            clear H
            go_wp2_with (first | ((with_reducible refine gate_callee (f := 29) rfl ?_); refine goesL_ (some 17) rfl rfl Try.func29 (by kernel_rfl) rfl #[.slice A0 l0.length c0, .int .i64 a1, .int .i64 x6_1] rfl (by (try simp only [List.map_toArray, List.map_cons, List.map_nil]); first | done | rfl | (simp only [List.length_drop, List.length_take]; rfl)) ?_; (with_reducible refine (jacquardref02_Edge.calls k1 _ _ l0 a1 x6_1 true _ ?side1 ?side2 A4.out).mono ?_); (case side1 => repeat (first | exact (Kd.C_below HR0.out HB.out) | (with_reducible refine Kd.C_alloc ?_ _) | (with_reducible refine Kd.C_drewN ?_ _) | (with_reducible refine Kd.C_drew ?_))); (case side2 => exact HC0.out); rintro e w' ⟨rfl, ⟨nd, rfl⟩⟩; refine ⟨_, rfl, ?_⟩) | ((with_reducible refine gate_builtin (b := .append) (xs := #[.tmp 19, .tmp 21]) rfl ?_); at_builtin; refine Kd.R_append (Kd.int .i64) (w0 := w) w.heap.size rfl (.tmp 19) (.tmp 21) 23 3 (.int .i64 0) 8 rfl Try.underlying23 info3 rfl (by decide) (by omega) u5 x5_1 x6_1 [.int .i64 x6_1] (fun _ => True) (fun _ => False) rfl rfl ?aP (fun _ hk => hk.elim) ?aF ?aO ?aB ?aS ?aL ?_; (case aP => exact rfl); (case aB => exact (by repeat (first | exact HB.out | apply below_alloc | apply pw_below_drewN | apply below_drew1))); (case aF => exact (fun _ _ => trivial)); (case aO => exact (by (with_reducible repeat (first | apply Kd.R_alloc | apply Kd.R_drewN | apply Kd.R_drew)); exact HO_5.out)); (case aS => exact (below_size (by repeat (first | exact HB.out | apply below_alloc | apply pw_below_drewN | apply below_drew1)))); (case aL => have := LMc6.out; omega); intro v154 w7 ho hb hg hat; rw [← Ny153.out] at ho; have n0_ := Aside0.mk (hb); have n1_ := Aside0.mk (ho); clear HB; clear HO_5; have HB := n0_; have HO155 := n1_; clear n0_ n1_; clear ho hb hg hat))
            go_roundg k1
            case measure => have := HK1.out; omega
            case rel => exact ⟨(y153), (wrap64 (x6_1 + 1)), (by first | rfl | (simp; done) | (simp [*]; done)), H', ⟨by have := HK1.out; omega⟩, ⟨by (with_reducible repeat (first | apply Kd.R_alloc | apply Kd.R_drewN | apply Kd.R_drew)); exact HO155.out⟩, ⟨by repeat (first | exact HB.out | apply below_alloc | apply pw_below_drewN | apply below_drew1)⟩⟩
          · rw [if_neg c6] at H
            exact absurd H (by simp)
        · replace c5 := Bool.eq_false_iff.mpr c5
          subst c5
          rw [if_neg (show ¬ (false = true) by decide)] at H
          have H' := Aside0.mk H
          clear H
          go_wp2_with (first | ((with_reducible refine gate_callee (f := 29) rfl ?_); refine goesL_ (some 17) rfl rfl Try.func29 (by kernel_rfl) rfl #[.slice A0 l0.length c0, .int .i64 a1, .int .i64 x6_1] rfl (by (try simp only [List.map_toArray, List.map_cons, List.map_nil]); first | done | rfl | (simp only [List.length_drop, List.length_take]; rfl)) ?_; (with_reducible refine (jacquardref02_Edge.calls k1 _ _ l0 a1 x6_1 false _ ?side1 ?side2 A4.out).mono ?_); (case side1 => repeat (first | exact (Kd.C_below HR0.out HB.out) | (with_reducible refine Kd.C_alloc ?_ _) | (with_reducible refine Kd.C_drewN ?_ _) | (with_reducible refine Kd.C_drew ?_))); (case side2 => exact HC0.out); rintro e w' ⟨rfl, ⟨nd, rfl⟩⟩; refine ⟨_, rfl, ?_⟩))
          go_roundg k1
          case measure => have := HK1.out; omega
          case rel => exact ⟨(x5_1), (wrap64 (x6_1 + 1)), (by first | rfl | (simp; done) | (simp [*]; done)), H', ⟨by have := HK1.out; omega⟩, ⟨by (with_reducible repeat (first | apply Kd.R_alloc | apply Kd.R_drewN | apply Kd.R_drew)); exact HO_5.out⟩, ⟨by repeat (first | exact HB.out | apply below_alloc | apply pw_below_drewN | apply below_drew1)⟩⟩
      · rw [if_neg c3] at H
        have c3b0 : decide (x6_1 < (l0.length : Int)) = false := decide_eq_false c3
        clear c3
        obtain rfl := Option.some.inj H
        go_wp2
        go_ret
        exact ⟨_, by first | rfl | (simp [errW_none, errW_some] <;> rfl) | (simp [*, errW_none, errW_some] <;> rfl), by (with_reducible repeat (first | apply Kd.R_alloc | apply Kd.R_drewN | apply Kd.R_drew)); exact HO_5.out, by repeat (first | exact HB.out | apply below_alloc | apply pw_below_drewN | apply below_drew1)⟩

mutual
def jacquardref02_Without.j0 : Nat → List (List Int) → Int → List Bool → Bool → Option (List Bool)
  | 0, _, _, _, _ => none
  | k + 1, x0, x1, x5, x19 => if x19 = true then (some x5) else (if 0 < (x5.length : Int) then (jacquardref02_Without.l0 k x0 x1 (x5.set (0 : Int).toNat true) 0) else (none))
def jacquardref02_Without.l0 : Nat → List (List Int) → Int → List Bool → Int → Option (List Bool)
  | 0, _, _, _, _ => none
  | k + 1, x0, x1, x5, x6 => if x6 < (x0.length : Int) then (jacquardref02_Without.l1 k x0 x1 x5 x6 0) else (some x5)
def jacquardref02_Without.l1 : Nat → List (List Int) → Int → List Bool → Int → Int → Option (List Bool)
  | 0, _, _, _, _, _ => none
  | k + 1, x0, x1, x5, x6, x7 => if x7 < (x0.length : Int) then (if 0 ≤ x7 then (if x7 < (x5.length : Int) then (if rdOf false x5 x7 = true then ((jacquardref02_next.f k x0 x7).bind fun t161 => (jacquardref02_Without.l2 k x0 x1 x5 x6 x7 t161 0)) else (jacquardref02_Without.l1 k x0 x1 x5 x6 (wrap64 (x7 + 1)))) else (none)) else (none)) else (jacquardref02_Without.l0 k x0 x1 x5 (wrap64 (x6 + 1)))
def jacquardref02_Without.l2 : Nat → List (List Int) → Int → List Bool → Int → Int → List Int → Int → Option (List Bool)
  | 0, _, _, _, _, _, _, _ => none
  | k + 1, x0, x1, x5, x6, x7, x8, x9 => if x9 < (x8.length : Int) then (if 0 ≤ x9 then (if 0 ≤ (rd x8 x9) then (if (rd x8 x9) < (x5.length : Int) then (if rdOf false x5 (rd x8 x9) = true then (jacquardref02_Without.l2 k x0 x1 (x5.set ((rd x8 x9) : Int).toNat true) x6 x7 x8 (wrap64 (x9 + 1))) else (jacquardref02_Without.l2 k x0 x1 (x5.set ((rd x8 x9) : Int).toNat ((rd x8 x9) != x1)) x6 x7 x8 (wrap64 (x9 + 1)))) else (none)) else (none)) else (none)) else (jacquardref02_Without.l1 k x0 x1 x5 x6 (wrap64 (x7 + 1)))
end
def jacquardref02_Without.f (k : Nat) (l0 : List (List Int)) (a1 : Int) : Option (List Bool) := if 0 ≤ (l0.length : Int) then (if ((l0.length : Int) : Int).toNat ≤ 281474976710656 then ((some (List.replicate ((l0.length : Int) : Int).toNat false : List Bool)).bind fun y156 => (if (l0.length : Int) = 0 then (jacquardref02_Without.j0 k l0 a1 y156 true) else (jacquardref02_Without.j0 k l0 a1 y156 (a1 == 0)))) else (none)) else (none)
theorem jacquardref02_Without.mono_l : ∀ k, (∀ y0 y1 y2 y3, LeO (jacquardref02_Without.j0 k y0 y1 y2 y3) (jacquardref02_Without.j0 (k + 1) y0 y1 y2 y3)) ∧ (∀ y0 y1 y2 y3, LeO (jacquardref02_Without.l0 k y0 y1 y2 y3) (jacquardref02_Without.l0 (k + 1) y0 y1 y2 y3)) ∧ (∀ y0 y1 y2 y3 y4, LeO (jacquardref02_Without.l1 k y0 y1 y2 y3 y4) (jacquardref02_Without.l1 (k + 1) y0 y1 y2 y3 y4)) ∧ (∀ y0 y1 y2 y3 y4 y5 y6, LeO (jacquardref02_Without.l2 k y0 y1 y2 y3 y4 y5 y6) (jacquardref02_Without.l2 (k + 1) y0 y1 y2 y3 y4 y5 y6))
  | 0 => ⟨fun _ _ _ _ r h => by simp [jacquardref02_Without.j0] at h, fun _ _ _ _ r h => by simp [jacquardref02_Without.l0] at h, fun _ _ _ _ _ r h => by simp [jacquardref02_Without.l1] at h, fun _ _ _ _ _ _ _ r h => by simp [jacquardref02_Without.l2] at h⟩
  | k + 1 => by
    obtain ⟨ih0, ih1, ih2, ih3⟩ := jacquardref02_Without.mono_l k
    refine ⟨?_, ?_, ?_, ?_⟩
    · intro y0 y1 y2 y3
      unfold jacquardref02_Without.j0
      repeat' first | (with_reducible exact LeO.refl _) | (with_reducible refine LeO.ite ?_ ?_) | (with_reducible refine LeO.bind ?_ (fun _ => ?_)) | exact LeO.none _ | exact ih0 _ _ _ _ | exact ih1 _ _ _ _ | exact ih2 _ _ _ _ _ | exact ih3 _ _ _ _ _ _ _ | exact jacquardref02_next.mono _ _ _ | refine LeO.ite ?_ ?_ | refine LeO.bind ?_ (fun _ => ?_)
    · intro y0 y1 y2 y3
      unfold jacquardref02_Without.l0
      repeat' first | (with_reducible exact LeO.refl _) | (with_reducible refine LeO.ite ?_ ?_) | (with_reducible refine LeO.bind ?_ (fun _ => ?_)) | exact LeO.none _ | exact ih0 _ _ _ _ | exact ih1 _ _ _ _ | exact ih2 _ _ _ _ _ | exact ih3 _ _ _ _ _ _ _ | exact jacquardref02_next.mono _ _ _ | refine LeO.ite ?_ ?_ | refine LeO.bind ?_ (fun _ => ?_)
    · intro y0 y1 y2 y3 y4
      unfold jacquardref02_Without.l1
      repeat' first | (with_reducible exact LeO.refl _) | (with_reducible refine LeO.ite ?_ ?_) | (with_reducible refine LeO.bind ?_ (fun _ => ?_)) | exact LeO.none _ | exact ih0 _ _ _ _ | exact ih1 _ _ _ _ | exact ih2 _ _ _ _ _ | exact ih3 _ _ _ _ _ _ _ | exact jacquardref02_next.mono _ _ _ | refine LeO.ite ?_ ?_ | refine LeO.bind ?_ (fun _ => ?_)
    · intro y0 y1 y2 y3 y4 y5 y6
      unfold jacquardref02_Without.l2
      repeat' first | (with_reducible exact LeO.refl _) | (with_reducible refine LeO.ite ?_ ?_) | (with_reducible refine LeO.bind ?_ (fun _ => ?_)) | exact LeO.none _ | exact ih0 _ _ _ _ | exact ih1 _ _ _ _ | exact ih2 _ _ _ _ _ | exact ih3 _ _ _ _ _ _ _ | exact jacquardref02_next.mono _ _ _ | refine LeO.ite ?_ ?_ | refine LeO.bind ?_ (fun _ => ?_)
theorem jacquardref02_Without.mono : ∀ a0 a1 k, LeO (jacquardref02_Without.f k a0 a1) (jacquardref02_Without.f (k + 1) a0 a1) := by
  intro a0 a1 k
  obtain ⟨ih0, ih1, ih2, ih3⟩ := jacquardref02_Without.mono_l k
  unfold jacquardref02_Without.f
  repeat' first | (with_reducible exact LeO.refl _) | (with_reducible refine LeO.ite ?_ ?_) | (with_reducible refine LeO.bind ?_ (fun _ => ?_)) | exact LeO.none _ | exact ih0 _ _ _ _ | exact ih1 _ _ _ _ | exact ih2 _ _ _ _ _ | exact ih3 _ _ _ _ _ _ _ | exact jacquardref02_next.mono _ _ _ | refine LeO.ite ?_ ?_ | refine LeO.bind ?_ (fun _ => ?_)
def jacquardref02_Without.T16 : Bool × List (List Nat × List Nat) := (true, [([], []), ([], []), ([], []), ([1, 2], [1, 2]), ([3], [3]), ([], []), ([], []), ([], []), ([6, 7], [6, 7]), ([8], [8]), ([5, 9], [5, 9]), ([10], [10]), ([11], [11]), ([12], [12]), ([12], [12]), ([13, 14, 12], [12, 13, 14]), ([15, 12], [12, 15]), ([12], [12]), ([16, 17, 12], [12, 16, 17]), ([12, 18], [12, 18]), ([0, 4, 0, 1, 2, 3, 4, 5, 6, 7, 8, 9, 10, 11, 12, 13, 14, 15, 16, 17, 18, 19], [0, 4]), ([20, 19, 12, 0, 1, 2, 3, 4, 5, 6, 7, 8, 9, 10, 11, 12, 13, 14, 15, 16, 17, 18, 19], [19, 20])])
def jacquardref02_Without.B16 : List Nat := [0, 0, 0, 6, 14, 0, 0, 0, 192, 448, 992, 2016, 4064, 8160, 8160, 32736, 65504, 8160, 262112, 524256, 1048575, 2097151]
theorem jacquardref02_Without.tab16 : rtab .any (opsOf Try.f28 16) = jacquardref02_Without.T16 := by kernel_rfl
theorem jacquardref02_Without.bits16 : waitsOk jacquardref02_Without.T16.2 jacquardref02_Without.B16 = true := by kernel_rfl
set_option maxHeartbeats 8000000 in
set_option maxRecDepth 100000 in
theorem jacquardref02_Without.calls (k : Nat) (A0 : Option Addr) (c0 : Nat) (l0 : List (List Int)) (a1 : Int) (r : List Bool) (w : World) (hr0 : Kd.C (Kd.slice 3 (Kd.int .i64)) w A0 l0.length l0) (hc0 : l0.length ≤ c0) (h : jacquardref02_Without.f k l0 a1 = some r) :
    Calls Try.prog 28 #[.slice A0 l0.length c0, .int .i64 a1] w fun e w' => ∃ v0_ : Value, e = .returned (v0_) ∧ Kd.R Kd.bool 4 w' w.heap.size (fun _ => True) v0_ r ∧ Below w.heap.size w w' := by
  have HR0 := Aside0.mk hr0
  have HC0 := Aside0.mk hc0
  clear hr0 hc0
  have HB := Aside0.mk (Below.refl w.heap.size w)
  have H : (if 0 ≤ (l0.length : Int) then (if ((l0.length : Int) : Int).toNat ≤ 281474976710656 then ((some (List.replicate ((l0.length : Int) : Int).toNat false : List Bool)).bind fun y156 => (if (l0.length : Int) = 0 then (jacquardref02_Without.j0 k l0 a1 y156 true) else (jacquardref02_Without.j0 k l0 a1 y156 (a1 == 0)))) else (none)) else (none)) = some r := h
  clear h
  by_cases c3 : 0 ≤ (l0.length : Int)
  · rw [if_pos c3] at H
    have c3b0 := eq_true c3
    have c3b1 : decide (0 ≤ (l0.length : Int)) = true := decide_eq_true c3
    clear c3
    by_cases c4 : ((l0.length : Int) : Int).toNat ≤ 281474976710656
    · rw [if_pos c4] at H
      have c4b0 := eq_true c4
      have c4b1 : decide (((l0.length : Int) : Int).toNat ≤ 281474976710656) = true := decide_eq_true c4
      clear c4
      obtain ⟨y156, hy156⟩ : ∃ y_ : List Bool, y_ = (List.replicate ((l0.length : Int) : Int).toNat false) := ⟨_, rfl⟩
      replace H : (if (l0.length : Int) = 0 then (jacquardref02_Without.j0 k l0 a1 y156 true) else (jacquardref02_Without.j0 k l0 a1 y156 (a1 == 0))) = some r := by first | (rw [hy156]; with_reducible exact H) | (have H2_ := (Option.bind_some _ _).symm.trans H; rw [hy156]; with_reducible exact H2_) | (have H2_ := (Option.bind_some _ _).symm.trans H; with_reducible exact H2_) | with_reducible exact H | (rw [hy156]; exact H) | exact H
      have Ny156 := Aside0.mk hy156
      clear hy156
      have HC5 := Aside0.mk H
      clear H
      go_enter Try.func28, Try.ntmps28
      go_upto_region 2 with (first | ((with_reducible refine gate_dst (N := 12) rfl ?_); refine Kd.R_make Kd.bool _ 4 rfl (N := 12) rfl 32 _ _ rfl (l0.length : Int) rfl rfl Try.underlying32 (.bool false) 1 info4 rfl (by decide) (by omega) false (ok := fun _ => True) (okp := fun _ => True) rfl (fun _ hk => hk) trivial (of_decide_eq_true (by first | (with_reducible assumption) | assumption)) (Nat.le_trans (Nat.mul_le_mul_right _ (of_decide_eq_true (by first | (with_reducible assumption) | assumption) : (l0.length : Int).toNat ≤ 281474976710656)) (by omega)) (Below.refl _ _) (Nat.le_refl _) ?_; intro v157 w6 ho7 hb hg_ hnew_; clear hg_ hnew_; (first | rw [← Ny156.out] at ho7 | (simp only [Int.reduceToNat] at ho7; rw [← Ny156.out] at ho7)); have n0_ := Aside0.mk (Kd.R_lower ho7 (below_size (by repeat (first | exact HB.out | apply below_alloc | apply pw_below_drewN | apply below_drew1)))); have n1_ := Aside0.mk (below_step (by repeat (first | exact HB.out | apply below_alloc | apply pw_below_drewN | apply below_drew1)) hb); clear HB; have HO158 := n0_; have HB := n1_; clear n0_ n1_; clear hb ho7))
      (try simp only [Act.put, List.setIfInBounds_toArray, List.set_cons_zero, List.set_cons_succ])
      go_cut [19] (fun v19 wc => ∃ (kq : Nat) (x19_4 : Bool), v19 = .bool x19_4 ∧ Aside0 (jacquardref02_Without.j0 kq l0 a1 y156 x19_4 = some r) ∧ Aside0 (kq ≤ k) ∧ Aside0 (Kd.R Kd.bool 4 wc w.heap.size (fun _ => True) v157 y156) ∧ Aside0 (Below w.heap.size w wc))
      case first =>
        have H := HC5.out
        clear HC5
        by_cases c8 : (l0.length : Int) = 0
        · rw [if_pos c8] at H
          have c8b0 : ((l0.length : Int) == 0) = true := beq_iff_eq.mpr c8
          have c8b1 : ((l0.length : Int) != 0) = false := bne_eq_false_iff_eq.mpr c8
          clear c8
          (first | rw [c8b0] | (simp only [i64_w, i32_w]; rw [c8b0]) | skip)
          have H' := Aside0.mk H
          clear H
          go_wp2
          go_meet
          case rel => exact ⟨_, (true), (by first | rfl | (simp; done) | (simp [*]; done)), H', ⟨by first | omega | exact Nat.le_refl _⟩, ⟨by (with_reducible repeat (first | apply Kd.R_alloc | apply Kd.R_drewN | apply Kd.R_drew)); exact HO158.out⟩, ⟨by repeat (first | exact HB.out | apply below_alloc | apply pw_below_drewN | apply below_drew1)⟩⟩
        · rw [if_neg c8] at H
          have c8b0 : ((l0.length : Int) == 0) = false := beq_eq_false_iff_ne.mpr c8
          have c8b1 : ((l0.length : Int) != 0) = true := bne_iff_ne.mpr c8
          have c8b2 : ¬ (l0 = []) := fun h_ => c8 (by rw [h_]; rfl)
          (first | rw [c8b0] | (simp only [i64_w, i32_w]; rw [c8b0]) | skip)
          have H' := Aside0.mk H
          clear H
          go_wp2
          go_meet
          case rel => exact ⟨_, ((a1 == 0)), (by first | rfl | (simp; done) | (simp [*]; done)), H', ⟨by first | omega | exact Nat.le_refl _⟩, ⟨by (with_reducible repeat (first | apply Kd.R_alloc | apply Kd.R_drewN | apply Kd.R_drew)); exact HO158.out⟩, ⟨by repeat (first | exact HB.out | apply below_alloc | apply pw_below_drewN | apply below_drew1)⟩⟩
      case rest =>
        clear HC5; (try clear c2); (try clear p2); (try clear c3); (try clear c3b0); (try clear c3b1); (try clear c4); (try clear c4b0); (try clear c4b1); (try clear c8); (try clear c8b0); (try clear c8b1); (try clear c8b2)
        obtain ⟨kq, x19_4, rfl, HA, HJ4, HO_5, HB⟩ := hcut
        cases kq with
        | zero => exact absurd HA.out (by simp [jacquardref02_Without.j0])
        | succ kj4 =>
          have H := HA.out
          clear HA
          simp only [jacquardref02_Without.j0] at H
          by_cases c9 : x19_4 = true
          · subst c9
            rw [if_pos rfl] at H
            obtain rfl := Option.some.inj H
            go_wp2
            go_ret
            exact ⟨_, by first | rfl | (simp [errW_none, errW_some] <;> rfl) | (simp [*, errW_none, errW_some] <;> rfl), by (with_reducible repeat (first | apply Kd.R_alloc | apply Kd.R_drewN | apply Kd.R_drew)); exact HO_5.out, by repeat (first | exact HB.out | apply below_alloc | apply pw_below_drewN | apply below_drew1)⟩
          · replace c9 := Bool.eq_false_iff.mpr c9
            subst c9
            rw [if_neg (show ¬ (false = true) by decide)] at H
            by_cases c10 : 0 < (y156.length : Int)
            · rw [if_pos c10] at H
              have c10b0 : decide (0 < (y156.length : Int)) = true := decide_eq_true c10
              have c10b1 : decide (0 < y156.length) = true := decide_eq_true (by omega)
              clear c10
              obtain ⟨y159, hy159⟩ : ∃ y_ : List Bool, y_ = (y156.set (0 : Int).toNat true) := ⟨_, rfl⟩
              replace H : (jacquardref02_Without.l0 kj4 l0 a1 y159 0) = some r := by first | (rw [hy159]; with_reducible exact H) | (have H2_ := (Option.bind_some _ _).symm.trans H; rw [hy159]; with_reducible exact H2_) | (have H2_ := (Option.bind_some _ _).symm.trans H; with_reducible exact H2_) | with_reducible exact H | (rw [hy159]; exact H) | exact H
              have Ny159 := Aside0.mk hy159
              clear hy159
              have H' := Aside0.mk H
              clear H
              have p11 : 0 ≤ (0 : Int) := (by omega)
              have q11 : (0 : Int) < ((y156.length : Int) : Int) := of_decide_eq_true (by first | (with_reducible assumption) | assumption)
              have qi11 : (0 < y156.length) = True := eq_true (by omega)
              obtain ⟨go11, co11, eo11, gb11, gl11, cl11, HG11⟩ := Kd.R_form HO_5.out (by omega)
              (first | cases eo11 | (injection eo11 with ea_ en_ ec_; (first | subst ea_ | (injection ea_ with ea_; subst ea_)); subst ec_; clear en_))
              have GB11 := Aside0.mk gb11
              have GG11 := Aside0.mk HG11
              clear gb11 gl11 HG11
              obtain ⟨hx11_0, hf11_0⟩ := Kd.R_celln false HO_5.out (0 : Int) p11 q11
              (try rw [show ((0 : Int)).toNat = 0 from rfl] at hx11_0)
              (try simp only [Nat.reduceMul, Nat.zero_mul, Nat.zero_add, Nat.reduceAdd] at hx11_0)
              (try rw [show ((0 : Int)).toNat = 0 from rfl] at hf11_0)
              (try simp only [Nat.reduceMul, Nat.zero_mul, Nat.zero_add, Nat.reduceAdd] at hf11_0)
              replace p11 := eq_true p11
              replace q11 := eq_true q11
              have HP12 := Kd.R_putg HO_5.out (0 : Int) true
              go_wp2_with (first | ((with_reducible refine gate_store (t := 4) (p := 22) rfl ?_); refine store_event (t := 4) (p := 22) (v := ?vo_w13) (w1 := (wc.setCell ⟨go11, (0 : Int).toNat, none⟩ (.bool true))) ?hg ?ho ?hn ?hr ?_; (case ho => rfl); (case hg => rfl); (case hn => rfl); (case hr => first | (go_simp; done) | (go_simp; rfl)); intro w13 hw; have hg : wc.grownBy w13 (some go11) := (by rw [hw]; exact HP12.2); have hp_ : Kd.R Kd.bool 4 w13 w.heap.size (fun _ => True) (.slice (some ⟨go11, 0, none⟩) y156.length co11) y159 := (by rw [hw, Ny159.out]; exact HP12.1); clear HP12; have n0_ := Aside0.mk (hp_); have n1_ := Aside0.mk ((by rw [hw]; exact below_set (HB.out) GB11.out : Below w.heap.size w w13)); clear HO_5; clear HB; have HO_5 := n0_; have HB := n1_; clear n0_ n1_; clear hg hw hp_))
              go_loopg [6] kj4 (fun kq v6 w' => ∃ (x5_2 : List Bool) (x6_2 : Int), v6 = .int .i64 x6_2 ∧ Aside0 (jacquardref02_Without.l0 kq l0 a1 x5_2 x6_2 = some r) ∧ Aside0 (kq ≤ kj4) ∧ Aside0 (Kd.R Kd.bool 4 w' w.heap.size (fun _ => True) (.slice (some ⟨go11, 0, none⟩) y156.length co11) x5_2) ∧ Aside0 (Below w.heap.size w w'))
              case atStart => exact ⟨(y159), (0), (by first | rfl | (simp; done) | (simp [*]; done)), H', ⟨Nat.le_refl _⟩, ⟨by (with_reducible repeat (first | apply Kd.R_alloc | apply Kd.R_drewN | apply Kd.R_drew)); exact HO_5.out⟩, ⟨by repeat (first | exact HB.out | apply below_alloc | apply pw_below_drewN | apply below_drew1)⟩⟩
              case round =>
                clear H'; (try clear c1); (try clear p1); (try clear q1); (try clear hx1); (try clear qi1); (try clear c2); (try clear p2); (try clear c3); (try clear c3b0); (try clear c3b1); (try clear c4); (try clear c4b0); (try clear c4b1); (try clear c8); (try clear c8b0); (try clear c8b1); (try clear c8b2); (try clear c9); (try clear c10); (try clear c10b0); (try clear c10b1); (try clear p11); (try clear q11); (try clear hx11); (try clear qi11); (try clear hf11); (try clear hx11_0); (try clear p11); (try clear p2); (try clear q11)
                obtain ⟨x5_2, x6_2, rfl, HA, HK2, HO_5, HB⟩ := hrel
                have hl5_2 := (Kd.R_reads' HO_5.out).1
                rw [hl5_2] at HO_5
                (try simp only [hl5_2])
                cases gk with
                | zero => exact absurd HA.out (by simp [jacquardref02_Without.l0])
                | succ k2 =>
                  have H := HA.out
                  clear HA
                  simp only [jacquardref02_Without.l0] at H
                  by_cases c14 : x6_2 < (l0.length : Int)
                  · rw [if_pos c14] at H
                    have c14b0 : decide (x6_2 < (l0.length : Int)) = true := decide_eq_true c14
                    clear c14
                    have H' := Aside0.mk H
                    clear H
                    go_wp2
                    go_loopg [7] k2 (fun kq v7 w' => ∃ (x5_3 : List Bool) (x7_3 : Int), v7 = .int .i64 x7_3 ∧ Aside0 (jacquardref02_Without.l1 kq l0 a1 x5_3 x6_2 x7_3 = some r) ∧ Aside0 (kq ≤ k2) ∧ Aside0 (Kd.R Kd.bool 4 w' w.heap.size (fun _ => True) (.slice (some ⟨go11, 0, none⟩) x5_2.length co11) x5_3) ∧ Aside0 (Below w.heap.size w w'))
                    case atStart => exact ⟨(x5_2), (0), (by first | rfl | (simp; done) | (simp [*]; done)), H', ⟨Nat.le_refl _⟩, ⟨by (try simp only [hl5_2]); (with_reducible repeat (first | apply Kd.R_alloc | apply Kd.R_drewN | apply Kd.R_drew)); exact HO_5.out⟩, ⟨by repeat (first | exact HB.out | apply below_alloc | apply pw_below_drewN | apply below_drew1)⟩⟩
                    case round =>
                      clear H'; (try clear c1); (try clear p1); (try clear q1); (try clear hx1); (try clear qi1); (try clear c2); (try clear p2); (try clear c3); (try clear c3b0); (try clear c3b1); (try clear c4); (try clear c4b0); (try clear c4b1); (try clear c8); (try clear c8b0); (try clear c8b1); (try clear c8b2); (try clear c9); (try clear c10); (try clear c10b0); (try clear c10b1); (try clear p11); (try clear q11); (try clear hx11); (try clear qi11); (try clear hf11); (try clear c14); (try clear c14b0); (try clear hx11_0); (try clear p1); (try clear p11); (try clear p2); (try clear q1); (try clear q11)
                      obtain ⟨x5_3, x7_3, rfl, HA, HK3, HO_5, HB⟩ := hrel
                      have hl5_3 := (Kd.R_reads' HO_5.out).1
                      rw [hl5_3] at HO_5
                      (try simp only [hl5_3])
                      cases gk with
                      | zero => exact absurd HA.out (by simp [jacquardref02_Without.l1])
                      | succ k3 =>
                        have H := HA.out
                        clear HA
                        simp only [jacquardref02_Without.l1] at H
                        by_cases c15 : x7_3 < (l0.length : Int)
                        · rw [if_pos c15] at H
                          have c15b0 : decide (x7_3 < (l0.length : Int)) = true := decide_eq_true c15
                          clear c15
                          by_cases c16 : 0 ≤ x7_3
                          · rw [if_pos c16] at H
                            have c16b0 : decide (0 ≤ x7_3) = true := decide_eq_true c16
                            clear c16
                            by_cases c17 : x7_3 < (x5_3.length : Int)
                            · rw [if_pos c17] at H
                              have c17b0 : decide (x7_3 < (x5_3.length : Int)) = true := decide_eq_true c17
                              clear c17
                              obtain ⟨bq18, hbq18⟩ : ∃ b_ : Bool, b_ = (rdOf false x5_3 x7_3) := ⟨_, rfl⟩
                              replace H : (if bq18 = true then ((jacquardref02_next.f k3 l0 x7_3).bind fun t161 => (jacquardref02_Without.l2 k3 l0 a1 x5_3 x6_2 x7_3 t161 0)) else (jacquardref02_Without.l1 k3 l0 a1 x5_3 x6_2 (wrap64 (x7_3 + 1)))) = some r := by rw [← hbq18] at H; exact H
                              have Nbq18 := Aside0.mk hbq18
                              clear hbq18
                              by_cases c19 : bq18 = true
                              · subst c19
                                rw [if_pos rfl] at H
                                replace H := Option.bind_eq_some_iff.mp H
                                obtain ⟨t161, A200, H⟩ := H
                                have A20 := Aside0.mk A200
                                clear A200
                                have H' := Aside0.mk H
                                clear H
                                have p160 : 0 ≤ (x7_3 : Int) := of_decide_eq_true (by first | (with_reducible assumption) | assumption)
                                have q160 : x7_3 < (x5_3.length : Int) := of_decide_eq_true (by first | (with_reducible assumption) | assumption)
                                obtain ⟨ad160, e160, hx160_0⟩ := Kd.at_bool (Kd.R_reads' HO_5.out).2.2 x7_3 p160 q160
                                (try rw [← Nbq18.out] at hx160_0)
                                obtain rfl : (⟨go11, 0, none⟩ : Addr) = ad160 := (by injection e160)
                                (first | simp only [add_plain] at hx160_0 | simp only [add_at] at hx160_0 | simp only [Addr.add, Nat.zero_add] at hx160_0 | skip)
                                replace p160 := eq_true p160
                                replace q160 := eq_true q160
                                go_wp2_with (first | ((with_reducible refine gate_callee (f := 72) rfl ?_); refine goesL_ (some 41) rfl rfl Try.func72 (by kernel_rfl) rfl #[.slice A0 l0.length c0, .int .i64 x7_3] rfl (by (try simp only [List.map_toArray, List.map_cons, List.map_nil]); first | done | rfl | (simp only [List.length_drop, List.length_take]; rfl)) ?_; (with_reducible refine (jacquardref02_next.calls k3 _ _ l0 x7_3 t161 _ ?side1 ?side2 A20.out).mono ?_); (case side1 => repeat (first | exact (Kd.C_below HR0.out HB.out) | (with_reducible refine Kd.C_alloc ?_ _) | (with_reducible refine Kd.C_drewN ?_ _) | (with_reducible refine Kd.C_drew ?_))); (case side2 => exact HC0.out); rintro e w21 ⟨v162, rfl, ho0, hb⟩; refine ⟨_, rfl, ?_⟩; have n0_ := Aside0.mk (Kd.R_below (by (with_reducible repeat (first | apply Kd.R_alloc | apply Kd.R_drewN | apply Kd.R_drew)); exact HO_5.out) hb); have n1_ := Aside0.mk (Kd.R_lower ho0 (below_size (by repeat (first | exact HB.out | apply below_alloc | apply pw_below_drewN | apply below_drew1)))); have n2_ := Aside0.mk (below_step (by repeat (first | exact HB.out | apply below_alloc | apply pw_below_drewN | apply below_drew1)) hb); clear HO_5; clear HB; have HO_5 := n0_; have HO163 := n1_; have HB := n2_; clear n0_ n1_ n2_; (try clear hb); (try clear hb2); (try clear hk); (try clear hi); (try clear ho0)))
                                go_loopg [9] k3 (fun kq v9 w' => ∃ (x5_4 : List Bool) (x9_4 : Int), v9 = .int .i64 x9_4 ∧ Aside0 (jacquardref02_Without.l2 kq l0 a1 x5_4 x6_2 x7_3 t161 x9_4 = some r) ∧ Aside0 (kq ≤ k3) ∧ Aside0 (Kd.R Kd.bool 4 w' w.heap.size (fun _ => True) (.slice (some ⟨go11, 0, none⟩) x5_3.length co11) x5_4) ∧ Aside0 (Kd.R (Kd.int .i64) 3 w' w.heap.size (fun _ => True) v162 t161) ∧ Aside0 (Below w.heap.size w w'))
                                case atStart => exact ⟨(x5_3), (0), (by first | rfl | (simp; done) | (simp [*]; done)), H', ⟨Nat.le_refl _⟩, ⟨by (try simp only [hl5_2]); (try simp only [hl5_3]); (with_reducible repeat (first | apply Kd.R_alloc | apply Kd.R_drewN | apply Kd.R_drew)); exact HO_5.out⟩, ⟨by (try simp only [hl5_2]); (try simp only [hl5_3]); (with_reducible repeat (first | apply Kd.R_alloc | apply Kd.R_drewN | apply Kd.R_drew)); exact HO163.out⟩, ⟨by repeat (first | exact HB.out | apply below_alloc | apply pw_below_drewN | apply below_drew1)⟩⟩
                                case round =>
                                  clear H'; (try clear c1); (try clear p1); (try clear q1); (try clear hx1); (try clear qi1); (try clear c2); (try clear p2); (try clear c3); (try clear c3b0); (try clear c3b1); (try clear c4); (try clear c4b0); (try clear c4b1); (try clear p6); (try clear c7); (try clear c8); (try clear c8b0); (try clear c8b1); (try clear c8b2); (try clear c9); (try clear c10); (try clear c10b0); (try clear c10b1); (try clear p11); (try clear q11); (try clear hx11); (try clear qi11); (try clear hf11); (try clear c14); (try clear c14b0); (try clear c15); (try clear c15b0); (try clear c16); (try clear c16b0); (try clear p16); (try clear q16); (try clear hx16); (try clear c17); (try clear c17b0); (try clear q18); (try clear c19); (try clear hx11_0); (try clear hx160_0); (try clear p1); (try clear p11); (try clear p160); (try clear p2); (try clear q1); (try clear q11); (try clear q160)
                                  obtain ⟨x5_4, x9_4, rfl, HA, HK4, HO_5, HO_8, HB⟩ := hrel
                                  have hl5_4 := (Kd.R_reads' HO_5.out).1
                                  rw [hl5_4] at HO_5
                                  (try simp only [hl5_4])
                                  (try simp only [hl5_4] at HO_8)
                                  cases gk with
                                  | zero => exact absurd HA.out (by simp [jacquardref02_Without.l2])
                                  | succ k4 =>
                                    have H := HA.out
                                    clear HA
                                    simp only [jacquardref02_Without.l2] at H
                                    by_cases c22 : x9_4 < (t161.length : Int)
                                    · rw [if_pos c22] at H
                                      have c22b0 : decide (x9_4 < (t161.length : Int)) = true := decide_eq_true c22
                                      clear c22
                                      by_cases c23 : 0 ≤ x9_4
                                      · rw [if_pos c23] at H
                                        have c23b0 : decide (0 ≤ x9_4) = true := decide_eq_true c23
                                        clear c23
                                        by_cases c24 : 0 ≤ (rd t161 x9_4)
                                        · rw [if_pos c24] at H
                                          have c24b0 : decide (0 ≤ (rd t161 x9_4)) = true := decide_eq_true c24
                                          clear c24
                                          by_cases c25 : (rd t161 x9_4) < (x5_4.length : Int)
                                          · rw [if_pos c25] at H
                                            have c25b0 : decide ((rd t161 x9_4) < (x5_4.length : Int)) = true := decide_eq_true c25
                                            clear c25
                                            obtain ⟨bq26, hbq26⟩ : ∃ b_ : Bool, b_ = (rdOf false x5_4 (rd t161 x9_4)) := ⟨_, rfl⟩
                                            replace H : (if bq26 = true then (jacquardref02_Without.l2 k4 l0 a1 (x5_4.set ((rd t161 x9_4) : Int).toNat true) x6_2 x7_3 t161 (wrap64 (x9_4 + 1))) else (jacquardref02_Without.l2 k4 l0 a1 (x5_4.set ((rd t161 x9_4) : Int).toNat ((rd t161 x9_4) != a1)) x6_2 x7_3 t161 (wrap64 (x9_4 + 1)))) = some r := by rw [← hbq26] at H; exact H
                                            have Nbq26 := Aside0.mk hbq26
                                            clear hbq26
                                            by_cases c27 : bq26 = true
                                            · subst c27
                                              rw [if_pos rfl] at H
                                              obtain ⟨y167, hy167⟩ : ∃ y_ : List Bool, y_ = (x5_4.set ((rd t161 x9_4) : Int).toNat true) := ⟨_, rfl⟩
                                              replace H : (jacquardref02_Without.l2 k4 l0 a1 y167 x6_2 x7_3 t161 (wrap64 (x9_4 + 1))) = some r := by first | (rw [hy167]; with_reducible exact H) | (have H2_ := (Option.bind_some _ _).symm.trans H; rw [hy167]; with_reducible exact H2_) | (have H2_ := (Option.bind_some _ _).symm.trans H; with_reducible exact H2_) | with_reducible exact H | (rw [hy167]; exact H) | exact H
                                              have Ny167 := Aside0.mk hy167
                                              clear hy167
                                              have H' := Aside0.mk H
                                              clear H
                                              obtain ⟨Ao29, co29, eo29⟩ := Kd.R_slice HO_8.out
                                              subst eo29
                                              try go_wp2
                                              have n0_ := Aside0.mk (Kd.R_drew HO_5.out)
                                              have n1_ := Aside0.mk (Kd.R_drew HO_8.out)
                                              have n2_ := Aside0.mk (below_drew1 HB.out)
                                              clear HO_5; clear HO_8; clear HB
                                              have HO_5 := n0_
                                              have HO_8 := n1_
                                              have HB := n2_
                                              clear n0_ n1_ n2_
                                              have p164 : 0 ≤ (x9_4 : Int) := of_decide_eq_true (by first | (with_reducible assumption) | assumption)
                                              have q164 : x9_4 < (t161.length : Int) := of_decide_eq_true (by first | (with_reducible assumption) | assumption)
                                              obtain ⟨ad164, e164, hx164_0⟩ := Kd.at_int (Kd.R_reads' HO_8.out).2.2 x9_4 p164 q164
                                              cases e164
                                              replace p164 := eq_true p164
                                              replace q164 := eq_true q164
                                              have p165 : 0 ≤ (x9_4 : Int) := of_decide_eq_true (by first | (with_reducible assumption) | assumption)
                                              have q165 : x9_4 < (t161.length : Int) := of_decide_eq_true (by first | (with_reducible assumption) | assumption)
                                              obtain ⟨ad165, e165, hx165_0⟩ := Kd.at_int (Kd.R_reads' HO_8.out).2.2 x9_4 p165 q165
                                              obtain rfl : ad164 = ad165 := (by injection e165)
                                              replace p165 := eq_true p165
                                              replace q165 := eq_true q165
                                              have p166 : 0 ≤ ((rd t161 x9_4) : Int) := of_decide_eq_true (by first | (with_reducible assumption) | assumption)
                                              have q166 : (rd t161 x9_4) < (x5_4.length : Int) := of_decide_eq_true (by first | (with_reducible assumption) | assumption)
                                              obtain ⟨ad166, e166, hx166_0⟩ := Kd.at_bool (Kd.R_reads' HO_5.out).2.2 (rd t161 x9_4) p166 q166
                                              (try rw [← Nbq18.out] at hx166_0)
                                              (try rw [← Nbq26.out] at hx166_0)
                                              obtain rfl : (⟨go11, 0, none⟩ : Addr) = ad166 := (by injection e166)
                                              (first | simp only [add_plain] at hx166_0 | simp only [add_at] at hx166_0 | simp only [Addr.add, Nat.zero_add] at hx166_0 | skip)
                                              replace p166 := eq_true p166
                                              replace q166 := eq_true q166
                                              have p28 : 0 ≤ ((rd t161 x9_4) : Int) := of_decide_eq_true (by first | (with_reducible assumption) | assumption)
                                              have q28 : ((rd t161 x9_4) : Int) < ((x5_4.length : Int) : Int) := of_decide_eq_true (by first | (with_reducible assumption) | assumption)
                                              obtain ⟨hx28_0, hf28_0⟩ := Kd.R_celln false HO_5.out ((rd t161 x9_4) : Int) p28 q28
                                              replace p28 := eq_true p28
                                              replace q28 := eq_true q28
                                              have HP31 := Kd.R_putn HO_5.out ((rd t161 x9_4) : Int) true
                                              rw [← Ny167.out] at HP31
                                              have HQ31 := Aside0.mk HP31
                                              clear HP31
                                              refine start_ (n := 22) (S := fun w' => w'.cell? (ad164.add (x9_4).toNat) = some (.int .i64 (rd t161 x9_4)) ∧ w'.cell? (ad164.add (x9_4).toNat) = some (.int .i64 (rd t161 x9_4)) ∧ w'.cell? ⟨go11, ((rd t161 x9_4)).toNat, none⟩ = some (.bool true)) (ds := [21]) #[false, false, false, false, false, false, false, false, false, false, false, false, false, false, false, false, false, false, false, false, false, false] (by kernel_rfl) rfl rfl ⟨hx164_0, hx165_0, hx166_0⟩ (fun hHeld => ?_); refine with_tabW jacquardref02_Without.tab16 jacquardref02_Without.bits16 (fun HT_ HW_ => ?_)
                                              generalize wr.drew = w30 at HO_5 HO_8 HB HQ31 hf28_0 hx164_0 hx165_0 hx166_0 hx28_0 hHeld ⊢
                                              refine pure_ (i := 0) (N := some 48) (v := ?_) (a' := ?_) #[true, false, false, false, false, false, false, false, false, false, false, false, false, false, false, false, false, false, false, false, false, false] rfl rfl (any_of HT_.out (by kernel_rfl)) (fun _ _ _ h => h) (Or.inl ⟨by rfl, ?_⟩) ?_ ?_
                                              rotate_left
                                              · intro w'
                                                go_simp
                                                with_reducible rfl
                                              rotate_left
                                              · simp only [Act.put, List.setIfInBounds_toArray, List.set_cons_zero, List.set_cons_succ, i64_w, i32_w]
                                                rfl
                                              refine pure_ (i := 1) (N := some 49) (v := ?_) (a' := ?_) #[true, true, false, false, false, false, false, false, false, false, false, false, false, false, false, false, false, false, false, false, false, false] rfl rfl (any_of HT_.out (by kernel_rfl)) (fun _ _ _ h => h) (Or.inl ⟨by rfl, ?_⟩) ?_ ?_
                                              rotate_left
                                              · intro w'
                                                go_simp
                                                with_reducible rfl
                                              rotate_left
                                              · simp only [Act.put, List.setIfInBounds_toArray, List.set_cons_zero, List.set_cons_succ, i64_w, i32_w]
                                                rfl
                                              refine pure_ (i := 2) (N := some 50) (v := ?_) (a' := ?_) #[true, true, true, false, false, false, false, false, false, false, false, false, false, false, false, false, false, false, false, false, false, false] rfl rfl (any_of HT_.out (by kernel_rfl)) (fun _ _ _ h => h) (Or.inl ⟨by rfl, ?_⟩) ?_ ?_
                                              rotate_left
                                              · intro w'
                                                go_simp
                                                with_reducible rfl
                                              rotate_left
                                              · simp only [Act.put, List.setIfInBounds_toArray, List.set_cons_zero, List.set_cons_succ, i64_w, i32_w]
                                                rfl
                                              refine pure_ (i := 3) (N := some 51) (v := ?_) (a' := ?_) #[true, true, true, true, false, false, false, false, false, false, false, false, false, false, false, false, false, false, false, false, false, false] rfl rfl (any_of HT_.out (by kernel_rfl)) (fun _ _ _ h => h) (Or.inl ⟨by rfl, ?_⟩) ?_ ?_
                                              rotate_left
                                              · intro w'
                                                go_simp
                                                with_reducible rfl
                                              rotate_left
                                              · simp only [Act.put, List.setIfInBounds_toArray, List.set_cons_zero, List.set_cons_succ, i64_w, i32_w]
                                                rfl
                                              refine pure_ (i := 5) (N := some 53) (v := ?_) (a' := ?_) #[true, true, true, true, false, true, false, false, false, false, false, false, false, false, false, false, false, false, false, false, false, false] rfl rfl (any_of HT_.out (by kernel_rfl)) (fun _ _ _ h => h) (Or.inl ⟨by rfl, ?_⟩) ?_ ?_
                                              rotate_left
                                              · intro w'
                                                go_simp
                                                with_reducible rfl
                                              rotate_left
                                              · simp only [Act.put, List.setIfInBounds_toArray, List.set_cons_zero, List.set_cons_succ, i64_w, i32_w]
                                                rfl
                                              refine pure_ (i := 6) (N := some 54) (v := ?_) (a' := ?_) #[true, true, true, true, false, true, true, false, false, false, false, false, false, false, false, false, false, false, false, false, false, false] rfl rfl (any_of HT_.out (by kernel_rfl)) (fun _ _ _ h => h) (Or.inl ⟨by rfl, ?_⟩) ?_ ?_
                                              rotate_left
                                              · intro w'
                                                go_simp
                                                with_reducible rfl
                                              rotate_left
                                              · simp only [Act.put, List.setIfInBounds_toArray, List.set_cons_zero, List.set_cons_succ, i64_w, i32_w]
                                                rfl
                                              refine pure_ (i := 7) (N := some 55) (v := ?_) (a' := ?_) #[true, true, true, true, false, true, true, true, false, false, false, false, false, false, false, false, false, false, false, false, false, false] rfl rfl (any_of HT_.out (by kernel_rfl)) (fun _ _ _ h => h) (Or.inl ⟨by rfl, ?_⟩) ?_ ?_
                                              rotate_left
                                              · intro w'
                                                go_simp
                                                with_reducible rfl
                                              rotate_left
                                              · simp only [Act.put, List.setIfInBounds_toArray, List.set_cons_zero, List.set_cons_succ, i64_w, i32_w]
                                                rfl
                                              refine pure_ (i := 8) (N := some 56) (v := ?_) (a' := ?_) #[true, true, true, true, false, true, true, true, true, false, false, false, false, false, false, false, false, false, false, false, false, false] rfl rfl (any_of HT_.out (by kernel_rfl)) (fun _ _ _ h => h) (Or.inl ⟨by rfl, ?_⟩) ?_ ?_
                                              rotate_left
                                              · intro w'
                                                go_simp
                                                with_reducible rfl
                                              rotate_left
                                              · simp only [Act.put, List.setIfInBounds_toArray, List.set_cons_zero, List.set_cons_succ, i64_w, i32_w]
                                                rfl
                                              refine take_ (i := 4) (N := some 52) (v := ?_) (a' := ?_) #[true, true, true, true, true, true, true, true, true, false, false, false, false, false, false, false, false, false, false, false, false, false] rfl rfl (take_ofW HT_.out HW_.out (by kernel_rfl)) (fun _ _ _ h => h) (Or.inl ⟨by rfl, ?_⟩) hHeld ?_ ?_
                                              rotate_left
                                              · rintro w' ⟨s0, s1, s2⟩
                                                go_simp
                                                with_reducible rfl
                                              rotate_left
                                              · simp only [Act.put, List.setIfInBounds_toArray, List.set_cons_zero, List.set_cons_succ, i64_w, i32_w]
                                                rfl
                                              refine take_ (i := 9) (N := some 57) (v := ?_) (a' := ?_) #[true, true, true, true, true, true, true, true, true, true, false, false, false, false, false, false, false, false, false, false, false, false] rfl rfl (take_ofW HT_.out HW_.out (by kernel_rfl)) (fun _ _ _ h => h) (Or.inl ⟨by rfl, ?_⟩) hHeld ?_ ?_
                                              rotate_left
                                              · rintro w' ⟨s0, s1, s2⟩
                                                go_simp
                                                with_reducible rfl
                                              rotate_left
                                              · simp only [Act.put, List.setIfInBounds_toArray, List.set_cons_zero, List.set_cons_succ, i64_w, i32_w]
                                                rfl
                                              refine pure_ (i := 10) (N := some 58) (v := ?_) (a' := ?_) #[true, true, true, true, true, true, true, true, true, true, true, false, false, false, false, false, false, false, false, false, false, false] rfl rfl (any_of HT_.out (by kernel_rfl)) (fun _ _ _ h => h) (Or.inl ⟨by rfl, ?_⟩) ?_ ?_
                                              rotate_left
                                              · intro w'
                                                go_simp
                                                with_reducible rfl
                                              rotate_left
                                              · simp only [Act.put, List.setIfInBounds_toArray, List.set_cons_zero, List.set_cons_succ, i64_w, i32_w]
                                                rfl
                                              refine take_ (i := 11) (N := some 59) (v := ?_) (a' := ?_) #[true, true, true, true, true, true, true, true, true, true, true, true, false, false, false, false, false, false, false, false, false, false] rfl rfl (take_ofW HT_.out HW_.out (by kernel_rfl)) (fun _ _ _ h => h) (Or.inl ⟨by rfl, ?_⟩) hHeld ?_ ?_
                                              rotate_left
                                              · rintro w' ⟨s0, s1, s2⟩
                                                go_simp
                                                with_reducible rfl
                                              rotate_left
                                              · simp only [Act.put, List.setIfInBounds_toArray, List.set_cons_zero, List.set_cons_succ, i64_w, i32_w]
                                                rfl
                                              refine pure_ (i := 12) (N := some 60) (v := ?_) (a' := ?_) #[true, true, true, true, true, true, true, true, true, true, true, true, true, false, false, false, false, false, false, false, false, false] rfl rfl (any_of HT_.out (by kernel_rfl)) (fun _ _ _ h => h) (Or.inl ⟨by rfl, ?_⟩) ?_ ?_
                                              rotate_left
                                              · intro w'
                                                go_simp
                                                with_reducible rfl
                                              rotate_left
                                              · simp only [Act.put, List.setIfInBounds_toArray, List.set_cons_zero, List.set_cons_succ, i64_w, i32_w]
                                                rfl
                                              refine pure_ (i := 13) (N := some 61) (v := undef) (a' := ?_) #[true, true, true, true, true, true, true, true, true, true, true, true, true, true, false, false, false, false, false, false, false, false] rfl rfl (any_of HT_.out (by kernel_rfl)) (fun _ _ _ h => h) (Or.inr ⟨by rfl, rfl⟩) ?_ ?_
                                              rotate_left
                                              · simp only [Act.put, List.setIfInBounds_toArray, List.set_cons_zero, List.set_cons_succ, i64_w, i32_w]
                                                rfl
                                              refine pure_ (i := 14) (N := some 62) (v := undef) (a' := ?_) #[true, true, true, true, true, true, true, true, true, true, true, true, true, true, true, false, false, false, false, false, false, false] rfl rfl (any_of HT_.out (by kernel_rfl)) (fun _ _ _ h => h) (Or.inr ⟨by rfl, rfl⟩) ?_ ?_
                                              rotate_left
                                              · simp only [Act.put, List.setIfInBounds_toArray, List.set_cons_zero, List.set_cons_succ, i64_w, i32_w]
                                                rfl
                                              refine pure_ (i := 15) (N := some 63) (v := undef) (a' := ?_) #[true, true, true, true, true, true, true, true, true, true, true, true, true, true, true, true, false, false, false, false, false, false] rfl rfl (any_of HT_.out (by kernel_rfl)) (fun _ _ _ h => h) (Or.inr ⟨by rfl, rfl⟩) ?_ ?_
                                              rotate_left
                                              · simp only [Act.put, List.setIfInBounds_toArray, List.set_cons_zero, List.set_cons_succ, i64_w, i32_w]
                                                rfl
                                              refine pure_ (i := 16) (N := some 64) (v := undef) (a' := ?_) #[true, true, true, true, true, true, true, true, true, true, true, true, true, true, true, true, true, false, false, false, false, false] rfl rfl (any_of HT_.out (by kernel_rfl)) (fun _ _ _ h => h) (Or.inr ⟨by rfl, rfl⟩) ?_ ?_
                                              rotate_left
                                              · simp only [Act.put, List.setIfInBounds_toArray, List.set_cons_zero, List.set_cons_succ, i64_w, i32_w]
                                                rfl
                                              refine pure_ (i := 17) (N := some 65) (v := undef) (a' := ?_) #[true, true, true, true, true, true, true, true, true, true, true, true, true, true, true, true, true, true, false, false, false, false] rfl rfl (any_of HT_.out (by kernel_rfl)) (fun _ _ _ h => h) (Or.inr ⟨by rfl, rfl⟩) ?_ ?_
                                              rotate_left
                                              · simp only [Act.put, List.setIfInBounds_toArray, List.set_cons_zero, List.set_cons_succ, i64_w, i32_w]
                                                rfl
                                              refine pure_ (i := 18) (N := some 66) (v := undef) (a' := ?_) #[true, true, true, true, true, true, true, true, true, true, true, true, true, true, true, true, true, true, true, false, false, false] rfl rfl (any_of HT_.out (by kernel_rfl)) (fun _ _ _ h => h) (Or.inr ⟨by rfl, rfl⟩) ?_ ?_
                                              rotate_left
                                              · simp only [Act.put, List.setIfInBounds_toArray, List.set_cons_zero, List.set_cons_succ, i64_w, i32_w]
                                                rfl
                                              refine pure_ (i := 19) (N := some 67) (v := ?_) (a' := ?_) #[true, true, true, true, true, true, true, true, true, true, true, true, true, true, true, true, true, true, true, true, false, false] rfl rfl (any_of HT_.out (by kernel_rfl)) (fun _ _ _ h => h) (Or.inl ⟨by rfl, ?_⟩) ?_ ?_
                                              rotate_left
                                              · intro w'
                                                go_simp
                                                with_reducible rfl
                                              rotate_left
                                              · simp only [Act.put, List.setIfInBounds_toArray, List.set_cons_zero, List.set_cons_succ, i64_w, i32_w]
                                                rfl
                                              refine pure_ (i := 20) (N := some 68) (v := ?_) (a' := ?_) #[true, true, true, true, true, true, true, true, true, true, true, true, true, true, true, true, true, true, true, true, true, false] rfl rfl (any_of HT_.out (by kernel_rfl)) (fun _ _ _ h => h) (Or.inl ⟨by rfl, ?_⟩) ?_ ?_
                                              rotate_left
                                              · intro w'
                                                go_simp
                                                with_reducible rfl
                                              rotate_left
                                              · simp only [Act.put, List.setIfInBounds_toArray, List.set_cons_zero, List.set_cons_succ, i64_w, i32_w]
                                                rfl
                                              refine last_ (i := 21) (N := none) #[true, true, true, true, true, true, true, true, true, true, true, true, true, true, true, true, true, true, true, true, true, true] rfl rfl (one_of HT_.out (by kernel_rfl)) (by decide) (fun K hK => ?_)
                                              refine skip_ (w1 := ?_) (by rfl) rfl ?_ ?_
                                              rotate_left
                                              · go_simp
                                                rfl
                                              refine hK.out _ _ ?_
                                              clear hK K
                                              refine done_ (done_of HT_.out (by kernel_rfl)) ?_
                                              try go_wp2
                                              (try simp only [← hl5_4])
                                              go_roundg k4
                                              case measure => have := HJ4.out; have := HK2.out; have := HK3.out; have := HK4.out; omega
                                              case rel => exact ⟨(y167), (wrap64 (x9_4 + 1)), (by first | rfl | (simp; done) | (simp [*]; done)), H', ⟨by have := HJ4.out; have := HK2.out; have := HK3.out; have := HK4.out; omega⟩, ⟨by (try simp only [hl5_2]); (try simp only [hl5_3]); (try simp only [hl5_4]); (with_reducible repeat (first | apply Kd.R_alloc | apply Kd.R_drewN | apply Kd.R_drew)); exact HQ31.out⟩, ⟨by (try simp only [hl5_2]); (try simp only [hl5_3]); (try simp only [hl5_4]); (with_reducible repeat (first | apply Kd.R_alloc | apply Kd.R_drewN | apply Kd.R_drew)); exact Kd.R_mono (Kd.R_far (p := ⟨go11, ((rd t161 x9_4) : Int).toNat, none⟩) (Kd.R_apart' HO_8.out (Kd.R_typed HO_5.out) (by decide)) (fun k_ hk e_ => hk.2 (by rw [e_]; rfl)) (.bool true)) (fun _ hk => trivial)⟩, ⟨by repeat (first | (with_reducible first | exact HB.out | apply below_alloc | apply pw_below_drewN | apply below_drew1 | refine below_set ?_ GB11.out) | exact HB.out)⟩⟩
                                            · replace c27 := Bool.eq_false_iff.mpr c27
                                              subst c27
                                              rw [if_neg (show ¬ (false = true) by decide)] at H
                                              obtain ⟨y169, hy169⟩ : ∃ y_ : List Bool, y_ = (x5_4.set ((rd t161 x9_4) : Int).toNat ((rd t161 x9_4) != a1)) := ⟨_, rfl⟩
                                              replace H : (jacquardref02_Without.l2 k4 l0 a1 y169 x6_2 x7_3 t161 (wrap64 (x9_4 + 1))) = some r := by first | (rw [hy169]; with_reducible exact H) | (have H2_ := (Option.bind_some _ _).symm.trans H; rw [hy169]; with_reducible exact H2_) | (have H2_ := (Option.bind_some _ _).symm.trans H; with_reducible exact H2_) | with_reducible exact H | (rw [hy169]; exact H) | exact H
                                              have Ny169 := Aside0.mk hy169
                                              clear hy169
                                              have H' := Aside0.mk H
                                              clear H
                                              obtain ⟨Ao33, co33, eo33⟩ := Kd.R_slice HO_8.out
                                              subst eo33
                                              try go_wp2
                                              have n0_ := Aside0.mk (Kd.R_drew HO_5.out)
                                              have n1_ := Aside0.mk (Kd.R_drew HO_8.out)
                                              have n2_ := Aside0.mk (below_drew1 HB.out)
                                              clear HO_5; clear HO_8; clear HB
                                              have HO_5 := n0_
                                              have HO_8 := n1_
                                              have HB := n2_
                                              clear n0_ n1_ n2_
                                              have p164 : 0 ≤ (x9_4 : Int) := of_decide_eq_true (by first | (with_reducible assumption) | assumption)
                                              have q164 : x9_4 < (t161.length : Int) := of_decide_eq_true (by first | (with_reducible assumption) | assumption)
                                              obtain ⟨ad164, e164, hx164_0⟩ := Kd.at_int (Kd.R_reads' HO_8.out).2.2 x9_4 p164 q164
                                              cases e164
                                              replace p164 := eq_true p164
                                              replace q164 := eq_true q164
                                              have p165 : 0 ≤ (x9_4 : Int) := of_decide_eq_true (by first | (with_reducible assumption) | assumption)
                                              have q165 : x9_4 < (t161.length : Int) := of_decide_eq_true (by first | (with_reducible assumption) | assumption)
                                              obtain ⟨ad165, e165, hx165_0⟩ := Kd.at_int (Kd.R_reads' HO_8.out).2.2 x9_4 p165 q165
                                              obtain rfl : ad164 = ad165 := (by injection e165)
                                              replace p165 := eq_true p165
                                              replace q165 := eq_true q165
                                              have p166 : 0 ≤ ((rd t161 x9_4) : Int) := of_decide_eq_true (by first | (with_reducible assumption) | assumption)
                                              have q166 : (rd t161 x9_4) < (x5_4.length : Int) := of_decide_eq_true (by first | (with_reducible assumption) | assumption)
                                              obtain ⟨ad166, e166, hx166_0⟩ := Kd.at_bool (Kd.R_reads' HO_5.out).2.2 (rd t161 x9_4) p166 q166
                                              (try rw [← Nbq18.out] at hx166_0)
                                              (try rw [← Nbq26.out] at hx166_0)
                                              obtain rfl : (⟨go11, 0, none⟩ : Addr) = ad166 := (by injection e166)
                                              (first | simp only [add_plain] at hx166_0 | simp only [add_at] at hx166_0 | simp only [Addr.add, Nat.zero_add] at hx166_0 | skip)
                                              replace p166 := eq_true p166
                                              replace q166 := eq_true q166
                                              have p168 : 0 ≤ (x9_4 : Int) := of_decide_eq_true (by first | (with_reducible assumption) | assumption)
                                              have q168 : x9_4 < (t161.length : Int) := of_decide_eq_true (by first | (with_reducible assumption) | assumption)
                                              obtain ⟨ad168, e168, hx168_0⟩ := Kd.at_int (Kd.R_reads' HO_8.out).2.2 x9_4 p168 q168
                                              obtain rfl : ad164 = ad168 := (by injection e168)
                                              replace p168 := eq_true p168
                                              replace q168 := eq_true q168
                                              have p32 : 0 ≤ ((rd t161 x9_4) : Int) := of_decide_eq_true (by first | (with_reducible assumption) | assumption)
                                              have q32 : ((rd t161 x9_4) : Int) < ((x5_4.length : Int) : Int) := of_decide_eq_true (by first | (with_reducible assumption) | assumption)
                                              obtain ⟨hx32_0, hf32_0⟩ := Kd.R_celln false HO_5.out ((rd t161 x9_4) : Int) p32 q32
                                              replace p32 := eq_true p32
                                              replace q32 := eq_true q32
                                              have HP35 := Kd.R_putn HO_5.out ((rd t161 x9_4) : Int) ((rd t161 x9_4) != a1)
                                              rw [← Ny169.out] at HP35
                                              have HQ35 := Aside0.mk HP35
                                              clear HP35
                                              refine start_ (n := 22) (S := fun w' => w'.cell? (ad164.add (x9_4).toNat) = some (.int .i64 (rd t161 x9_4)) ∧ w'.cell? (ad164.add (x9_4).toNat) = some (.int .i64 (rd t161 x9_4)) ∧ w'.cell? ⟨go11, ((rd t161 x9_4)).toNat, none⟩ = some (.bool false) ∧ w'.cell? (ad164.add (x9_4).toNat) = some (.int .i64 (rd t161 x9_4))) (ds := [21]) #[false, false, false, false, false, false, false, false, false, false, false, false, false, false, false, false, false, false, false, false, false, false] (by kernel_rfl) rfl rfl ⟨hx164_0, hx165_0, hx166_0, hx168_0⟩ (fun hHeld => ?_); refine with_tabW jacquardref02_Without.tab16 jacquardref02_Without.bits16 (fun HT_ HW_ => ?_)
                                              generalize wr.drew = w34 at HO_5 HO_8 HB HQ35 hf32_0 hx164_0 hx165_0 hx166_0 hx168_0 hx32_0 hHeld ⊢
                                              refine pure_ (i := 0) (N := some 48) (v := ?_) (a' := ?_) #[true, false, false, false, false, false, false, false, false, false, false, false, false, false, false, false, false, false, false, false, false, false] rfl rfl (any_of HT_.out (by kernel_rfl)) (fun _ _ _ h => h) (Or.inl ⟨by rfl, ?_⟩) ?_ ?_
                                              rotate_left
                                              · intro w'
                                                go_simp
                                                with_reducible rfl
                                              rotate_left
                                              · simp only [Act.put, List.setIfInBounds_toArray, List.set_cons_zero, List.set_cons_succ, i64_w, i32_w]
                                                rfl
                                              refine pure_ (i := 1) (N := some 49) (v := ?_) (a' := ?_) #[true, true, false, false, false, false, false, false, false, false, false, false, false, false, false, false, false, false, false, false, false, false] rfl rfl (any_of HT_.out (by kernel_rfl)) (fun _ _ _ h => h) (Or.inl ⟨by rfl, ?_⟩) ?_ ?_
                                              rotate_left
                                              · intro w'
                                                go_simp
                                                with_reducible rfl
                                              rotate_left
                                              · simp only [Act.put, List.setIfInBounds_toArray, List.set_cons_zero, List.set_cons_succ, i64_w, i32_w]
                                                rfl
                                              refine pure_ (i := 2) (N := some 50) (v := ?_) (a' := ?_) #[true, true, true, false, false, false, false, false, false, false, false, false, false, false, false, false, false, false, false, false, false, false] rfl rfl (any_of HT_.out (by kernel_rfl)) (fun _ _ _ h => h) (Or.inl ⟨by rfl, ?_⟩) ?_ ?_
                                              rotate_left
                                              · intro w'
                                                go_simp
                                                with_reducible rfl
                                              rotate_left
                                              · simp only [Act.put, List.setIfInBounds_toArray, List.set_cons_zero, List.set_cons_succ, i64_w, i32_w]
                                                rfl
                                              refine pure_ (i := 3) (N := some 51) (v := ?_) (a' := ?_) #[true, true, true, true, false, false, false, false, false, false, false, false, false, false, false, false, false, false, false, false, false, false] rfl rfl (any_of HT_.out (by kernel_rfl)) (fun _ _ _ h => h) (Or.inl ⟨by rfl, ?_⟩) ?_ ?_
                                              rotate_left
                                              · intro w'
                                                go_simp
                                                with_reducible rfl
                                              rotate_left
                                              · simp only [Act.put, List.setIfInBounds_toArray, List.set_cons_zero, List.set_cons_succ, i64_w, i32_w]
                                                rfl
                                              refine pure_ (i := 5) (N := some 53) (v := ?_) (a' := ?_) #[true, true, true, true, false, true, false, false, false, false, false, false, false, false, false, false, false, false, false, false, false, false] rfl rfl (any_of HT_.out (by kernel_rfl)) (fun _ _ _ h => h) (Or.inl ⟨by rfl, ?_⟩) ?_ ?_
                                              rotate_left
                                              · intro w'
                                                go_simp
                                                with_reducible rfl
                                              rotate_left
                                              · simp only [Act.put, List.setIfInBounds_toArray, List.set_cons_zero, List.set_cons_succ, i64_w, i32_w]
                                                rfl
                                              refine pure_ (i := 6) (N := some 54) (v := ?_) (a' := ?_) #[true, true, true, true, false, true, true, false, false, false, false, false, false, false, false, false, false, false, false, false, false, false] rfl rfl (any_of HT_.out (by kernel_rfl)) (fun _ _ _ h => h) (Or.inl ⟨by rfl, ?_⟩) ?_ ?_
                                              rotate_left
                                              · intro w'
                                                go_simp
                                                with_reducible rfl
                                              rotate_left
                                              · simp only [Act.put, List.setIfInBounds_toArray, List.set_cons_zero, List.set_cons_succ, i64_w, i32_w]
                                                rfl
                                              refine pure_ (i := 7) (N := some 55) (v := ?_) (a' := ?_) #[true, true, true, true, false, true, true, true, false, false, false, false, false, false, false, false, false, false, false, false, false, false] rfl rfl (any_of HT_.out (by kernel_rfl)) (fun _ _ _ h => h) (Or.inl ⟨by rfl, ?_⟩) ?_ ?_
                                              rotate_left
                                              · intro w'
                                                go_simp
                                                with_reducible rfl
                                              rotate_left
                                              · simp only [Act.put, List.setIfInBounds_toArray, List.set_cons_zero, List.set_cons_succ, i64_w, i32_w]
                                                rfl
                                              refine pure_ (i := 8) (N := some 56) (v := ?_) (a' := ?_) #[true, true, true, true, false, true, true, true, true, false, false, false, false, false, false, false, false, false, false, false, false, false] rfl rfl (any_of HT_.out (by kernel_rfl)) (fun _ _ _ h => h) (Or.inl ⟨by rfl, ?_⟩) ?_ ?_
                                              rotate_left
                                              · intro w'
                                                go_simp
                                                with_reducible rfl
                                              rotate_left
                                              · simp only [Act.put, List.setIfInBounds_toArray, List.set_cons_zero, List.set_cons_succ, i64_w, i32_w]
                                                rfl
                                              refine take_ (i := 4) (N := some 52) (v := ?_) (a' := ?_) #[true, true, true, true, true, true, true, true, true, false, false, false, false, false, false, false, false, false, false, false, false, false] rfl rfl (take_ofW HT_.out HW_.out (by kernel_rfl)) (fun _ _ _ h => h) (Or.inl ⟨by rfl, ?_⟩) hHeld ?_ ?_
                                              rotate_left
                                              · rintro w' ⟨s0, s1, s2, s3⟩
                                                go_simp
                                                with_reducible rfl
                                              rotate_left
                                              · simp only [Act.put, List.setIfInBounds_toArray, List.set_cons_zero, List.set_cons_succ, i64_w, i32_w]
                                                rfl
                                              refine take_ (i := 9) (N := some 57) (v := ?_) (a' := ?_) #[true, true, true, true, true, true, true, true, true, true, false, false, false, false, false, false, false, false, false, false, false, false] rfl rfl (take_ofW HT_.out HW_.out (by kernel_rfl)) (fun _ _ _ h => h) (Or.inl ⟨by rfl, ?_⟩) hHeld ?_ ?_
                                              rotate_left
                                              · rintro w' ⟨s0, s1, s2, s3⟩
                                                go_simp
                                                with_reducible rfl
                                              rotate_left
                                              · simp only [Act.put, List.setIfInBounds_toArray, List.set_cons_zero, List.set_cons_succ, i64_w, i32_w]
                                                rfl
                                              refine pure_ (i := 10) (N := some 58) (v := ?_) (a' := ?_) #[true, true, true, true, true, true, true, true, true, true, true, false, false, false, false, false, false, false, false, false, false, false] rfl rfl (any_of HT_.out (by kernel_rfl)) (fun _ _ _ h => h) (Or.inl ⟨by rfl, ?_⟩) ?_ ?_
                                              rotate_left
                                              · intro w'
                                                go_simp
                                                with_reducible rfl
                                              rotate_left
                                              · simp only [Act.put, List.setIfInBounds_toArray, List.set_cons_zero, List.set_cons_succ, i64_w, i32_w]
                                                rfl
                                              refine take_ (i := 11) (N := some 59) (v := ?_) (a' := ?_) #[true, true, true, true, true, true, true, true, true, true, true, true, false, false, false, false, false, false, false, false, false, false] rfl rfl (take_ofW HT_.out HW_.out (by kernel_rfl)) (fun _ _ _ h => h) (Or.inl ⟨by rfl, ?_⟩) hHeld ?_ ?_
                                              rotate_left
                                              · rintro w' ⟨s0, s1, s2, s3⟩
                                                go_simp
                                                with_reducible rfl
                                              rotate_left
                                              · simp only [Act.put, List.setIfInBounds_toArray, List.set_cons_zero, List.set_cons_succ, i64_w, i32_w]
                                                rfl
                                              refine pure_ (i := 12) (N := some 60) (v := ?_) (a' := ?_) #[true, true, true, true, true, true, true, true, true, true, true, true, true, false, false, false, false, false, false, false, false, false] rfl rfl (any_of HT_.out (by kernel_rfl)) (fun _ _ _ h => h) (Or.inl ⟨by rfl, ?_⟩) ?_ ?_
                                              rotate_left
                                              · intro w'
                                                go_simp
                                                with_reducible rfl
                                              rotate_left
                                              · simp only [Act.put, List.setIfInBounds_toArray, List.set_cons_zero, List.set_cons_succ, i64_w, i32_w]
                                                rfl
                                              refine pure_ (i := 13) (N := some 61) (v := ?_) (a' := ?_) #[true, true, true, true, true, true, true, true, true, true, true, true, true, true, false, false, false, false, false, false, false, false] rfl rfl (any_of HT_.out (by kernel_rfl)) (fun _ _ _ h => h) (Or.inl ⟨by rfl, ?_⟩) ?_ ?_
                                              rotate_left
                                              · intro w'
                                                go_simp
                                                with_reducible rfl
                                              rotate_left
                                              · simp only [Act.put, List.setIfInBounds_toArray, List.set_cons_zero, List.set_cons_succ, i64_w, i32_w]
                                                rfl
                                              refine pure_ (i := 14) (N := some 62) (v := ?_) (a' := ?_) #[true, true, true, true, true, true, true, true, true, true, true, true, true, true, true, false, false, false, false, false, false, false] rfl rfl (any_of HT_.out (by kernel_rfl)) (fun _ _ _ h => h) (Or.inl ⟨by rfl, ?_⟩) ?_ ?_
                                              rotate_left
                                              · intro w'
                                                go_simp
                                                with_reducible rfl
                                              rotate_left
                                              · simp only [Act.put, List.setIfInBounds_toArray, List.set_cons_zero, List.set_cons_succ, i64_w, i32_w]
                                                rfl
                                              refine pure_ (i := 15) (N := some 63) (v := ?_) (a' := ?_) #[true, true, true, true, true, true, true, true, true, true, true, true, true, true, true, true, false, false, false, false, false, false] rfl rfl (any_of HT_.out (by kernel_rfl)) (fun _ _ _ h => h) (Or.inl ⟨by rfl, ?_⟩) ?_ ?_
                                              rotate_left
                                              · intro w'
                                                go_simp
                                                with_reducible rfl
                                              rotate_left
                                              · simp only [Act.put, List.setIfInBounds_toArray, List.set_cons_zero, List.set_cons_succ, i64_w, i32_w]
                                                rfl
                                              refine pure_ (i := 17) (N := some 65) (v := ?_) (a' := ?_) #[true, true, true, true, true, true, true, true, true, true, true, true, true, true, true, true, false, true, false, false, false, false] rfl rfl (any_of HT_.out (by kernel_rfl)) (fun _ _ _ h => h) (Or.inl ⟨by rfl, ?_⟩) ?_ ?_
                                              rotate_left
                                              · intro w'
                                                go_simp
                                                with_reducible rfl
                                              rotate_left
                                              · simp only [Act.put, List.setIfInBounds_toArray, List.set_cons_zero, List.set_cons_succ, i64_w, i32_w]
                                                rfl
                                              refine take_ (i := 16) (N := some 64) (v := ?_) (a' := ?_) #[true, true, true, true, true, true, true, true, true, true, true, true, true, true, true, true, true, true, false, false, false, false] rfl rfl (take_ofW HT_.out HW_.out (by kernel_rfl)) (fun _ _ _ h => h) (Or.inl ⟨by rfl, ?_⟩) hHeld ?_ ?_
                                              rotate_left
                                              · rintro w' ⟨s0, s1, s2, s3⟩
                                                go_simp
                                                with_reducible rfl
                                              rotate_left
                                              · simp only [Act.put, List.setIfInBounds_toArray, List.set_cons_zero, List.set_cons_succ, i64_w, i32_w]
                                                rfl
                                              refine pure_ (i := 18) (N := some 66) (v := ?_) (a' := ?_) #[true, true, true, true, true, true, true, true, true, true, true, true, true, true, true, true, true, true, true, false, false, false] rfl rfl (any_of HT_.out (by kernel_rfl)) (fun _ _ _ h => h) (Or.inl ⟨by rfl, ?_⟩) ?_ ?_
                                              rotate_left
                                              · intro w'
                                                go_simp
                                                with_reducible rfl
                                              rotate_left
                                              · simp only [Act.put, List.setIfInBounds_toArray, List.set_cons_zero, List.set_cons_succ, i64_w, i32_w]
                                                rfl
                                              refine pure_ (i := 19) (N := some 67) (v := ?_) (a' := ?_) #[true, true, true, true, true, true, true, true, true, true, true, true, true, true, true, true, true, true, true, true, false, false] rfl rfl (any_of HT_.out (by kernel_rfl)) (fun _ _ _ h => h) (Or.inl ⟨by rfl, ?_⟩) ?_ ?_
                                              rotate_left
                                              · intro w'
                                                go_simp
                                                with_reducible rfl
                                              rotate_left
                                              · simp only [Act.put, List.setIfInBounds_toArray, List.set_cons_zero, List.set_cons_succ, i64_w, i32_w]
                                                rfl
                                              refine pure_ (i := 20) (N := some 68) (v := ?_) (a' := ?_) #[true, true, true, true, true, true, true, true, true, true, true, true, true, true, true, true, true, true, true, true, true, false] rfl rfl (any_of HT_.out (by kernel_rfl)) (fun _ _ _ h => h) (Or.inl ⟨by rfl, ?_⟩) ?_ ?_
                                              rotate_left
                                              · intro w'
                                                go_simp
                                                with_reducible rfl
                                              rotate_left
                                              · simp only [Act.put, List.setIfInBounds_toArray, List.set_cons_zero, List.set_cons_succ, i64_w, i32_w]
                                                rfl
                                              refine last_ (i := 21) (N := none) #[true, true, true, true, true, true, true, true, true, true, true, true, true, true, true, true, true, true, true, true, true, true] rfl rfl (one_of HT_.out (by kernel_rfl)) (by decide) (fun K hK => ?_)
                                              refine skip_ (w1 := ?_) (by rfl) rfl ?_ ?_
                                              rotate_left
                                              · go_simp
                                                rfl
                                              refine hK.out _ _ ?_
                                              clear hK K
                                              refine done_ (done_of HT_.out (by kernel_rfl)) ?_
                                              try go_wp2
                                              (try simp only [← hl5_4])
                                              go_roundg k4
                                              case measure => have := HJ4.out; have := HK2.out; have := HK3.out; have := HK4.out; omega
                                              case rel => exact ⟨(y169), (wrap64 (x9_4 + 1)), (by first | rfl | (simp; done) | (simp [*]; done)), H', ⟨by have := HJ4.out; have := HK2.out; have := HK3.out; have := HK4.out; omega⟩, ⟨by (try simp only [hl5_2]); (try simp only [hl5_3]); (try simp only [hl5_4]); (with_reducible repeat (first | apply Kd.R_alloc | apply Kd.R_drewN | apply Kd.R_drew)); exact HQ35.out⟩, ⟨by (try simp only [hl5_2]); (try simp only [hl5_3]); (try simp only [hl5_4]); (with_reducible repeat (first | apply Kd.R_alloc | apply Kd.R_drewN | apply Kd.R_drew)); exact Kd.R_mono (Kd.R_far (p := ⟨go11, ((rd t161 x9_4) : Int).toNat, none⟩) (Kd.R_apart' HO_8.out (Kd.R_typed HO_5.out) (by decide)) (fun k_ hk e_ => hk.2 (by rw [e_]; rfl)) (.bool ((rd t161 x9_4) != a1))) (fun _ hk => trivial)⟩, ⟨by repeat (first | (with_reducible first | exact HB.out | apply below_alloc | apply pw_below_drewN | apply below_drew1 | refine below_set ?_ GB11.out) | exact HB.out)⟩⟩
                                          · rw [if_neg c25] at H
                                            exact absurd H (by simp)
                                        · rw [if_neg c24] at H
                                          exact absurd H (by simp)
                                      · rw [if_neg c23] at H
                                        exact absurd H (by simp)
                                    · rw [if_neg c22] at H
                                      have c22b0 : decide (x9_4 < (t161.length : Int)) = false := decide_eq_false c22
                                      clear c22
                                      have H' := Aside0.mk H
                                      clear H
                                      obtain ⟨Ao36, co36, eo36⟩ := Kd.R_slice HO_8.out
                                      subst eo36
                                      go_wp2
                                      (try simp only [← hl5_3, ← hl5_4])
                                      go_roundg k4
                                      case measure => have := HJ4.out; have := HK2.out; have := HK3.out; have := HK4.out; omega
                                      case rel => exact ⟨(x5_4), (wrap64 (x7_3 + 1)), (by first | rfl | (simp; done) | (simp [*]; done)), H', ⟨by have := HJ4.out; have := HK2.out; have := HK3.out; have := HK4.out; omega⟩, ⟨by (try simp only [hl5_2]); (try simp only [hl5_3]); (try simp only [hl5_4]); (with_reducible repeat (first | apply Kd.R_alloc | apply Kd.R_drewN | apply Kd.R_drew)); exact HO_5.out⟩, ⟨by repeat (first | exact HB.out | apply below_alloc | apply pw_below_drewN | apply below_drew1)⟩⟩
                              · replace c19 := Bool.eq_false_iff.mpr c19
                                subst c19
                                rw [if_neg (show ¬ (false = true) by decide)] at H
                                have H' := Aside0.mk H
                                clear H
                                have p160 : 0 ≤ (x7_3 : Int) := of_decide_eq_true (by first | (with_reducible assumption) | assumption)
                                have q160 : x7_3 < (x5_3.length : Int) := of_decide_eq_true (by first | (with_reducible assumption) | assumption)
                                obtain ⟨ad160, e160, hx160_0⟩ := Kd.at_bool (Kd.R_reads' HO_5.out).2.2 x7_3 p160 q160
                                (try rw [← Nbq18.out] at hx160_0)
                                obtain rfl : (⟨go11, 0, none⟩ : Addr) = ad160 := (by injection e160)
                                (first | simp only [add_plain] at hx160_0 | simp only [add_at] at hx160_0 | simp only [Addr.add, Nat.zero_add] at hx160_0 | skip)
                                replace p160 := eq_true p160
                                replace q160 := eq_true q160
                                go_wp2
                                (try simp only [← hl5_3])
                                go_roundg k3
                                case measure => have := HJ4.out; have := HK2.out; have := HK3.out; omega
                                case rel => exact ⟨(x5_3), (wrap64 (x7_3 + 1)), (by first | rfl | (simp; done) | (simp [*]; done)), H', ⟨by have := HJ4.out; have := HK2.out; have := HK3.out; omega⟩, ⟨by (try simp only [hl5_2]); (try simp only [hl5_3]); (with_reducible repeat (first | apply Kd.R_alloc | apply Kd.R_drewN | apply Kd.R_drew)); exact HO_5.out⟩, ⟨by repeat (first | exact HB.out | apply below_alloc | apply pw_below_drewN | apply below_drew1)⟩⟩
                            · rw [if_neg c17] at H
                              exact absurd H (by simp)
                          · rw [if_neg c16] at H
                            exact absurd H (by simp)
                        · rw [if_neg c15] at H
                          have c15b0 : decide (x7_3 < (l0.length : Int)) = false := decide_eq_false c15
                          clear c15
                          have H' := Aside0.mk H
                          clear H
                          go_wp2
                          (try simp only [← hl5_2, ← hl5_3])
                          go_roundg k3
                          case measure => have := HJ4.out; have := HK2.out; have := HK3.out; omega
                          case rel => exact ⟨(x5_3), (wrap64 (x6_2 + 1)), (by first | rfl | (simp; done) | (simp [*]; done)), H', ⟨by have := HJ4.out; have := HK2.out; have := HK3.out; omega⟩, ⟨by (try simp only [hl5_2]); (try simp only [hl5_3]); (with_reducible repeat (first | apply Kd.R_alloc | apply Kd.R_drewN | apply Kd.R_drew)); exact HO_5.out⟩, ⟨by repeat (first | exact HB.out | apply below_alloc | apply pw_below_drewN | apply below_drew1)⟩⟩
                  · rw [if_neg c14] at H
                    have c14b0 : decide (x6_2 < (l0.length : Int)) = false := decide_eq_false c14
                    clear c14
                    obtain rfl := Option.some.inj H
                    go_wp2
                    go_ret
                    exact ⟨_, by first | rfl | (simp [errW_none, errW_some] <;> rfl) | (simp [*, errW_none, errW_some] <;> rfl), by (with_reducible repeat (first | apply Kd.R_alloc | apply Kd.R_drewN | apply Kd.R_drew)); exact HO_5.out, by repeat (first | exact HB.out | apply below_alloc | apply pw_below_drewN | apply below_drew1)⟩
            · rw [if_neg c10] at H
              exact absurd H (by simp)
    · rw [if_neg c4] at H
      exact absurd H (by simp)
  · rw [if_neg c3] at H
    exact absurd H (by simp)

mutual
def jacquardref02_Table.l0 : Nat → List (List Int) → List Bool → List (List Bool) → Int → Option ((List (List Bool)))
  | 0, _, _, _, _ => none
  | k + 1, x0, x3, x4, x5 => if x5 < (x0.length : Int) then (if 0 ≤ (x0.length : Int) then (if ((x0.length : Int) : Int).toNat ≤ 281474976710656 then ((jacquardref02_Without.f k x0 x5).bind fun t176 => (jacquardref02_Table.l1 k x0 x3 x4 x5 (List.replicate ((x0.length : Int) : Int).toNat false) t176 0)) else (none)) else (none)) else (some x4)
def jacquardref02_Table.l1 : Nat → List (List Int) → List Bool → List (List Bool) → Int → List Bool → List Bool → Int → Option ((List (List Bool)))
  | 0, _, _, _, _, _, _, _ => none
  | k + 1, x0, x3, x4, x5, x6, x7, x8 => if x8 < (x0.length : Int) then (if 0 ≤ x5 then (if x5 < (x3.length : Int) then (if rdOf false x3 x5 = true then (if 0 ≤ x8 then (if x8 < (x3.length : Int) then (if rdOf false x3 x8 = true then (if x5 = x8 then (if x8 < (x6.length : Int) then (jacquardref02_Table.l1 k x0 x3 x4 x5 (x6.set (x8 : Int).toNat true) x7 (wrap64 (x8 + 1))) else (none)) else (if x8 < (x7.length : Int) then (if x8 < (x6.length : Int) then (jacquardref02_Table.l1 k x0 x3 x4 x5 (x6.set (x8 : Int).toNat (!(rdOf false x7 x8))) x7 (wrap64 (x8 + 1))) else (none)) else (none))) else (if x8 < (x6.length : Int) then (jacquardref02_Table.l1 k x0 x3 x4 x5 (x6.set (x8 : Int).toNat false) x7 (wrap64 (x8 + 1))) else (none))) else (none)) else (none)) else (if 0 ≤ x8 then (if x8 < (x6.length : Int) then (jacquardref02_Table.l1 k x0 x3 x4 x5 (x6.set (x8 : Int).toNat false) x7 (wrap64 (x8 + 1))) else (none)) else (none))) else (none)) else (none)) else (if x4.length < 5864062014805 then (jacquardref02_Table.l0 k x0 x3 (x4 ++ [x6]) (wrap64 (x5 + 1))) else (none))
end
def jacquardref02_Table.f (k : Nat) (l0 : List (List Int)) : Option ((List (List Bool))) := (jacquardref02_Without.f k l0 (-1)).bind fun t170 => (jacquardref02_Table.l0 k l0 t170 ([] : List (List Bool)) 0)
theorem jacquardref02_Table.mono_l : ∀ k, (∀ y0 y1 y2 y3, LeO (jacquardref02_Table.l0 k y0 y1 y2 y3) (jacquardref02_Table.l0 (k + 1) y0 y1 y2 y3)) ∧ (∀ y0 y1 y2 y3 y4 y5 y6, LeO (jacquardref02_Table.l1 k y0 y1 y2 y3 y4 y5 y6) (jacquardref02_Table.l1 (k + 1) y0 y1 y2 y3 y4 y5 y6))
  | 0 => ⟨fun _ _ _ _ r h => by simp [jacquardref02_Table.l0] at h, fun _ _ _ _ _ _ _ r h => by simp [jacquardref02_Table.l1] at h⟩
  | k + 1 => by
    obtain ⟨ih0, ih1⟩ := jacquardref02_Table.mono_l k
    refine ⟨?_, ?_⟩
    · intro y0 y1 y2 y3
      unfold jacquardref02_Table.l0
      repeat' first | (with_reducible exact LeO.refl _) | (with_reducible refine LeO.ite ?_ ?_) | (with_reducible refine LeO.bind ?_ (fun _ => ?_)) | exact LeO.none _ | exact ih0 _ _ _ _ | exact ih1 _ _ _ _ _ _ _ | exact jacquardref02_Without.mono _ _ _ | refine LeO.ite ?_ ?_ | refine LeO.bind ?_ (fun _ => ?_)
    · intro y0 y1 y2 y3 y4 y5 y6
      unfold jacquardref02_Table.l1
      repeat' first | (with_reducible exact LeO.refl _) | (with_reducible refine LeO.ite ?_ ?_) | (with_reducible refine LeO.bind ?_ (fun _ => ?_)) | exact LeO.none _ | exact ih0 _ _ _ _ | exact ih1 _ _ _ _ _ _ _ | exact jacquardref02_Without.mono _ _ _ | refine LeO.ite ?_ ?_ | refine LeO.bind ?_ (fun _ => ?_)
theorem jacquardref02_Table.mono : ∀ a0 k, LeO (jacquardref02_Table.f k a0) (jacquardref02_Table.f (k + 1) a0) := by
  intro a0 k
  obtain ⟨ih0, ih1⟩ := jacquardref02_Table.mono_l k
  unfold jacquardref02_Table.f
  repeat' first | (with_reducible exact LeO.refl _) | (with_reducible refine LeO.ite ?_ ?_) | (with_reducible refine LeO.bind ?_ (fun _ => ?_)) | exact LeO.none _ | exact ih0 _ _ _ _ | exact ih1 _ _ _ _ _ _ _ | exact jacquardref02_Without.mono _ _ _ | refine LeO.ite ?_ ?_ | refine LeO.bind ?_ (fun _ => ?_)
set_option maxHeartbeats 8000000 in
set_option maxRecDepth 100000 in
theorem jacquardref02_Table.calls (k : Nat) (A0 : Option Addr) (c0 : Nat) (l0 : List (List Int)) (r : List (List Bool)) (w : World) (hr0 : Kd.C (Kd.slice 3 (Kd.int .i64)) w A0 l0.length l0) (hc0 : l0.length ≤ c0) (h : jacquardref02_Table.f k l0 = some r) :
    Calls Try.prog 27 #[.slice A0 l0.length c0] w fun e w' => ∃ v0_ : Value, e = .returned (v0_) ∧ Kd.S (Kd.slice 4 Kd.bool) 32 w' w.heap.size (fun _ => True) v0_ r ∧ Below w.heap.size w w' := by
  have HR0 := Aside0.mk hr0
  have HC0 := Aside0.mk hc0
  clear hr0 hc0
  have HB := Aside0.mk (Below.refl w.heap.size w)
  have H : ((jacquardref02_Without.f k l0 (-1)).bind fun t170 => (jacquardref02_Table.l0 k l0 t170 ([] : List (List Bool)) 0)) = some r := h
  clear h
  replace H := Option.bind_eq_some_iff.mp H
  obtain ⟨t170, A20, H⟩ := H
  have A2 := Aside0.mk A20
  clear A20
  have H' := Aside0.mk H
  clear H
  go_enter Try.func27, Try.ntmps27
  go_wp2_with (first | ((with_reducible refine gate_callee (f := 28) rfl ?_); refine goesL_ (some 10) rfl rfl Try.func28 (by kernel_rfl) rfl #[.slice A0 l0.length c0, .int .i64 (-1)] rfl (by (try simp only [List.map_toArray, List.map_cons, List.map_nil]); first | done | rfl | (simp only [List.length_drop, List.length_take]; rfl)) ?_; (with_reducible refine (jacquardref02_Without.calls k _ _ l0 (-1) t170 _ ?side1 ?side2 A2.out).mono ?_); (case side1 => repeat (first | exact HR0.out | (with_reducible refine Kd.C_alloc ?_ _) | (with_reducible refine Kd.C_drewN ?_ _) | (with_reducible refine Kd.C_drew ?_))); (case side2 => exact HC0.out); rintro e w3 ⟨v171, rfl, ho0, hb⟩; refine ⟨_, rfl, ?_⟩; have n0_ := Aside0.mk (Kd.R_lower ho0 (below_size (by repeat (first | exact HB.out | apply below_alloc | apply pw_below_drewN | apply below_drew1)))); have n1_ := Aside0.mk (below_step (by repeat (first | exact HB.out | apply below_alloc | apply pw_below_drewN | apply below_drew1)) hb); clear HB; have HO172 := n0_; have HB := n1_; clear n0_ n1_; (try clear hb); (try clear hb2); (try clear hk); (try clear hi); (try clear ho0)))
  go_loopg [4, 5] k (fun kq v4 v5 w' => ∃ (x3_1 : List Bool) (x4_1 : List (List Bool)) (x5_1 : Int), v5 = .int .i64 x5_1 ∧ Aside0 (jacquardref02_Table.l0 kq l0 x3_1 x4_1 x5_1 = some r) ∧ Aside0 (kq ≤ k) ∧ Aside0 (Kd.R Kd.bool 4 w' w.heap.size (fun _ => True) v171 x3_1) ∧ Aside0 (Kd.S (Kd.slice 4 Kd.bool) 32 w' w.heap.size (fun k_ => some k_ ≠ (v171 : Value).ownBlock) v4 x4_1) ∧ Aside0 (Below w.heap.size w w'))
  case atStart => exact ⟨(t170), (([] : List (List Bool))), (0), (by first | rfl | (simp; done) | (simp [*]; done)), H', ⟨Nat.le_refl _⟩, ⟨by (with_reducible repeat (first | apply Kd.R_alloc | apply Kd.R_drewN | apply Kd.R_drew)); exact HO172.out⟩, ⟨by first | exact Kd.S_nil _ _ _ _ _ | exact Kd.N_nil _ _ _ _ _ | exact Kd.V_nil _ _ _ _ _ | exact Kd.Q_nil _ _ _ _ _ | exact Kd.R_nil _ _ _ _ _⟩, ⟨by repeat (first | exact HB.out | apply below_alloc | apply pw_below_drewN | apply below_drew1)⟩⟩
  case round =>
    clear H'; (try clear c2); (try clear p2)
    obtain ⟨x3_1, x4_1, x5_1, rfl, HA, HK1, HO_3, HO_4, HB⟩ := hrel
    cases gk with
    | zero => exact absurd HA.out (by simp [jacquardref02_Table.l0])
    | succ k1 =>
      have H := HA.out
      clear HA
      simp only [jacquardref02_Table.l0] at H
      by_cases c4 : x5_1 < (l0.length : Int)
      · rw [if_pos c4] at H
        have c4b0 : decide (x5_1 < (l0.length : Int)) = true := decide_eq_true c4
        clear c4
        by_cases c5 : 0 ≤ (l0.length : Int)
        · rw [if_pos c5] at H
          have c5b0 := eq_true c5
          have c5b1 : decide (0 ≤ (l0.length : Int)) = true := decide_eq_true c5
          clear c5
          by_cases c6 : ((l0.length : Int) : Int).toNat ≤ 281474976710656
          · rw [if_pos c6] at H
            have c6b0 := eq_true c6
            have c6b1 : decide (((l0.length : Int) : Int).toNat ≤ 281474976710656) = true := decide_eq_true c6
            clear c6
            obtain ⟨y173, hy173⟩ : ∃ y_ : List Bool, y_ = (List.replicate ((l0.length : Int) : Int).toNat false) := ⟨_, rfl⟩
            replace H : ((jacquardref02_Without.f k1 l0 x5_1).bind fun t176 => (jacquardref02_Table.l1 k1 l0 x3_1 x4_1 x5_1 y173 t176 0)) = some r := by first | (rw [hy173]; with_reducible exact H) | (have H2_ := (Option.bind_some _ _).symm.trans H; rw [hy173]; with_reducible exact H2_) | (have H2_ := (Option.bind_some _ _).symm.trans H; with_reducible exact H2_) | with_reducible exact H | (rw [hy173]; exact H) | exact H
            have Ny173 := Aside0.mk hy173
            clear hy173
            replace H := Option.bind_eq_some_iff.mp H
            obtain ⟨t176, A70, H⟩ := H
            have A7 := Aside0.mk A70
            clear A70
            have H' := Aside0.mk H
            clear H
            go_wp2_with (first | ((with_reducible refine gate_dst (N := 19) rfl ?_); refine Kd.R_make Kd.bool _ 4 rfl (N := 19) rfl 32 _ _ rfl (l0.length : Int) rfl rfl Try.underlying32 (.bool false) 1 info4 rfl (by decide) (by omega) false (ok := fun _ => True) (okp := fun _ => True) rfl (fun _ hk => hk) trivial (of_decide_eq_true (by first | (with_reducible assumption) | assumption)) (Nat.le_trans (Nat.mul_le_mul_right _ (of_decide_eq_true (by first | (with_reducible assumption) | assumption) : (l0.length : Int).toNat ≤ 281474976710656)) (by omega)) (Below.refl _ _) (Nat.le_refl _) ?_; intro v174 w8 ho9 hb hg_ hnew_; clear hg_ hnew_; (first | rw [← Ny173.out] at ho9 | (simp only [Int.reduceToNat] at ho9; rw [← Ny173.out] at ho9)); have n0_ := Aside0.mk (Kd.R_elder' (by (with_reducible repeat (first | apply Kd.R_alloc | apply Kd.R_drewN | apply Kd.R_drew)); exact HO_3.out) (Kd.R_base ho9) hb); have n1_ := Aside0.mk (Kd.S_elder' (by (with_reducible repeat (first | apply Kd.S_alloc | apply Kd.S_drewN | apply Kd.S_drew)); exact HO_4.out) (Kd.R_base ho9) hb); have n2_ := Aside0.mk (Kd.R_lower (Kd.R_new' ho9 (Kd.R_lt (by (with_reducible repeat (first | apply Kd.R_alloc | apply Kd.R_drewN | apply Kd.R_drew)); exact HO_3.out))) (below_size (by repeat (first | exact HB.out | apply below_alloc | apply pw_below_drewN | apply below_drew1)))); have n3_ := Aside0.mk (below_step (by repeat (first | exact HB.out | apply below_alloc | apply pw_below_drewN | apply below_drew1)) hb); clear HO_3; clear HO_4; clear HB; have HO_3 := n0_; have HO_4 := n1_; have HO175 := n2_; have HB := n3_; clear n0_ n1_ n2_ n3_; clear hb ho9) | ((with_reducible refine gate_callee (f := 28) rfl ?_); refine goesL_ (some 22) rfl rfl Try.func28 (by kernel_rfl) rfl #[.slice A0 l0.length c0, .int .i64 x5_1] rfl (by (try simp only [List.map_toArray, List.map_cons, List.map_nil]); first | done | rfl | (simp only [List.length_drop, List.length_take]; rfl)) ?_; (with_reducible refine (jacquardref02_Without.calls k1 _ _ l0 x5_1 t176 _ ?side1 ?side2 A7.out).mono ?_); (case side1 => repeat (first | exact (Kd.C_below HR0.out HB.out) | (with_reducible refine Kd.C_alloc ?_ _) | (with_reducible refine Kd.C_drewN ?_ _) | (with_reducible refine Kd.C_drew ?_))); (case side2 => exact HC0.out); rintro e w10 ⟨v177, rfl, ho0, hb⟩; refine ⟨_, rfl, ?_⟩; have n0_ := Aside0.mk (Kd.R_elder' (by (with_reducible repeat (first | apply Kd.R_alloc | apply Kd.R_drewN | apply Kd.R_drew)); exact HO_3.out) (Kd.R_base ho0) hb); have n1_ := Aside0.mk (Kd.S_elder' (by (with_reducible repeat (first | apply Kd.S_alloc | apply Kd.S_drewN | apply Kd.S_drew)); exact HO_4.out) (Kd.R_base ho0) hb); have n2_ := Aside0.mk (Kd.R_elder' (by (with_reducible repeat (first | apply Kd.R_alloc | apply Kd.R_drewN | apply Kd.R_drew)); exact HO175.out) (Kd.R_base ho0) hb); have n3_ := Aside0.mk (Kd.R_lower (Kd.R_new' (Kd.R_new' ho0 (Kd.R_lt (by (with_reducible repeat (first | apply Kd.R_alloc | apply Kd.R_drewN | apply Kd.R_drew)); exact HO_3.out))) (Kd.R_lt (by (with_reducible repeat (first | apply Kd.R_alloc | apply Kd.R_drewN | apply Kd.R_drew)); exact HO175.out))) (below_size (by repeat (first | exact HB.out | apply below_alloc | apply pw_below_drewN | apply below_drew1)))); have n4_ := Aside0.mk (below_step (by repeat (first | exact HB.out | apply below_alloc | apply pw_below_drewN | apply below_drew1)) hb); clear HO_3; clear HO_4; clear HO175; clear HB; have HO_3 := n0_; have HO_4 := n1_; have HO175 := n2_; have HO178 := n3_; have HB := n4_; clear n0_ n1_ n2_ n3_ n4_; (try clear hb); (try clear hb2); (try clear hk); (try clear hi); (try clear ho0)))
            go_loopg [8] k1 (fun kq v8 w' => ∃ (x6_2 : List Bool) (x8_2 : Int), v8 = .int .i64 x8_2 ∧ Aside0 (jacquardref02_Table.l1 kq l0 x3_1 x4_1 x5_1 x6_2 t176 x8_2 = some r) ∧ Aside0 (kq ≤ k1) ∧ Aside0 (Kd.R Kd.bool 4 w' w.heap.size (fun k_ => some k_ ≠ (v174 : Value).ownBlock ∧ some k_ ≠ (v177 : Value).ownBlock) v171 x3_1) ∧ Aside0 (Kd.S (Kd.slice 4 Kd.bool) 32 w' w.heap.size (fun k_ => some k_ ≠ (v171 : Value).ownBlock ∧ some k_ ≠ (v174 : Value).ownBlock ∧ some k_ ≠ (v177 : Value).ownBlock) u4 x4_1) ∧ Aside0 (Kd.R Kd.bool 4 w' w.heap.size (fun k_ => some k_ ≠ (v171 : Value).ownBlock ∧ some k_ ≠ (v177 : Value).ownBlock) v174 x6_2) ∧ Aside0 (Kd.R Kd.bool 4 w' w.heap.size (fun k_ => some k_ ≠ (v171 : Value).ownBlock ∧ some k_ ≠ (v174 : Value).ownBlock) v177 t176) ∧ Aside0 (Below w.heap.size w w'))
            case atStart => exact ⟨(y173), (0), (by first | rfl | (simp; done) | (simp [*]; done)), H', ⟨Nat.le_refl _⟩, ⟨by (with_reducible repeat (first | apply Kd.R_alloc | apply Kd.R_drewN | apply Kd.R_drew)); exact Kd.R_mono HO_3.out (fun _ hk => ⟨hk.1.2, hk.2⟩)⟩, ⟨by (with_reducible repeat (first | apply Kd.S_alloc | apply Kd.S_drewN | apply Kd.S_drew)); exact Kd.S_mono HO_4.out (fun _ hk => ⟨hk.1.1, ⟨hk.1.2, hk.2⟩⟩)⟩, ⟨by (with_reducible repeat (first | apply Kd.R_alloc | apply Kd.R_drewN | apply Kd.R_drew)); exact Kd.R_mono HO175.out (fun _ hk => ⟨hk.1.2, hk.2⟩)⟩, ⟨by (with_reducible repeat (first | apply Kd.R_alloc | apply Kd.R_drewN | apply Kd.R_drew)); exact Kd.R_mono HO178.out (fun _ hk => ⟨hk.1.2, hk.2⟩)⟩, ⟨by repeat (first | exact HB.out | apply below_alloc | apply pw_below_drewN | apply below_drew1)⟩⟩
            case round =>
              clear H'; (try clear c2); (try clear p2); (try clear c4); (try clear c4b0); (try clear c5); (try clear c5b0); (try clear c5b1); (try clear c6); (try clear c6b0); (try clear c6b1); (try clear p2)
              obtain ⟨x6_2, x8_2, rfl, HA, HK2, HO_3, HO_4, HO_6, HO_7, HB⟩ := hrel
              cases gk with
              | zero => exact absurd HA.out (by simp [jacquardref02_Table.l1])
              | succ k2 =>
                have H := HA.out
                clear HA
                simp only [jacquardref02_Table.l1] at H
                by_cases c11 : x8_2 < (l0.length : Int)
                · rw [if_pos c11] at H
                  have c11b0 : decide (x8_2 < (l0.length : Int)) = true := decide_eq_true c11
                  clear c11
                  by_cases c12 : 0 ≤ x5_1
                  · rw [if_pos c12] at H
                    have c12b0 : decide (0 ≤ x5_1) = true := decide_eq_true c12
                    clear c12
                    by_cases c13 : x5_1 < (x3_1.length : Int)
                    · rw [if_pos c13] at H
                      have c13b0 : decide (x5_1 < (x3_1.length : Int)) = true := decide_eq_true c13
                      clear c13
                      obtain ⟨bq14, hbq14⟩ : ∃ b_ : Bool, b_ = (rdOf false x3_1 x5_1) := ⟨_, rfl⟩
                      replace H : (if bq14 = true then (if 0 ≤ x8_2 then (if x8_2 < (x3_1.length : Int) then (if rdOf false x3_1 x8_2 = true then (if x5_1 = x8_2 then (if x8_2 < (x6_2.length : Int) then (jacquardref02_Table.l1 k2 l0 x3_1 x4_1 x5_1 (x6_2.set (x8_2 : Int).toNat true) t176 (wrap64 (x8_2 + 1))) else (none)) else (if x8_2 < (t176.length : Int) then (if x8_2 < (x6_2.length : Int) then (jacquardref02_Table.l1 k2 l0 x3_1 x4_1 x5_1 (x6_2.set (x8_2 : Int).toNat (!(rdOf false t176 x8_2))) t176 (wrap64 (x8_2 + 1))) else (none)) else (none))) else (if x8_2 < (x6_2.length : Int) then (jacquardref02_Table.l1 k2 l0 x3_1 x4_1 x5_1 (x6_2.set (x8_2 : Int).toNat false) t176 (wrap64 (x8_2 + 1))) else (none))) else (none)) else (none)) else (if 0 ≤ x8_2 then (if x8_2 < (x6_2.length : Int) then (jacquardref02_Table.l1 k2 l0 x3_1 x4_1 x5_1 (x6_2.set (x8_2 : Int).toNat false) t176 (wrap64 (x8_2 + 1))) else (none)) else (none))) = some r := by rw [← hbq14] at H; exact H
                      have Nbq14 := Aside0.mk hbq14
                      clear hbq14
                      by_cases c15 : bq14 = true
                      · subst c15
                        rw [if_pos rfl] at H
                        by_cases c16 : 0 ≤ x8_2
                        · rw [if_pos c16] at H
                          have c16b0 : decide (0 ≤ x8_2) = true := decide_eq_true c16
                          clear c16
                          by_cases c17 : x8_2 < (x3_1.length : Int)
                          · rw [if_pos c17] at H
                            have c17b0 : decide (x8_2 < (x3_1.length : Int)) = true := decide_eq_true c17
                            clear c17
                            obtain ⟨bq18, hbq18⟩ : ∃ b_ : Bool, b_ = (rdOf false x3_1 x8_2) := ⟨_, rfl⟩
                            replace H : (if bq18 = true then (if x5_1 = x8_2 then (if x8_2 < (x6_2.length : Int) then (jacquardref02_Table.l1 k2 l0 x3_1 x4_1 x5_1 (x6_2.set (x8_2 : Int).toNat true) t176 (wrap64 (x8_2 + 1))) else (none)) else (if x8_2 < (t176.length : Int) then (if x8_2 < (x6_2.length : Int) then (jacquardref02_Table.l1 k2 l0 x3_1 x4_1 x5_1 (x6_2.set (x8_2 : Int).toNat (!(rdOf false t176 x8_2))) t176 (wrap64 (x8_2 + 1))) else (none)) else (none))) else (if x8_2 < (x6_2.length : Int) then (jacquardref02_Table.l1 k2 l0 x3_1 x4_1 x5_1 (x6_2.set (x8_2 : Int).toNat false) t176 (wrap64 (x8_2 + 1))) else (none))) = some r := by rw [← hbq18] at H; exact H
                            have Nbq18 := Aside0.mk hbq18
                            clear hbq18
                            by_cases c19 : bq18 = true
                            · subst c19
                              rw [if_pos rfl] at H
                              by_cases c20 : x5_1 = x8_2
                              · rw [if_pos c20] at H
                                have c20b0 : (x5_1 == x8_2) = true := beq_iff_eq.mpr c20
                                have c20b1 : (x5_1 != x8_2) = false := bne_eq_false_iff_eq.mpr c20
                                clear c20
                                by_cases c21 : x8_2 < (x6_2.length : Int)
                                · rw [if_pos c21] at H
                                  have c21b0 : decide (x8_2 < (x6_2.length : Int)) = true := decide_eq_true c21
                                  clear c21
                                  obtain ⟨y181, hy181⟩ : ∃ y_ : List Bool, y_ = (x6_2.set (x8_2 : Int).toNat true) := ⟨_, rfl⟩
                                  replace H : (jacquardref02_Table.l1 k2 l0 x3_1 x4_1 x5_1 y181 t176 (wrap64 (x8_2 + 1))) = some r := by first | (rw [hy181]; with_reducible exact H) | (have H2_ := (Option.bind_some _ _).symm.trans H; rw [hy181]; with_reducible exact H2_) | (have H2_ := (Option.bind_some _ _).symm.trans H; with_reducible exact H2_) | with_reducible exact H | (rw [hy181]; exact H) | exact H
                                  have Ny181 := Aside0.mk hy181
                                  clear hy181
                                  have H' := Aside0.mk H
                                  clear H
                                  obtain ⟨Ao23, co23, eo23⟩ := Kd.R_slice HO_3.out
                                  subst eo23
                                  have p179 : 0 ≤ (x5_1 : Int) := of_decide_eq_true (by first | (with_reducible assumption) | assumption)
                                  have q179 : x5_1 < (x3_1.length : Int) := of_decide_eq_true (by first | (with_reducible assumption) | assumption)
                                  obtain ⟨ad179, e179, hx179_0⟩ := Kd.at_bool (Kd.R_reads' HO_3.out).2.2 x5_1 p179 q179
                                  (try rw [← Nbq14.out] at hx179_0)
                                  (try rw [← Nbq18.out] at hx179_0)
                                  cases e179
                                  replace p179 := eq_true p179
                                  replace q179 := eq_true q179
                                  have p180 : 0 ≤ (x8_2 : Int) := of_decide_eq_true (by first | (with_reducible assumption) | assumption)
                                  have q180 : x8_2 < (x3_1.length : Int) := of_decide_eq_true (by first | (with_reducible assumption) | assumption)
                                  obtain ⟨ad180, e180, hx180_0⟩ := Kd.at_bool (Kd.R_reads' HO_3.out).2.2 x8_2 p180 q180
                                  (try rw [← Nbq14.out] at hx180_0)
                                  (try rw [← Nbq18.out] at hx180_0)
                                  obtain rfl : ad179 = ad180 := (by injection e180)
                                  replace p180 := eq_true p180
                                  replace q180 := eq_true q180
                                  have p22 : 0 ≤ (x8_2 : Int) := of_decide_eq_true (by first | (with_reducible assumption) | assumption)
                                  have q22 : (x8_2 : Int) < ((x6_2.length : Int) : Int) := of_decide_eq_true (by first | (with_reducible assumption) | assumption)
                                  obtain ⟨go22, co22, eo22, gb22, gl22, cl22, HG22⟩ := Kd.R_form HO_6.out (by omega)
                                  (first | cases eo22 | (injection eo22 with ea_ en_ ec_; (first | subst ea_ | (injection ea_ with ea_; subst ea_)); subst ec_; clear en_))
                                  have GB22 := Aside0.mk gb22
                                  have GG22 := Aside0.mk HG22
                                  clear gb22 gl22 HG22
                                  obtain ⟨hx22_0, hf22_0⟩ := Kd.R_celln false HO_6.out (x8_2 : Int) p22 q22
                                  replace p22 := eq_true p22
                                  replace q22 := eq_true q22
                                  have HP24 := Kd.R_putg HO_6.out (x8_2 : Int) true
                                  go_wp2_with (first | ((with_reducible refine gate_store (t := 4) (p := 53) rfl ?_); refine store_event (t := 4) (p := 53) (v := ?vo_w25) (w1 := (wr.setCell ⟨go22, (x8_2 : Int).toNat, none⟩ (.bool true))) ?hg ?ho ?hn ?hr ?_; (case ho => rfl); (case hg => rfl); (case hn => rfl); (case hr => first | (go_simp; done) | (go_simp; rfl)); intro w25 hw; have hg : wr.grownBy w25 (some go22) := (by rw [hw]; exact HP24.2); have hp_ : Kd.R Kd.bool 4 w25 w.heap.size (fun k_ => some k_ ≠ (.slice (some ad179) x3_1.length co23 : Value).ownBlock ∧ some k_ ≠ (v177 : Value).ownBlock) (.slice (some ⟨go22, 0, none⟩) x6_2.length co22) y181 := (by rw [hw, Ny181.out]; exact HP24.1); clear HP24; have n0_ := Aside0.mk (Kd.R_after (v := (.slice (some ⟨go22, 0, none⟩) x6_2.length co22)) (v1 := (.slice (some ⟨go22, 0, none⟩) x6_2.length co22)) (ok := (fun k_ => some k_ ≠ (v177 : Value).ownBlock)) (by (with_reducible repeat (first | apply Kd.R_alloc | apply Kd.R_drewN | apply Kd.R_drew)); exact Kd.R_mono HO_3.out (fun _ hk => ⟨hk.2, hk.1⟩)) hg (.inl rfl)); have n1_ := Aside0.mk (Kd.S_after (v := (.slice (some ⟨go22, 0, none⟩) x6_2.length co22)) (v1 := (.slice (some ⟨go22, 0, none⟩) x6_2.length co22)) (ok := (fun k_ => some k_ ≠ (.slice (some ad179) x3_1.length co23 : Value).ownBlock ∧ some k_ ≠ (v177 : Value).ownBlock)) (by (with_reducible repeat (first | apply Kd.S_alloc | apply Kd.S_drewN | apply Kd.S_drew)); exact Kd.S_mono HO_4.out (fun _ hk => ⟨⟨hk.1, hk.2.2⟩, hk.2.1⟩)) hg (.inl rfl)); have n2_ := Aside0.mk (hp_); have n3_ := Aside0.mk (Kd.R_after (v := (.slice (some ⟨go22, 0, none⟩) x6_2.length co22)) (v1 := (.slice (some ⟨go22, 0, none⟩) x6_2.length co22)) (ok := (fun k_ => some k_ ≠ (.slice (some ad179) x3_1.length co23 : Value).ownBlock)) (by (with_reducible repeat (first | apply Kd.R_alloc | apply Kd.R_drewN | apply Kd.R_drew)); exact HO_7.out) hg (.inl rfl)); have n4_ := Aside0.mk ((by rw [hw]; exact below_set (HB.out) GB22.out : Below w.heap.size w w25)); clear HO_3; clear HO_4; clear HO_6; clear HO_7; clear HB; have HO_3 := n0_; have HO_4 := n1_; have HO_6 := n2_; have HO_7 := n3_; have HB := n4_; clear n0_ n1_ n2_ n3_ n4_; clear hg hw hp_))
                                  go_roundg k2
                                  case measure => have := HK1.out; have := HK2.out; omega
                                  case rel => exact ⟨(y181), (wrap64 (x8_2 + 1)), (by first | rfl | (simp; done) | (simp [*]; done)), H', ⟨by have := HK1.out; have := HK2.out; omega⟩, ⟨by (with_reducible repeat (first | apply Kd.R_alloc | apply Kd.R_drewN | apply Kd.R_drew)); exact Kd.R_mono HO_3.out (fun _ hk => ⟨hk.2, hk.1⟩)⟩, ⟨by (with_reducible repeat (first | apply Kd.S_alloc | apply Kd.S_drewN | apply Kd.S_drew)); exact Kd.S_mono HO_4.out (fun _ hk => ⟨hk.1.1, ⟨hk.2, hk.1.2⟩⟩)⟩, ⟨by (with_reducible repeat (first | apply Kd.R_alloc | apply Kd.R_drewN | apply Kd.R_drew)); exact HO_6.out⟩, ⟨by (with_reducible repeat (first | apply Kd.R_alloc | apply Kd.R_drewN | apply Kd.R_drew)); exact HO_7.out⟩, ⟨by repeat (first | exact HB.out | apply below_alloc | apply pw_below_drewN | apply below_drew1)⟩⟩
                                · rw [if_neg c21] at H
                                  exact absurd H (by simp)
                              · rw [if_neg c20] at H
                                have c20b0 : (x5_1 == x8_2) = false := beq_eq_false_iff_ne.mpr c20
                                have c20b1 : (x5_1 != x8_2) = true := bne_iff_ne.mpr c20
                                by_cases c26 : x8_2 < (t176.length : Int)
                                · rw [if_pos c26] at H
                                  have c26b0 : decide (x8_2 < (t176.length : Int)) = true := decide_eq_true c26
                                  clear c26
                                  by_cases c27 : x8_2 < (x6_2.length : Int)
                                  · rw [if_pos c27] at H
                                    have c27b0 : decide (x8_2 < (x6_2.length : Int)) = true := decide_eq_true c27
                                    clear c27
                                    obtain ⟨y183, hy183⟩ : ∃ y_ : List Bool, y_ = (x6_2.set (x8_2 : Int).toNat (!(rdOf false t176 x8_2))) := ⟨_, rfl⟩
                                    replace H : (jacquardref02_Table.l1 k2 l0 x3_1 x4_1 x5_1 y183 t176 (wrap64 (x8_2 + 1))) = some r := by first | (rw [hy183]; with_reducible exact H) | (have H2_ := (Option.bind_some _ _).symm.trans H; rw [hy183]; with_reducible exact H2_) | (have H2_ := (Option.bind_some _ _).symm.trans H; with_reducible exact H2_) | with_reducible exact H | (rw [hy183]; exact H) | exact H
                                    have Ny183 := Aside0.mk hy183
                                    clear hy183
                                    have H' := Aside0.mk H
                                    clear H
                                    obtain ⟨Ao29, co29, eo29⟩ := Kd.R_slice HO_3.out
                                    subst eo29
                                    have p179 : 0 ≤ (x5_1 : Int) := of_decide_eq_true (by first | (with_reducible assumption) | assumption)
                                    have q179 : x5_1 < (x3_1.length : Int) := of_decide_eq_true (by first | (with_reducible assumption) | assumption)
                                    obtain ⟨ad179, e179, hx179_0⟩ := Kd.at_bool (Kd.R_reads' HO_3.out).2.2 x5_1 p179 q179
                                    (try rw [← Nbq14.out] at hx179_0)
                                    (try rw [← Nbq18.out] at hx179_0)
                                    cases e179
                                    replace p179 := eq_true p179
                                    replace q179 := eq_true q179
                                    have p180 : 0 ≤ (x8_2 : Int) := of_decide_eq_true (by first | (with_reducible assumption) | assumption)
                                    have q180 : x8_2 < (x3_1.length : Int) := of_decide_eq_true (by first | (with_reducible assumption) | assumption)
                                    obtain ⟨ad180, e180, hx180_0⟩ := Kd.at_bool (Kd.R_reads' HO_3.out).2.2 x8_2 p180 q180
                                    (try rw [← Nbq14.out] at hx180_0)
                                    (try rw [← Nbq18.out] at hx180_0)
                                    obtain rfl : ad179 = ad180 := (by injection e180)
                                    replace p180 := eq_true p180
                                    replace q180 := eq_true q180
                                    obtain ⟨Ao30, co30, eo30⟩ := Kd.R_slice HO_7.out
                                    subst eo30
                                    have p182 : 0 ≤ (x8_2 : Int) := of_decide_eq_true (by first | (with_reducible assumption) | assumption)
                                    have q182 : x8_2 < (t176.length : Int) := of_decide_eq_true (by first | (with_reducible assumption) | assumption)
                                    obtain ⟨ad182, e182, hx182_0⟩ := Kd.at_bool (Kd.R_reads' HO_7.out).2.2 x8_2 p182 q182
                                    (try rw [← Nbq14.out] at hx182_0)
                                    (try rw [← Nbq18.out] at hx182_0)
                                    cases e182
                                    replace p182 := eq_true p182
                                    replace q182 := eq_true q182
                                    have p28 : 0 ≤ (x8_2 : Int) := of_decide_eq_true (by first | (with_reducible assumption) | assumption)
                                    have q28 : (x8_2 : Int) < ((x6_2.length : Int) : Int) := of_decide_eq_true (by first | (with_reducible assumption) | assumption)
                                    obtain ⟨go28, co28, eo28, gb28, gl28, cl28, HG28⟩ := Kd.R_form HO_6.out (by omega)
                                    (first | cases eo28 | (injection eo28 with ea_ en_ ec_; (first | subst ea_ | (injection ea_ with ea_; subst ea_)); subst ec_; clear en_))
                                    have GB28 := Aside0.mk gb28
                                    have GG28 := Aside0.mk HG28
                                    clear gb28 gl28 HG28
                                    obtain ⟨hx28_0, hf28_0⟩ := Kd.R_celln false HO_6.out (x8_2 : Int) p28 q28
                                    replace p28 := eq_true p28
                                    replace q28 := eq_true q28
                                    have HP31 := Kd.R_putg HO_6.out (x8_2 : Int) (!(rdOf false t176 x8_2))
                                    go_wp2_with (first | ((with_reducible refine gate_store (t := 4) (p := 53) rfl ?_); refine store_event (t := 4) (p := 53) (v := ?vo_w32) (w1 := (wr.setCell ⟨go28, (x8_2 : Int).toNat, none⟩ (.bool (!(rdOf false t176 x8_2))))) ?hg ?ho ?hn ?hr ?_; (case ho => rfl); (case hg => rfl); (case hn => rfl); (case hr => first | (go_simp; done) | (go_simp; rfl)); intro w32 hw; have hg : wr.grownBy w32 (some go28) := (by rw [hw]; exact HP31.2); have hp_ : Kd.R Kd.bool 4 w32 w.heap.size (fun k_ => some k_ ≠ (.slice (some ad179) x3_1.length co29 : Value).ownBlock ∧ some k_ ≠ (.slice (some ad182) t176.length co30 : Value).ownBlock) (.slice (some ⟨go28, 0, none⟩) x6_2.length co28) y183 := (by rw [hw, Ny183.out]; exact HP31.1); clear HP31; have n0_ := Aside0.mk (Kd.R_after (v := (.slice (some ⟨go28, 0, none⟩) x6_2.length co28)) (v1 := (.slice (some ⟨go28, 0, none⟩) x6_2.length co28)) (ok := (fun k_ => some k_ ≠ (.slice (some ad182) t176.length co30 : Value).ownBlock)) (by (with_reducible repeat (first | apply Kd.R_alloc | apply Kd.R_drewN | apply Kd.R_drew)); exact Kd.R_mono HO_3.out (fun _ hk => ⟨hk.2, hk.1⟩)) hg (.inl rfl)); have n1_ := Aside0.mk (Kd.S_after (v := (.slice (some ⟨go28, 0, none⟩) x6_2.length co28)) (v1 := (.slice (some ⟨go28, 0, none⟩) x6_2.length co28)) (ok := (fun k_ => some k_ ≠ (.slice (some ad179) x3_1.length co29 : Value).ownBlock ∧ some k_ ≠ (.slice (some ad182) t176.length co30 : Value).ownBlock)) (by (with_reducible repeat (first | apply Kd.S_alloc | apply Kd.S_drewN | apply Kd.S_drew)); exact Kd.S_mono HO_4.out (fun _ hk => ⟨⟨hk.1, hk.2.2⟩, hk.2.1⟩)) hg (.inl rfl)); have n2_ := Aside0.mk (hp_); have n3_ := Aside0.mk (Kd.R_after (v := (.slice (some ⟨go28, 0, none⟩) x6_2.length co28)) (v1 := (.slice (some ⟨go28, 0, none⟩) x6_2.length co28)) (ok := (fun k_ => some k_ ≠ (.slice (some ad179) x3_1.length co29 : Value).ownBlock)) (by (with_reducible repeat (first | apply Kd.R_alloc | apply Kd.R_drewN | apply Kd.R_drew)); exact HO_7.out) hg (.inl rfl)); have n4_ := Aside0.mk ((by rw [hw]; exact below_set (HB.out) GB28.out : Below w.heap.size w w32)); clear HO_3; clear HO_4; clear HO_6; clear HO_7; clear HB; have HO_3 := n0_; have HO_4 := n1_; have HO_6 := n2_; have HO_7 := n3_; have HB := n4_; clear n0_ n1_ n2_ n3_ n4_; clear hg hw hp_))
                                    go_roundg k2
                                    case measure => have := HK1.out; have := HK2.out; omega
                                    case rel => exact ⟨(y183), (wrap64 (x8_2 + 1)), (by first | rfl | (simp; done) | (simp [*]; done)), H', ⟨by have := HK1.out; have := HK2.out; omega⟩, ⟨by (with_reducible repeat (first | apply Kd.R_alloc | apply Kd.R_drewN | apply Kd.R_drew)); exact Kd.R_mono HO_3.out (fun _ hk => ⟨hk.2, hk.1⟩)⟩, ⟨by (with_reducible repeat (first | apply Kd.S_alloc | apply Kd.S_drewN | apply Kd.S_drew)); exact Kd.S_mono HO_4.out (fun _ hk => ⟨hk.1.1, ⟨hk.2, hk.1.2⟩⟩)⟩, ⟨by (with_reducible repeat (first | apply Kd.R_alloc | apply Kd.R_drewN | apply Kd.R_drew)); exact HO_6.out⟩, ⟨by (with_reducible repeat (first | apply Kd.R_alloc | apply Kd.R_drewN | apply Kd.R_drew)); exact HO_7.out⟩, ⟨by repeat (first | exact HB.out | apply below_alloc | apply pw_below_drewN | apply below_drew1)⟩⟩
                                  · rw [if_neg c27] at H
                                    exact absurd H (by simp)
                                · rw [if_neg c26] at H
                                  exact absurd H (by simp)
                            · replace c19 := Bool.eq_false_iff.mpr c19
                              subst c19
                              rw [if_neg (show ¬ (false = true) by decide)] at H
                              by_cases c33 : x8_2 < (x6_2.length : Int)
                              · rw [if_pos c33] at H
                                have c33b0 : decide (x8_2 < (x6_2.length : Int)) = true := decide_eq_true c33
                                clear c33
                                obtain ⟨y184, hy184⟩ : ∃ y_ : List Bool, y_ = (x6_2.set (x8_2 : Int).toNat false) := ⟨_, rfl⟩
                                replace H : (jacquardref02_Table.l1 k2 l0 x3_1 x4_1 x5_1 y184 t176 (wrap64 (x8_2 + 1))) = some r := by first | (rw [hy184]; with_reducible exact H) | (have H2_ := (Option.bind_some _ _).symm.trans H; rw [hy184]; with_reducible exact H2_) | (have H2_ := (Option.bind_some _ _).symm.trans H; with_reducible exact H2_) | with_reducible exact H | (rw [hy184]; exact H) | exact H
                                have Ny184 := Aside0.mk hy184
                                clear hy184
                                have H' := Aside0.mk H
                                clear H
                                obtain ⟨Ao35, co35, eo35⟩ := Kd.R_slice HO_3.out
                                subst eo35
                                have p179 : 0 ≤ (x5_1 : Int) := of_decide_eq_true (by first | (with_reducible assumption) | assumption)
                                have q179 : x5_1 < (x3_1.length : Int) := of_decide_eq_true (by first | (with_reducible assumption) | assumption)
                                obtain ⟨ad179, e179, hx179_0⟩ := Kd.at_bool (Kd.R_reads' HO_3.out).2.2 x5_1 p179 q179
                                (try rw [← Nbq14.out] at hx179_0)
                                (try rw [← Nbq18.out] at hx179_0)
                                cases e179
                                replace p179 := eq_true p179
                                replace q179 := eq_true q179
                                have p180 : 0 ≤ (x8_2 : Int) := of_decide_eq_true (by first | (with_reducible assumption) | assumption)
                                have q180 : x8_2 < (x3_1.length : Int) := of_decide_eq_true (by first | (with_reducible assumption) | assumption)
                                obtain ⟨ad180, e180, hx180_0⟩ := Kd.at_bool (Kd.R_reads' HO_3.out).2.2 x8_2 p180 q180
                                (try rw [← Nbq14.out] at hx180_0)
                                (try rw [← Nbq18.out] at hx180_0)
                                obtain rfl : ad179 = ad180 := (by injection e180)
                                replace p180 := eq_true p180
                                replace q180 := eq_true q180
                                have p34 : 0 ≤ (x8_2 : Int) := of_decide_eq_true (by first | (with_reducible assumption) | assumption)
                                have q34 : (x8_2 : Int) < ((x6_2.length : Int) : Int) := of_decide_eq_true (by first | (with_reducible assumption) | assumption)
                                obtain ⟨go34, co34, eo34, gb34, gl34, cl34, HG34⟩ := Kd.R_form HO_6.out (by omega)
                                (first | cases eo34 | (injection eo34 with ea_ en_ ec_; (first | subst ea_ | (injection ea_ with ea_; subst ea_)); subst ec_; clear en_))
                                have GB34 := Aside0.mk gb34
                                have GG34 := Aside0.mk HG34
                                clear gb34 gl34 HG34
                                obtain ⟨hx34_0, hf34_0⟩ := Kd.R_celln false HO_6.out (x8_2 : Int) p34 q34
                                replace p34 := eq_true p34
                                replace q34 := eq_true q34
                                have HP36 := Kd.R_putg HO_6.out (x8_2 : Int) false
                                go_wp2_with (first | ((with_reducible refine gate_store (t := 4) (p := 53) rfl ?_); refine store_event (t := 4) (p := 53) (v := ?vo_w37) (w1 := (wr.setCell ⟨go34, (x8_2 : Int).toNat, none⟩ (.bool false))) ?hg ?ho ?hn ?hr ?_; (case ho => rfl); (case hg => rfl); (case hn => rfl); (case hr => first | (go_simp; done) | (go_simp; rfl)); intro w37 hw; have hg : wr.grownBy w37 (some go34) := (by rw [hw]; exact HP36.2); have hp_ : Kd.R Kd.bool 4 w37 w.heap.size (fun k_ => some k_ ≠ (.slice (some ad179) x3_1.length co35 : Value).ownBlock ∧ some k_ ≠ (v177 : Value).ownBlock) (.slice (some ⟨go34, 0, none⟩) x6_2.length co34) y184 := (by rw [hw, Ny184.out]; exact HP36.1); clear HP36; have n0_ := Aside0.mk (Kd.R_after (v := (.slice (some ⟨go34, 0, none⟩) x6_2.length co34)) (v1 := (.slice (some ⟨go34, 0, none⟩) x6_2.length co34)) (ok := (fun k_ => some k_ ≠ (v177 : Value).ownBlock)) (by (with_reducible repeat (first | apply Kd.R_alloc | apply Kd.R_drewN | apply Kd.R_drew)); exact Kd.R_mono HO_3.out (fun _ hk => ⟨hk.2, hk.1⟩)) hg (.inl rfl)); have n1_ := Aside0.mk (Kd.S_after (v := (.slice (some ⟨go34, 0, none⟩) x6_2.length co34)) (v1 := (.slice (some ⟨go34, 0, none⟩) x6_2.length co34)) (ok := (fun k_ => some k_ ≠ (.slice (some ad179) x3_1.length co35 : Value).ownBlock ∧ some k_ ≠ (v177 : Value).ownBlock)) (by (with_reducible repeat (first | apply Kd.S_alloc | apply Kd.S_drewN | apply Kd.S_drew)); exact Kd.S_mono HO_4.out (fun _ hk => ⟨⟨hk.1, hk.2.2⟩, hk.2.1⟩)) hg (.inl rfl)); have n2_ := Aside0.mk (hp_); have n3_ := Aside0.mk (Kd.R_after (v := (.slice (some ⟨go34, 0, none⟩) x6_2.length co34)) (v1 := (.slice (some ⟨go34, 0, none⟩) x6_2.length co34)) (ok := (fun k_ => some k_ ≠ (.slice (some ad179) x3_1.length co35 : Value).ownBlock)) (by (with_reducible repeat (first | apply Kd.R_alloc | apply Kd.R_drewN | apply Kd.R_drew)); exact HO_7.out) hg (.inl rfl)); have n4_ := Aside0.mk ((by rw [hw]; exact below_set (HB.out) GB34.out : Below w.heap.size w w37)); clear HO_3; clear HO_4; clear HO_6; clear HO_7; clear HB; have HO_3 := n0_; have HO_4 := n1_; have HO_6 := n2_; have HO_7 := n3_; have HB := n4_; clear n0_ n1_ n2_ n3_ n4_; clear hg hw hp_))
                                go_roundg k2
                                case measure => have := HK1.out; have := HK2.out; omega
                                case rel => exact ⟨(y184), (wrap64 (x8_2 + 1)), (by first | rfl | (simp; done) | (simp [*]; done)), H', ⟨by have := HK1.out; have := HK2.out; omega⟩, ⟨by (with_reducible repeat (first | apply Kd.R_alloc | apply Kd.R_drewN | apply Kd.R_drew)); exact Kd.R_mono HO_3.out (fun _ hk => ⟨hk.2, hk.1⟩)⟩, ⟨by (with_reducible repeat (first | apply Kd.S_alloc | apply Kd.S_drewN | apply Kd.S_drew)); exact Kd.S_mono HO_4.out (fun _ hk => ⟨hk.1.1, ⟨hk.2, hk.1.2⟩⟩)⟩, ⟨by (with_reducible repeat (first | apply Kd.R_alloc | apply Kd.R_drewN | apply Kd.R_drew)); exact HO_6.out⟩, ⟨by (with_reducible repeat (first | apply Kd.R_alloc | apply Kd.R_drewN | apply Kd.R_drew)); exact HO_7.out⟩, ⟨by repeat (first | exact HB.out | apply below_alloc | apply pw_below_drewN | apply below_drew1)⟩⟩
                              · rw [if_neg c33] at H
                                exact absurd H (by simp)
                          · rw [if_neg c17] at H
                            exact absurd H (by simp)
                        · rw [if_neg c16] at H
                          exact absurd H (by simp)
                      · replace c15 := Bool.eq_false_iff.mpr c15
                        subst c15
                        rw [if_neg (show ¬ (false = true) by decide)] at H
                        by_cases c38 : 0 ≤ x8_2
                        · rw [if_pos c38] at H
                          have c38b0 : decide (0 ≤ x8_2) = true := decide_eq_true c38
                          clear c38
                          by_cases c39 : x8_2 < (x6_2.length : Int)
                          · rw [if_pos c39] at H
                            have c39b0 : decide (x8_2 < (x6_2.length : Int)) = true := decide_eq_true c39
                            clear c39
                            obtain ⟨y185, hy185⟩ : ∃ y_ : List Bool, y_ = (x6_2.set (x8_2 : Int).toNat false) := ⟨_, rfl⟩
                            replace H : (jacquardref02_Table.l1 k2 l0 x3_1 x4_1 x5_1 y185 t176 (wrap64 (x8_2 + 1))) = some r := by first | (rw [hy185]; with_reducible exact H) | (have H2_ := (Option.bind_some _ _).symm.trans H; rw [hy185]; with_reducible exact H2_) | (have H2_ := (Option.bind_some _ _).symm.trans H; with_reducible exact H2_) | with_reducible exact H | (rw [hy185]; exact H) | exact H
                            have Ny185 := Aside0.mk hy185
                            clear hy185
                            have H' := Aside0.mk H
                            clear H
                            obtain ⟨Ao41, co41, eo41⟩ := Kd.R_slice HO_3.out
                            subst eo41
                            have p179 : 0 ≤ (x5_1 : Int) := of_decide_eq_true (by first | (with_reducible assumption) | assumption)
                            have q179 : x5_1 < (x3_1.length : Int) := of_decide_eq_true (by first | (with_reducible assumption) | assumption)
                            obtain ⟨ad179, e179, hx179_0⟩ := Kd.at_bool (Kd.R_reads' HO_3.out).2.2 x5_1 p179 q179
                            (try rw [← Nbq14.out] at hx179_0)
                            cases e179
                            replace p179 := eq_true p179
                            replace q179 := eq_true q179
                            have p40 : 0 ≤ (x8_2 : Int) := of_decide_eq_true (by first | (with_reducible assumption) | assumption)
                            have q40 : (x8_2 : Int) < ((x6_2.length : Int) : Int) := of_decide_eq_true (by first | (with_reducible assumption) | assumption)
                            obtain ⟨go40, co40, eo40, gb40, gl40, cl40, HG40⟩ := Kd.R_form HO_6.out (by omega)
                            (first | cases eo40 | (injection eo40 with ea_ en_ ec_; (first | subst ea_ | (injection ea_ with ea_; subst ea_)); subst ec_; clear en_))
                            have GB40 := Aside0.mk gb40
                            have GG40 := Aside0.mk HG40
                            clear gb40 gl40 HG40
                            obtain ⟨hx40_0, hf40_0⟩ := Kd.R_celln false HO_6.out (x8_2 : Int) p40 q40
                            replace p40 := eq_true p40
                            replace q40 := eq_true q40
                            have HP42 := Kd.R_putg HO_6.out (x8_2 : Int) false
                            go_wp2_with (first | ((with_reducible refine gate_store (t := 4) (p := 53) rfl ?_); refine store_event (t := 4) (p := 53) (v := ?vo_w43) (w1 := (wr.setCell ⟨go40, (x8_2 : Int).toNat, none⟩ (.bool false))) ?hg ?ho ?hn ?hr ?_; (case ho => rfl); (case hg => rfl); (case hn => rfl); (case hr => first | (go_simp; done) | (go_simp; rfl)); intro w43 hw; have hg : wr.grownBy w43 (some go40) := (by rw [hw]; exact HP42.2); have hp_ : Kd.R Kd.bool 4 w43 w.heap.size (fun k_ => some k_ ≠ (.slice (some ad179) x3_1.length co41 : Value).ownBlock ∧ some k_ ≠ (v177 : Value).ownBlock) (.slice (some ⟨go40, 0, none⟩) x6_2.length co40) y185 := (by rw [hw, Ny185.out]; exact HP42.1); clear HP42; have n0_ := Aside0.mk (Kd.R_after (v := (.slice (some ⟨go40, 0, none⟩) x6_2.length co40)) (v1 := (.slice (some ⟨go40, 0, none⟩) x6_2.length co40)) (ok := (fun k_ => some k_ ≠ (v177 : Value).ownBlock)) (by (with_reducible repeat (first | apply Kd.R_alloc | apply Kd.R_drewN | apply Kd.R_drew)); exact Kd.R_mono HO_3.out (fun _ hk => ⟨hk.2, hk.1⟩)) hg (.inl rfl)); have n1_ := Aside0.mk (Kd.S_after (v := (.slice (some ⟨go40, 0, none⟩) x6_2.length co40)) (v1 := (.slice (some ⟨go40, 0, none⟩) x6_2.length co40)) (ok := (fun k_ => some k_ ≠ (.slice (some ad179) x3_1.length co41 : Value).ownBlock ∧ some k_ ≠ (v177 : Value).ownBlock)) (by (with_reducible repeat (first | apply Kd.S_alloc | apply Kd.S_drewN | apply Kd.S_drew)); exact Kd.S_mono HO_4.out (fun _ hk => ⟨⟨hk.1, hk.2.2⟩, hk.2.1⟩)) hg (.inl rfl)); have n2_ := Aside0.mk (hp_); have n3_ := Aside0.mk (Kd.R_after (v := (.slice (some ⟨go40, 0, none⟩) x6_2.length co40)) (v1 := (.slice (some ⟨go40, 0, none⟩) x6_2.length co40)) (ok := (fun k_ => some k_ ≠ (.slice (some ad179) x3_1.length co41 : Value).ownBlock)) (by (with_reducible repeat (first | apply Kd.R_alloc | apply Kd.R_drewN | apply Kd.R_drew)); exact HO_7.out) hg (.inl rfl)); have n4_ := Aside0.mk ((by rw [hw]; exact below_set (HB.out) GB40.out : Below w.heap.size w w43)); clear HO_3; clear HO_4; clear HO_6; clear HO_7; clear HB; have HO_3 := n0_; have HO_4 := n1_; have HO_6 := n2_; have HO_7 := n3_; have HB := n4_; clear n0_ n1_ n2_ n3_ n4_; clear hg hw hp_))
                            go_roundg k2
                            case measure => have := HK1.out; have := HK2.out; omega
                            case rel => exact ⟨(y185), (wrap64 (x8_2 + 1)), (by first | rfl | (simp; done) | (simp [*]; done)), H', ⟨by have := HK1.out; have := HK2.out; omega⟩, ⟨by (with_reducible repeat (first | apply Kd.R_alloc | apply Kd.R_drewN | apply Kd.R_drew)); exact Kd.R_mono HO_3.out (fun _ hk => ⟨hk.2, hk.1⟩)⟩, ⟨by (with_reducible repeat (first | apply Kd.S_alloc | apply Kd.S_drewN | apply Kd.S_drew)); exact Kd.S_mono HO_4.out (fun _ hk => ⟨hk.1.1, ⟨hk.2, hk.1.2⟩⟩)⟩, ⟨by (with_reducible repeat (first | apply Kd.R_alloc | apply Kd.R_drewN | apply Kd.R_drew)); exact HO_6.out⟩, ⟨by (with_reducible repeat (first | apply Kd.R_alloc | apply Kd.R_drewN | apply Kd.R_drew)); exact HO_7.out⟩, ⟨by repeat (first | exact HB.out | apply below_alloc | apply pw_below_drewN | apply below_drew1)⟩⟩
                          · rw [if_neg c39] at H
                            exact absurd H (by simp)
                        · rw [if_neg c38] at H
                          exact absurd H (by simp)
                    · rw [if_neg c13] at H
                      exact absurd H (by simp)
                  · rw [if_neg c12] at H
                    exact absurd H (by simp)
                · rw [if_neg c11] at H
                  have c11b0 : decide (x8_2 < (l0.length : Int)) = false := decide_eq_false c11
                  clear c11
                  by_cases c44 : x4_1.length < 5864062014805
                  · rw [if_pos c44] at H
                    have LMc44 := Aside0.mk c44
                    clear c44
                    obtain ⟨y186, hy186⟩ : ∃ y_ : List (List Bool), y_ = (x4_1 ++ [x6_2]) := ⟨_, rfl⟩
                    replace H : (jacquardref02_Table.l0 k2 l0 x3_1 y186 (wrap64 (x5_1 + 1))) = some r := by first | (rw [hy186]; with_reducible exact H) | (have H2_ := (Option.bind_some _ _).symm.trans H; rw [hy186]; with_reducible exact H2_) | (have H2_ := (Option.bind_some _ _).symm.trans H; with_reducible exact H2_) | with_reducible exact H | (rw [hy186]; exact H) | exact H
                    have Ny186 := Aside0.mk hy186
                    clear hy186
                    have H' := Aside0.mk H
                    clear H
                    obtain ⟨Ao46, co46, eo46⟩ := Kd.R_slice HO_6.out
                    subst eo46
                    go_wp2_with (first | ((with_reducible refine gate_builtin (b := .append) (xs := #[.tmp 54, .tmp 56]) rfl ?_); at_builtin; refine Kd.S_append (Kd.slice 4 Kd.bool) (w0 := w) w.heap.size rfl (.tmp 54) (.tmp 56) 30 32 (.slice none 0 0) 24 rfl Try.underlying30 info32 rfl (by decide) (by omega) u4 x4_1 x6_2 [.slice Ao46 x6_2.length co46] (fun k_ => some k_ ≠ (v171 : Value).ownBlock ∧ some k_ ≠ (v177 : Value).ownBlock) (fun k_ => some k_ = (.slice Ao46 x6_2.length co46 : Value).ownBlock) rfl rfl ?aP (fun k_ hk_ => ((Kd.R_mono (ok' := fun k_ => ((fun k_ => some k_ ≠ (v171 : Value).ownBlock ∧ some k_ ≠ (v177 : Value).ownBlock)) k_ ∧ some k_ ≠ (u4 : Value).ownBlock) (Kd.R_apart' (HO_6.out) (Kd.S_typed HO_4.out) (by decide)) (fun k_ hk => ⟨⟨hk.1.1, hk.1.2⟩, hk.2⟩))).1 k_ hk_.symm) ?aF ?aO ?aB ?aS ?aL ?_; (case aP => exact Kd.M_row (Kd.R_mono (Kd.R_tight rfl (Kd.R_mono (ok' := fun k_ => ((fun k_ => some k_ ≠ (v171 : Value).ownBlock ∧ some k_ ≠ (v177 : Value).ownBlock)) k_ ∧ some k_ ≠ (u4 : Value).ownBlock) (Kd.R_apart' (HO_6.out) (Kd.S_typed HO_4.out) (by decide)) (fun k_ hk => ⟨⟨hk.1.1, hk.1.2⟩, hk.2⟩))) (fun _ h_ => h_))); (case aB => exact (by repeat (first | exact HB.out | apply below_alloc | apply pw_below_drewN | apply below_drew1))); (case aF => exact (fun k_ hk => ⟨Kd.fresh' (Kd.R_lt (by (with_reducible repeat (first | apply Kd.R_alloc | apply Kd.R_drewN | apply Kd.R_drew)); exact HO_3.out)) k_ hk, Kd.fresh' (Kd.R_lt (by (with_reducible repeat (first | apply Kd.R_alloc | apply Kd.R_drewN | apply Kd.R_drew)); exact HO_7.out)) k_ hk⟩)); (case aO => exact (by (with_reducible repeat (first | apply Kd.S_alloc | apply Kd.S_drewN | apply Kd.S_drew)); exact Kd.S_mono HO_4.out (fun k_ hk => ⟨⟨hk.1, hk.2.2⟩, fun e_ => hk.2.1 e_⟩))); (case aS => exact (below_size (by repeat (first | exact HB.out | apply below_alloc | apply pw_below_drewN | apply below_drew1)))); (case aL => have := LMc44.out; omega); intro v187 w45 ho hb hg hat; rw [← Ny186.out] at ho; have n0_ := Aside0.mk (Kd.R_over' (by (with_reducible repeat (first | apply Kd.R_alloc | apply Kd.R_drewN | apply Kd.R_drew)); exact HO_3.out) (Kd.S_typed (by (with_reducible repeat (first | apply Kd.S_alloc | apply Kd.S_drewN | apply Kd.S_drew)); exact HO_4.out)) (by decide) hg); have n1_ := Aside0.mk (Kd.R_over' (by (with_reducible repeat (first | apply Kd.R_alloc | apply Kd.R_drewN | apply Kd.R_drew)); exact HO_7.out) (Kd.S_typed (by (with_reducible repeat (first | apply Kd.S_alloc | apply Kd.S_drewN | apply Kd.S_drew)); exact HO_4.out)) (by decide) hg); have n2_ := Aside0.mk (hb); have n3_ := Aside0.mk (ho); clear HO_3; clear HO_7; clear HB; clear HO_4; clear HO_6; have HO_3 := n0_; have HO_7 := n1_; have HB := n2_; have HO188 := n3_; clear n0_ n1_ n2_ n3_; clear ho hb hg hat))
                    go_roundg k2
                    case measure => have := HK1.out; have := HK2.out; omega
                    case rel => exact ⟨(x3_1), (y186), (wrap64 (x5_1 + 1)), (by first | rfl | (simp; done) | (simp [*]; done)), H', ⟨by have := HK1.out; have := HK2.out; omega⟩, ⟨by (with_reducible repeat (first | apply Kd.R_alloc | apply Kd.R_drewN | apply Kd.R_drew)); exact Kd.R_mono HO_3.out (fun _ hk => trivial)⟩, ⟨by (with_reducible repeat (first | apply Kd.S_alloc | apply Kd.S_drewN | apply Kd.S_drew)); exact Kd.S_mono HO188.out (fun _ hk => hk.1)⟩, ⟨by repeat (first | exact HB.out | apply below_alloc | apply pw_below_drewN | apply below_drew1)⟩⟩
                  · rw [if_neg c44] at H
                    exact absurd H (by simp)
          · rw [if_neg c6] at H
            exact absurd H (by simp)
        · rw [if_neg c5] at H
          exact absurd H (by simp)
      · rw [if_neg c4] at H
        have c4b0 : decide (x5_1 < (l0.length : Int)) = false := decide_eq_false c4
        clear c4
        obtain rfl := Option.some.inj H
        go_wp2
        go_ret
        exact ⟨_, by first | rfl | (simp [errW_none, errW_some] <;> rfl) | (simp [*, errW_none, errW_some] <;> rfl), by (with_reducible repeat (first | apply Kd.S_alloc | apply Kd.S_drewN | apply Kd.S_drew)); exact Kd.S_mono HO_4.out (fun _ hk => trivial), by repeat (first | exact HB.out | apply below_alloc | apply pw_below_drewN | apply below_drew1)⟩

mutual
def jacquardref02_Idom.l0 : Nat → List (List Int) → List (List Bool) → List Int → Int → Option (List Int)
  | 0, _, _, _, _ => none
  | k + 1, x0, x3, x4, x5 => if x5 < (x0.length : Int) then (jacquardref02_Idom.l1 k x0 x3 x4 x5 (-1) 0) else (some x4)
def jacquardref02_Idom.l1 : Nat → List (List Int) → List (List Bool) → List Int → Int → Int → Int → Option (List Int)
  | 0, _, _, _, _, _, _ => none
  | k + 1, x0, x3, x4, x5, x6, x7 => if x7 < (x0.length : Int) then (if x7 = x5 then (jacquardref02_Idom.j2 k x0 x3 x4 x5 x6 x7 false) else (if 0 ≤ x7 then (if x7 < (x3.length : Int) then (if 0 ≤ x5 then (if x5 < ((rd_L6 x3 x7).length : Int) then (jacquardref02_Idom.j2 k x0 x3 x4 x5 x6 x7 (rdOf false (rd_L6 x3 x7) x5)) else (none)) else (none)) else (none)) else (none))) else (if x4.length < 17592186044416 then (jacquardref02_Idom.l0 k x0 x3 (x4 ++ [x6]) (wrap64 (x5 + 1))) else (none))
def jacquardref02_Idom.j2 : Nat → List (List Int) → List (List Bool) → List Int → Int → Int → Int → Bool → Option (List Int)
  | 0, _, _, _, _, _, _, _ => none
  | k + 1, x0, x3, x4, x5, x6, x7, x35 => if x35 = true then (jacquardref02_Idom.l2 k x0 x3 x4 x5 x6 x7 true 0) else (jacquardref02_Idom.l1 k x0 x3 x4 x5 x6 (wrap64 (x7 + 1)))
def jacquardref02_Idom.l2 : Nat → List (List Int) → List (List Bool) → List Int → Int → Int → Int → Bool → Int → Option (List Int)
  | 0, _, _, _, _, _, _, _, _ => none
  | k + 1, x0, x3, x4, x5, x6, x7, x8, x9 => if x9 < (x0.length : Int) then (if x8 = true then (if x9 = x5 then (jacquardref02_Idom.l2 k x0 x3 x4 x5 x6 x7 true (wrap64 (x9 + 1))) else (if 0 ≤ x9 then (if x9 < (x3.length : Int) then (if 0 ≤ x5 then (if x5 < ((rd_L6 x3 x9).length : Int) then (if (rdOf false (rd_L6 x3 x9) x5 = true) then (if 0 ≤ x7 then (if x7 < ((rd_L6 x3 x9).length : Int) then (jacquardref02_Idom.l2 k x0 x3 x4 x5 x6 x7 (rdOf false (rd_L6 x3 x9) x7) (wrap64 (x9 + 1))) else (none)) else (none)) else (jacquardref02_Idom.l2 k x0 x3 x4 x5 x6 x7 true (wrap64 (x9 + 1)))) else (none)) else (none)) else (none)) else (none))) else (jacquardref02_Idom.l2 k x0 x3 x4 x5 x6 x7 false (wrap64 (x9 + 1)))) else (if x8 = true then (jacquardref02_Idom.l1 k x0 x3 x4 x5 x7 (wrap64 (x7 + 1))) else (jacquardref02_Idom.l1 k x0 x3 x4 x5 x6 (wrap64 (x7 + 1))))
end
def jacquardref02_Idom.f (k : Nat) (l0 : List (List Int)) : Option (List Int) := (jacquardref02_Table.f k l0).bind fun t189 => (jacquardref02_Idom.l0 k l0 t189 ([] : List Int) 0)
theorem jacquardref02_Idom.mono_l : ∀ k, (∀ y0 y1 y2 y3, LeO (jacquardref02_Idom.l0 k y0 y1 y2 y3) (jacquardref02_Idom.l0 (k + 1) y0 y1 y2 y3)) ∧ (∀ y0 y1 y2 y3 y4 y5, LeO (jacquardref02_Idom.l1 k y0 y1 y2 y3 y4 y5) (jacquardref02_Idom.l1 (k + 1) y0 y1 y2 y3 y4 y5)) ∧ (∀ y0 y1 y2 y3 y4 y5 y6, LeO (jacquardref02_Idom.j2 k y0 y1 y2 y3 y4 y5 y6) (jacquardref02_Idom.j2 (k + 1) y0 y1 y2 y3 y4 y5 y6)) ∧ (∀ y0 y1 y2 y3 y4 y5 y6 y7, LeO (jacquardref02_Idom.l2 k y0 y1 y2 y3 y4 y5 y6 y7) (jacquardref02_Idom.l2 (k + 1) y0 y1 y2 y3 y4 y5 y6 y7))
  | 0 => ⟨fun _ _ _ _ r h => by simp [jacquardref02_Idom.l0] at h, fun _ _ _ _ _ _ r h => by simp [jacquardref02_Idom.l1] at h, fun _ _ _ _ _ _ _ r h => by simp [jacquardref02_Idom.j2] at h, fun _ _ _ _ _ _ _ _ r h => by simp [jacquardref02_Idom.l2] at h⟩
  | k + 1 => by
    obtain ⟨ih0, ih1, ih2, ih3⟩ := jacquardref02_Idom.mono_l k
    refine ⟨?_, ?_, ?_, ?_⟩
    · intro y0 y1 y2 y3
      unfold jacquardref02_Idom.l0
      repeat' first | (with_reducible exact LeO.refl _) | (with_reducible refine LeO.ite ?_ ?_) | (with_reducible refine LeO.bind ?_ (fun _ => ?_)) | exact LeO.none _ | exact ih0 _ _ _ _ | exact ih1 _ _ _ _ _ _ | exact ih2 _ _ _ _ _ _ _ | exact ih3 _ _ _ _ _ _ _ _ | exact jacquardref02_Table.mono _ _ | refine LeO.ite ?_ ?_ | refine LeO.bind ?_ (fun _ => ?_)
    · intro y0 y1 y2 y3 y4 y5
      unfold jacquardref02_Idom.l1
      repeat' first | (with_reducible exact LeO.refl _) | (with_reducible refine LeO.ite ?_ ?_) | (with_reducible refine LeO.bind ?_ (fun _ => ?_)) | exact LeO.none _ | exact ih0 _ _ _ _ | exact ih1 _ _ _ _ _ _ | exact ih2 _ _ _ _ _ _ _ | exact ih3 _ _ _ _ _ _ _ _ | exact jacquardref02_Table.mono _ _ | refine LeO.ite ?_ ?_ | refine LeO.bind ?_ (fun _ => ?_)
    · intro y0 y1 y2 y3 y4 y5 y6
      unfold jacquardref02_Idom.j2
      repeat' first | (with_reducible exact LeO.refl _) | (with_reducible refine LeO.ite ?_ ?_) | (with_reducible refine LeO.bind ?_ (fun _ => ?_)) | exact LeO.none _ | exact ih0 _ _ _ _ | exact ih1 _ _ _ _ _ _ | exact ih2 _ _ _ _ _ _ _ | exact ih3 _ _ _ _ _ _ _ _ | exact jacquardref02_Table.mono _ _ | refine LeO.ite ?_ ?_ | refine LeO.bind ?_ (fun _ => ?_)
    · intro y0 y1 y2 y3 y4 y5 y6 y7
      unfold jacquardref02_Idom.l2
      repeat' first | (with_reducible exact LeO.refl _) | (with_reducible refine LeO.ite ?_ ?_) | (with_reducible refine LeO.bind ?_ (fun _ => ?_)) | exact LeO.none _ | exact ih0 _ _ _ _ | exact ih1 _ _ _ _ _ _ | exact ih2 _ _ _ _ _ _ _ | exact ih3 _ _ _ _ _ _ _ _ | exact jacquardref02_Table.mono _ _ | refine LeO.ite ?_ ?_ | refine LeO.bind ?_ (fun _ => ?_)
theorem jacquardref02_Idom.mono : ∀ a0 k, LeO (jacquardref02_Idom.f k a0) (jacquardref02_Idom.f (k + 1) a0) := by
  intro a0 k
  obtain ⟨ih0, ih1, ih2, ih3⟩ := jacquardref02_Idom.mono_l k
  unfold jacquardref02_Idom.f
  repeat' first | (with_reducible exact LeO.refl _) | (with_reducible refine LeO.ite ?_ ?_) | (with_reducible refine LeO.bind ?_ (fun _ => ?_)) | exact LeO.none _ | exact ih0 _ _ _ _ | exact ih1 _ _ _ _ _ _ | exact ih2 _ _ _ _ _ _ _ | exact ih3 _ _ _ _ _ _ _ _ | exact jacquardref02_Table.mono _ _ | refine LeO.ite ?_ ?_ | refine LeO.bind ?_ (fun _ => ?_)
set_option maxHeartbeats 8000000 in
set_option maxRecDepth 100000 in
theorem jacquardref02_Idom.calls (k : Nat) (A0 : Option Addr) (c0 : Nat) (l0 : List (List Int)) (r : List Int) (w : World) (hr0 : Kd.C (Kd.slice 3 (Kd.int .i64)) w A0 l0.length l0) (hc0 : l0.length ≤ c0) (h : jacquardref02_Idom.f k l0 = some r) :
    Calls Try.prog 64 #[.slice A0 l0.length c0] w fun e w' => ∃ v0_ : Value, e = .returned (v0_) ∧ Kd.R (Kd.int .i64) 3 w' w.heap.size (fun _ => True) v0_ r ∧ Below w.heap.size w w' := by
  have HR0 := Aside0.mk hr0
  have HC0 := Aside0.mk hc0
  clear hr0 hc0
  have HB := Aside0.mk (Below.refl w.heap.size w)
  have H : ((jacquardref02_Table.f k l0).bind fun t189 => (jacquardref02_Idom.l0 k l0 t189 ([] : List Int) 0)) = some r := h
  clear h
  replace H := Option.bind_eq_some_iff.mp H
  obtain ⟨t189, A20, H⟩ := H
  have A2 := Aside0.mk A20
  clear A20
  have H' := Aside0.mk H
  clear H
  go_enter Try.func64, Try.ntmps64
  go_wp2_with (first | ((with_reducible refine gate_callee (f := 27) rfl ?_); refine goesL_ (some 11) rfl rfl Try.func27 (by kernel_rfl) rfl #[.slice A0 l0.length c0] rfl (by (try simp only [List.map_toArray, List.map_cons, List.map_nil]); first | done | rfl | (simp only [List.length_drop, List.length_take]; rfl)) ?_; (with_reducible refine (jacquardref02_Table.calls k _ _ l0 t189 _ ?side1 ?side2 A2.out).mono ?_); (case side1 => repeat (first | exact HR0.out | (with_reducible refine Kd.C_alloc ?_ _) | (with_reducible refine Kd.C_drewN ?_ _) | (with_reducible refine Kd.C_drew ?_))); (case side2 => exact HC0.out); rintro e w3 ⟨v190, rfl, ho0, hb⟩; refine ⟨_, rfl, ?_⟩; have n0_ := Aside0.mk (Kd.S_lower ho0 (below_size (by repeat (first | exact HB.out | apply below_alloc | apply pw_below_drewN | apply below_drew1)))); have n1_ := Aside0.mk (below_step (by repeat (first | exact HB.out | apply below_alloc | apply pw_below_drewN | apply below_drew1)) hb); clear HB; have HO191 := n0_; have HB := n1_; clear n0_ n1_; (try clear hb); (try clear hb2); (try clear hk); (try clear hi); (try clear ho0)))
  go_loopg [4, 5] k (fun kq v4 v5 w' => ∃ (x4_1 : List Int) (x5_1 : Int), v5 = .int .i64 x5_1 ∧ Aside0 (jacquardref02_Idom.l0 kq l0 t189 x4_1 x5_1 = some r) ∧ Aside0 (kq ≤ k) ∧ Aside0 (Kd.S (Kd.slice 4 Kd.bool) 32 w' w.heap.size (fun _ => True) v190 t189) ∧ Aside0 (Kd.R (Kd.int .i64) 3 w' w.heap.size (fun _ => True) v4 x4_1) ∧ Aside0 (Below w.heap.size w w'))
  case atStart => exact ⟨(([] : List Int)), (0), (by first | rfl | (simp; done) | (simp [*]; done)), H', ⟨Nat.le_refl _⟩, ⟨by (with_reducible repeat (first | apply Kd.S_alloc | apply Kd.S_drewN | apply Kd.S_drew)); exact HO191.out⟩, ⟨by first | exact Kd.R_nil _ _ _ _ _ | exact Kd.N_nil _ _ _ _ _ | exact Kd.V_nil _ _ _ _ _ | exact Kd.Q_nil _ _ _ _ _ | exact Kd.S_nil _ _ _ _ _⟩, ⟨by repeat (first | exact HB.out | apply below_alloc | apply pw_below_drewN | apply below_drew1)⟩⟩
  case round =>
    clear H'; (try clear c2); (try clear p2)
    obtain ⟨x4_1, x5_1, rfl, HA, HK1, HO_3, HO_4, HB⟩ := hrel
    cases gk with
    | zero => exact absurd HA.out (by simp [jacquardref02_Idom.l0])
    | succ k1 =>
      have H := HA.out
      clear HA
      simp only [jacquardref02_Idom.l0] at H
      by_cases c4 : x5_1 < (l0.length : Int)
      · rw [if_pos c4] at H
        have c4b0 : decide (x5_1 < (l0.length : Int)) = true := decide_eq_true c4
        clear c4
        have H' := Aside0.mk H
        clear H
        go_wp2
        go_loopg [6, 7] k1 (fun kq v6 v7 w' => ∃ (x6_2 : Int) (x7_2 : Int), v6 = .int .i64 x6_2 ∧ v7 = .int .i64 x7_2 ∧ Aside0 (jacquardref02_Idom.l1 kq l0 t189 x4_1 x5_1 x6_2 x7_2 = some r) ∧ Aside0 (kq ≤ k1) ∧ Aside0 (Kd.S (Kd.slice 4 Kd.bool) 32 w' w.heap.size (fun _ => True) v190 t189) ∧ Aside0 (Kd.R (Kd.int .i64) 3 w' w.heap.size (fun _ => True) u4 x4_1) ∧ Aside0 (Below w.heap.size w w'))
        case atStart => exact ⟨((-1)), (0), (by first | rfl | (simp; done) | (simp [*]; done)), (by first | rfl | (simp; done) | (simp [*]; done)), H', ⟨Nat.le_refl _⟩, ⟨by (with_reducible repeat (first | apply Kd.S_alloc | apply Kd.S_drewN | apply Kd.S_drew)); exact HO_3.out⟩, ⟨by (with_reducible repeat (first | apply Kd.R_alloc | apply Kd.R_drewN | apply Kd.R_drew)); exact HO_4.out⟩, ⟨by repeat (first | exact HB.out | apply below_alloc | apply pw_below_drewN | apply below_drew1)⟩⟩
        case round =>
          clear H'; (try clear c2); (try clear p2); (try clear c4); (try clear c4b0); (try clear p2)
          obtain ⟨x6_2, x7_2, rfl, rfl, HA, HK2, HO_3, HO_4, HB⟩ := hrel
          cases gk with
          | zero => exact absurd HA.out (by simp [jacquardref02_Idom.l1])
          | succ k2 =>
            have H := HA.out
            clear HA
            simp only [jacquardref02_Idom.l1] at H
            by_cases c5 : x7_2 < (l0.length : Int)
            · rw [if_pos c5] at H
              have c5b0 : decide (x7_2 < (l0.length : Int)) = true := decide_eq_true c5
              clear c5
              have HC6 := Aside0.mk H
              clear H
              go_upto_region 10 with (fail)
              go_cut [35] (fun v35 wc => ∃ (kq : Nat) (x35_5 : Bool), v35 = .bool x35_5 ∧ Aside0 (jacquardref02_Idom.j2 kq l0 t189 x4_1 x5_1 x6_2 x7_2 x35_5 = some r) ∧ Aside0 (kq ≤ k2) ∧ Aside0 (Kd.S (Kd.slice 4 Kd.bool) 32 wc w.heap.size (fun _ => True) v190 t189) ∧ Aside0 (Kd.R (Kd.int .i64) 3 wc w.heap.size (fun _ => True) u4 x4_1) ∧ Aside0 (Below w.heap.size w wc))
              case first =>
                have H := HC6.out
                clear HC6
                by_cases c7 : x7_2 = x5_1
                · rw [if_pos c7] at H
                  have c7b0 : (x7_2 == x5_1) = true := beq_iff_eq.mpr c7
                  have c7b1 : (x7_2 != x5_1) = false := bne_eq_false_iff_eq.mpr c7
                  clear c7
                  (first | rw [c7b0] | (simp only [i64_w, i32_w]; rw [c7b0]) | skip)
                  have H' := Aside0.mk H
                  clear H
                  go_wp2
                  go_meet
                  case rel => exact ⟨_, (false), (by first | rfl | (simp; done) | (simp [*]; done)), H', ⟨by have := HK1.out; have := HK2.out; first | omega | exact Nat.le_refl _⟩, ⟨by (with_reducible repeat (first | apply Kd.S_alloc | apply Kd.S_drewN | apply Kd.S_drew)); exact HO_3.out⟩, ⟨by (with_reducible repeat (first | apply Kd.R_alloc | apply Kd.R_drewN | apply Kd.R_drew)); exact HO_4.out⟩, ⟨by repeat (first | exact HB.out | apply below_alloc | apply pw_below_drewN | apply below_drew1)⟩⟩
                · rw [if_neg c7] at H
                  have c7b0 : (x7_2 == x5_1) = false := beq_eq_false_iff_ne.mpr c7
                  have c7b1 : (x7_2 != x5_1) = true := bne_iff_ne.mpr c7
                  (first | rw [c7b0] | (simp only [i64_w, i32_w]; rw [c7b0]) | skip)
                  by_cases c8 : 0 ≤ x7_2
                  · rw [if_pos c8] at H
                    have c8b0 : decide (0 ≤ x7_2) = true := decide_eq_true c8
                    clear c8
                    by_cases c9 : x7_2 < (t189.length : Int)
                    · rw [if_pos c9] at H
                      have c9b0 : decide (x7_2 < (t189.length : Int)) = true := decide_eq_true c9
                      clear c9
                      by_cases c10 : 0 ≤ x5_1
                      · rw [if_pos c10] at H
                        have c10b0 : decide (0 ≤ x5_1) = true := decide_eq_true c10
                        clear c10
                        by_cases c11 : x5_1 < ((rd_L6 t189 x7_2).length : Int)
                        · rw [if_pos c11] at H
                          have c11b0 : decide (x5_1 < ((rd_L6 t189 x7_2).length : Int)) = true := decide_eq_true c11
                          clear c11
                          have H' := Aside0.mk H
                          clear H
                          obtain ⟨Ao12, co12, eo12⟩ := Kd.S_slice HO_3.out
                          subst eo12
                          have p195 : 0 ≤ (x7_2 : Int) := of_decide_eq_true (by first | (with_reducible assumption) | assumption)
                          have q195 : x7_2 < (t189.length : Int) := of_decide_eq_true (by first | (with_reducible assumption) | assumption)
                          obtain ⟨ad195, A195_0, c195_0, e195, hx195_0, hl195_0, hi195_0⟩ := at_L6 (Kd.S_reads' HO_3.out).2.2 x7_2 p195 q195
                          cases e195
                          obtain ⟨ce195, hce195, hMe195, hcc195⟩ := Kd.S_get HO_3.out [] x7_2 p195 (by first | exact q195 | exact of_decide_eq_true (by first | (with_reducible assumption) | assumption) | (have e_ := (Kd.S_reads' HO_3.out).1; omega))
                          obtain ⟨ve195_0, rfl, ge195_0⟩ := hMe195
                          have hv195_0 := hcc195 0 _ rfl
                          rw [Nat.add_zero, show ((Kd.slice 4 Kd.bool)).sz = 1 from rfl, Nat.mul_one] at hv195_0
                          replace hv195_0 := Option.some.inj (hv195_0.symm.trans hx195_0)
                          rw [hv195_0] at ge195_0
                          have HL195_0 := Aside0.mk (show Kd.R Kd.bool 4 _ _ _ _ (rd_L6 t189 x7_2) from ge195_0)
                          clear hv195_0 ge195_0; clear hcc195 hce195
                          have HR195_0 := Aside0.mk hi195_0
                          have HC195_0 := Aside0.mk hl195_0
                          clear hi195_0 hl195_0
                          replace p195 := eq_true p195
                          replace q195 := eq_true q195
                          have p196 : 0 ≤ (x5_1 : Int) := of_decide_eq_true (by first | (with_reducible assumption) | assumption)
                          have q196 : x5_1 < ((rd_L6 t189 x7_2).length : Int) := of_decide_eq_true (by first | (with_reducible assumption) | assumption)
                          obtain ⟨ad196, e196, hx196_0⟩ := Kd.at_bool (by repeat (first | (with_reducible exact HR195_0.out) | (with_reducible refine Kd.C_alloc ?_ _) | (with_reducible refine Kd.C_drewN ?_ _) | (with_reducible refine Kd.C_drew ?_) | exact HR195_0.out)) x5_1 p196 q196
                          cases e196
                          replace p196 := eq_true p196
                          replace q196 := eq_true q196
                          go_wp2
                          go_meet
                          case rel => exact ⟨_, (rdOf false (rd_L6 t189 x7_2) x5_1), (by first | rfl | (simp; done) | (simp [*]; done)), H', ⟨by have := HK1.out; have := HK2.out; first | omega | exact Nat.le_refl _⟩, ⟨by (with_reducible repeat (first | apply Kd.S_alloc | apply Kd.S_drewN | apply Kd.S_drew)); exact HO_3.out⟩, ⟨by (with_reducible repeat (first | apply Kd.R_alloc | apply Kd.R_drewN | apply Kd.R_drew)); exact HO_4.out⟩, ⟨by repeat (first | exact HB.out | apply below_alloc | apply pw_below_drewN | apply below_drew1)⟩⟩
                        · rw [if_neg c11] at H
                          exact absurd H (by simp)
                      · rw [if_neg c10] at H
                        exact absurd H (by simp)
                    · rw [if_neg c9] at H
                      exact absurd H (by simp)
                  · rw [if_neg c8] at H
                    exact absurd H (by simp)
              case rest =>
                clear HC6; (try clear c1); (try clear p1); (try clear q1); (try clear hx1); (try clear c2); (try clear p2); (try clear c4); (try clear c4b0); (try clear c5); (try clear c5b0); (try clear c6); (try clear c7); (try clear c7b0); (try clear c7b1); (try clear c8); (try clear c8b0); (try clear c9); (try clear c9b0); (try clear c10); (try clear c10b0); (try clear c11); (try clear c11b0); (try clear hx195_0); (try clear hx196_0); (try clear p195); (try clear p196); (try clear p2); (try clear q195); (try clear q196)
                obtain ⟨kq, x35_5, rfl, HA, HJ5, HO_3, HO_4, HB⟩ := hcut
                cases kq with
                | zero => exact absurd HA.out (by simp [jacquardref02_Idom.j2])
                | succ kj5 =>
                  have H := HA.out
                  clear HA
                  simp only [jacquardref02_Idom.j2] at H
                  by_cases c13 : x35_5 = true
                  · subst c13
                    rw [if_pos rfl] at H
                    have H' := Aside0.mk H
                    clear H
                    go_wp2
                    go_loopg [8, 9] kj5 (fun kq v8 v9 w' => ∃ (x8_4 : Bool) (x9_4 : Int), v8 = .bool x8_4 ∧ v9 = .int .i64 x9_4 ∧ Aside0 (jacquardref02_Idom.l2 kq l0 t189 x4_1 x5_1 x6_2 x7_2 x8_4 x9_4 = some r) ∧ Aside0 (kq ≤ kj5) ∧ Aside0 (Kd.S (Kd.slice 4 Kd.bool) 32 w' w.heap.size (fun _ => True) v190 t189) ∧ Aside0 (Kd.R (Kd.int .i64) 3 w' w.heap.size (fun _ => True) u4 x4_1) ∧ Aside0 (Below w.heap.size w w'))
                    case atStart => exact ⟨(true), (0), (by first | rfl | (simp; done) | (simp [*]; done)), (by first | rfl | (simp; done) | (simp [*]; done)), H', ⟨Nat.le_refl _⟩, ⟨by (with_reducible repeat (first | apply Kd.S_alloc | apply Kd.S_drewN | apply Kd.S_drew)); exact HO_3.out⟩, ⟨by (with_reducible repeat (first | apply Kd.R_alloc | apply Kd.R_drewN | apply Kd.R_drew)); exact HO_4.out⟩, ⟨by repeat (first | exact HB.out | apply below_alloc | apply pw_below_drewN | apply below_drew1)⟩⟩
                    case round =>
                      clear H'; (try clear c1); (try clear p1); (try clear q1); (try clear hx1); (try clear c2); (try clear p2); (try clear c4); (try clear c4b0); (try clear c5); (try clear c5b0); (try clear c6); (try clear c7); (try clear c7b0); (try clear c7b1); (try clear c8); (try clear c8b0); (try clear c9); (try clear c9b0); (try clear c10); (try clear c10b0); (try clear c11); (try clear c11b0); (try clear c13); (try clear hx195_0); (try clear hx196_0); (try clear p1); (try clear p195); (try clear p196); (try clear p2); (try clear q1); (try clear q195); (try clear q196)
                      obtain ⟨x8_4, x9_4, rfl, rfl, HA, HK4, HO_3, HO_4, HB⟩ := hrel
                      cases gk with
                      | zero => exact absurd HA.out (by simp [jacquardref02_Idom.l2])
                      | succ k4 =>
                        have H := HA.out
                        clear HA
                        simp only [jacquardref02_Idom.l2] at H
                        by_cases c14 : x9_4 < (l0.length : Int)
                        · rw [if_pos c14] at H
                          have c14b0 : decide (x9_4 < (l0.length : Int)) = true := decide_eq_true c14
                          clear c14
                          by_cases c15 : x8_4 = true
                          · subst c15
                            rw [if_pos rfl] at H
                            by_cases c16 : x9_4 = x5_1
                            · rw [if_pos c16] at H
                              have c16b0 : (x9_4 == x5_1) = true := beq_iff_eq.mpr c16
                              have c16b1 : (x9_4 != x5_1) = false := bne_eq_false_iff_eq.mpr c16
                              clear c16
                              have H' := Aside0.mk H
                              clear H
                              go_wp2
                              go_roundg k4
                              case measure => have := HK1.out; have := HK2.out; have := HJ5.out; have := HK4.out; omega
                              case rel => exact ⟨(true), (wrap64 (x9_4 + 1)), (by first | rfl | (simp; done) | (simp [*]; done)), (by first | rfl | (simp; done) | (simp [*]; done)), H', ⟨by have := HK1.out; have := HK2.out; have := HJ5.out; have := HK4.out; omega⟩, ⟨by (with_reducible repeat (first | apply Kd.S_alloc | apply Kd.S_drewN | apply Kd.S_drew)); exact HO_3.out⟩, ⟨by (with_reducible repeat (first | apply Kd.R_alloc | apply Kd.R_drewN | apply Kd.R_drew)); exact HO_4.out⟩, ⟨by repeat (first | exact HB.out | apply below_alloc | apply pw_below_drewN | apply below_drew1)⟩⟩
                            · rw [if_neg c16] at H
                              have c16b0 : (x9_4 == x5_1) = false := beq_eq_false_iff_ne.mpr c16
                              have c16b1 : (x9_4 != x5_1) = true := bne_iff_ne.mpr c16
                              by_cases c17 : 0 ≤ x9_4
                              · rw [if_pos c17] at H
                                have c17b0 : decide (0 ≤ x9_4) = true := decide_eq_true c17
                                clear c17
                                by_cases c18 : x9_4 < (t189.length : Int)
                                · rw [if_pos c18] at H
                                  have c18b0 : decide (x9_4 < (t189.length : Int)) = true := decide_eq_true c18
                                  clear c18
                                  by_cases c19 : 0 ≤ x5_1
                                  · rw [if_pos c19] at H
                                    have c19b0 : decide (0 ≤ x5_1) = true := decide_eq_true c19
                                    clear c19
                                    by_cases c20 : x5_1 < ((rd_L6 t189 x9_4).length : Int)
                                    · rw [if_pos c20] at H
                                      have c20b0 : decide (x5_1 < ((rd_L6 t189 x9_4).length : Int)) = true := decide_eq_true c20
                                      clear c20
                                      obtain ⟨bq21, hbq21⟩ : ∃ b_ : Bool, b_ = (rdOf false (rd_L6 t189 x9_4) x5_1) := ⟨_, rfl⟩
                                      replace H : (if (bq21 = true) then (if 0 ≤ x7_2 then (if x7_2 < ((rd_L6 t189 x9_4).length : Int) then (jacquardref02_Idom.l2 k4 l0 t189 x4_1 x5_1 x6_2 x7_2 (rdOf false (rd_L6 t189 x9_4) x7_2) (wrap64 (x9_4 + 1))) else (none)) else (none)) else (jacquardref02_Idom.l2 k4 l0 t189 x4_1 x5_1 x6_2 x7_2 true (wrap64 (x9_4 + 1)))) = some r := by rw [← hbq21] at H; exact H
                                      have Nbq21 := Aside0.mk hbq21
                                      clear hbq21
                                      by_cases c22 : (bq21 = true)
                                      · subst c22
                                        rw [if_pos rfl] at H
                                        by_cases c23 : 0 ≤ x7_2
                                        · rw [if_pos c23] at H
                                          have c23b0 : decide (0 ≤ x7_2) = true := decide_eq_true c23
                                          clear c23
                                          by_cases c24 : x7_2 < ((rd_L6 t189 x9_4).length : Int)
                                          · rw [if_pos c24] at H
                                            have c24b0 : decide (x7_2 < ((rd_L6 t189 x9_4).length : Int)) = true := decide_eq_true c24
                                            clear c24
                                            have H' := Aside0.mk H
                                            clear H
                                            obtain ⟨Ao25, co25, eo25⟩ := Kd.S_slice HO_3.out
                                            subst eo25
                                            have p197 : 0 ≤ (x9_4 : Int) := of_decide_eq_true (by first | (with_reducible assumption) | assumption)
                                            have q197 : x9_4 < (t189.length : Int) := of_decide_eq_true (by first | (with_reducible assumption) | assumption)
                                            obtain ⟨ad197, A197_0, c197_0, e197, hx197_0, hl197_0, hi197_0⟩ := at_L6 (Kd.S_reads' HO_3.out).2.2 x9_4 p197 q197
                                            cases e197
                                            obtain ⟨ce197, hce197, hMe197, hcc197⟩ := Kd.S_get HO_3.out [] x9_4 p197 (by first | exact q197 | exact of_decide_eq_true (by first | (with_reducible assumption) | assumption) | (have e_ := (Kd.S_reads' HO_3.out).1; omega))
                                            obtain ⟨ve197_0, rfl, ge197_0⟩ := hMe197
                                            have hv197_0 := hcc197 0 _ rfl
                                            rw [Nat.add_zero, show ((Kd.slice 4 Kd.bool)).sz = 1 from rfl, Nat.mul_one] at hv197_0
                                            replace hv197_0 := Option.some.inj (hv197_0.symm.trans hx197_0)
                                            rw [hv197_0] at ge197_0
                                            have HL197_0 := Aside0.mk (show Kd.R Kd.bool 4 _ _ _ _ (rd_L6 t189 x9_4) from ge197_0)
                                            clear hv197_0 ge197_0; clear hcc197 hce197
                                            have HR197_0 := Aside0.mk hi197_0
                                            have HC197_0 := Aside0.mk hl197_0
                                            clear hi197_0 hl197_0
                                            replace p197 := eq_true p197
                                            replace q197 := eq_true q197
                                            have p198 : 0 ≤ (x5_1 : Int) := of_decide_eq_true (by first | (with_reducible assumption) | assumption)
                                            have q198 : x5_1 < ((rd_L6 t189 x9_4).length : Int) := of_decide_eq_true (by first | (with_reducible assumption) | assumption)
                                            obtain ⟨ad198, e198, hx198_0⟩ := Kd.at_bool (by repeat (first | (with_reducible exact HR197_0.out) | (with_reducible refine Kd.C_alloc ?_ _) | (with_reducible refine Kd.C_drewN ?_ _) | (with_reducible refine Kd.C_drew ?_) | exact HR197_0.out)) x5_1 p198 q198
                                            (try rw [← Nbq21.out] at hx198_0)
                                            cases e198
                                            replace p198 := eq_true p198
                                            replace q198 := eq_true q198
                                            have p199 : 0 ≤ (x9_4 : Int) := of_decide_eq_true (by first | (with_reducible assumption) | assumption)
                                            have q199 : x9_4 < (t189.length : Int) := of_decide_eq_true (by first | (with_reducible assumption) | assumption)
                                            obtain ⟨ad199, A199_0, c199_0, e199, hx199_0, hl199_0, hi199_0⟩ := at_L6 (Kd.S_reads' HO_3.out).2.2 x9_4 p199 q199
                                            obtain rfl : ad197 = ad199 := (by injection e199)
                                            obtain ⟨ce199, hce199, hMe199, hcc199⟩ := Kd.S_get HO_3.out [] x9_4 p199 (by first | exact q199 | exact of_decide_eq_true (by first | (with_reducible assumption) | assumption) | (have e_ := (Kd.S_reads' HO_3.out).1; omega))
                                            obtain ⟨ve199_0, rfl, ge199_0⟩ := hMe199
                                            have hv199_0 := hcc199 0 _ rfl
                                            rw [Nat.add_zero, show ((Kd.slice 4 Kd.bool)).sz = 1 from rfl, Nat.mul_one] at hv199_0
                                            replace hv199_0 := Option.some.inj (hv199_0.symm.trans hx199_0)
                                            rw [hv199_0] at ge199_0
                                            have HL199_0 := Aside0.mk (show Kd.R Kd.bool 4 _ _ _ _ (rd_L6 t189 x9_4) from ge199_0)
                                            clear hv199_0 ge199_0; clear hcc199 hce199
                                            have HR199_0 := Aside0.mk hi199_0
                                            have HC199_0 := Aside0.mk hl199_0
                                            clear hi199_0 hl199_0
                                            replace p199 := eq_true p199
                                            replace q199 := eq_true q199
                                            have ea_ := Option.some.inj (hx197_0.symm.trans hx199_0)
                                            injection ea_ with ea_ en_ ec_
                                            subst ea_
                                            subst ec_
                                            clear en_
                                            have p200 : 0 ≤ (x7_2 : Int) := of_decide_eq_true (by first | (with_reducible assumption) | assumption)
                                            have q200 : x7_2 < ((rd_L6 t189 x9_4).length : Int) := of_decide_eq_true (by first | (with_reducible assumption) | assumption)
                                            obtain ⟨ad200, e200, hx200_0⟩ := Kd.at_bool (by repeat (first | (with_reducible exact HR199_0.out) | (with_reducible refine Kd.C_alloc ?_ _) | (with_reducible refine Kd.C_drewN ?_ _) | (with_reducible refine Kd.C_drew ?_) | exact HR199_0.out)) x7_2 p200 q200
                                            (try rw [← Nbq21.out] at hx200_0)
                                            cases e200
                                            replace p200 := eq_true p200
                                            replace q200 := eq_true q200
                                            go_wp2
                                            go_roundg k4
                                            case measure => have := HK1.out; have := HK2.out; have := HJ5.out; have := HK4.out; omega
                                            case rel => exact ⟨(rdOf false (rd_L6 t189 x9_4) x7_2), (wrap64 (x9_4 + 1)), (by first | rfl | (simp; done) | (simp [*]; done)), (by first | rfl | (simp; done) | (simp [*]; done)), H', ⟨by have := HK1.out; have := HK2.out; have := HJ5.out; have := HK4.out; omega⟩, ⟨by (with_reducible repeat (first | apply Kd.S_alloc | apply Kd.S_drewN | apply Kd.S_drew)); exact HO_3.out⟩, ⟨by (with_reducible repeat (first | apply Kd.R_alloc | apply Kd.R_drewN | apply Kd.R_drew)); exact HO_4.out⟩, ⟨by repeat (first | exact HB.out | apply below_alloc | apply pw_below_drewN | apply below_drew1)⟩⟩
                                          · rw [if_neg c24] at H
                                            exact absurd H (by simp)
                                        · rw [if_neg c23] at H
                                          exact absurd H (by simp)
                                      · replace c22 := Bool.eq_false_iff.mpr c22
                                        subst c22
                                        rw [if_neg (show ¬ (false = true) by decide)] at H
                                        have H' := Aside0.mk H
                                        clear H
                                        obtain ⟨Ao26, co26, eo26⟩ := Kd.S_slice HO_3.out
                                        subst eo26
                                        have p197 : 0 ≤ (x9_4 : Int) := of_decide_eq_true (by first | (with_reducible assumption) | assumption)
                                        have q197 : x9_4 < (t189.length : Int) := of_decide_eq_true (by first | (with_reducible assumption) | assumption)
                                        obtain ⟨ad197, A197_0, c197_0, e197, hx197_0, hl197_0, hi197_0⟩ := at_L6 (Kd.S_reads' HO_3.out).2.2 x9_4 p197 q197
                                        cases e197
                                        obtain ⟨ce197, hce197, hMe197, hcc197⟩ := Kd.S_get HO_3.out [] x9_4 p197 (by first | exact q197 | exact of_decide_eq_true (by first | (with_reducible assumption) | assumption) | (have e_ := (Kd.S_reads' HO_3.out).1; omega))
                                        obtain ⟨ve197_0, rfl, ge197_0⟩ := hMe197
                                        have hv197_0 := hcc197 0 _ rfl
                                        rw [Nat.add_zero, show ((Kd.slice 4 Kd.bool)).sz = 1 from rfl, Nat.mul_one] at hv197_0
                                        replace hv197_0 := Option.some.inj (hv197_0.symm.trans hx197_0)
                                        rw [hv197_0] at ge197_0
                                        have HL197_0 := Aside0.mk (show Kd.R Kd.bool 4 _ _ _ _ (rd_L6 t189 x9_4) from ge197_0)
                                        clear hv197_0 ge197_0; clear hcc197 hce197
                                        have HR197_0 := Aside0.mk hi197_0
                                        have HC197_0 := Aside0.mk hl197_0
                                        clear hi197_0 hl197_0
                                        replace p197 := eq_true p197
                                        replace q197 := eq_true q197
                                        have p198 : 0 ≤ (x5_1 : Int) := of_decide_eq_true (by first | (with_reducible assumption) | assumption)
                                        have q198 : x5_1 < ((rd_L6 t189 x9_4).length : Int) := of_decide_eq_true (by first | (with_reducible assumption) | assumption)
                                        obtain ⟨ad198, e198, hx198_0⟩ := Kd.at_bool (by repeat (first | (with_reducible exact HR197_0.out) | (with_reducible refine Kd.C_alloc ?_ _) | (with_reducible refine Kd.C_drewN ?_ _) | (with_reducible refine Kd.C_drew ?_) | exact HR197_0.out)) x5_1 p198 q198
                                        (try rw [← Nbq21.out] at hx198_0)
                                        cases e198
                                        replace p198 := eq_true p198
                                        replace q198 := eq_true q198
                                        go_wp2
                                        go_roundg k4
                                        case measure => have := HK1.out; have := HK2.out; have := HJ5.out; have := HK4.out; omega
                                        case rel => exact ⟨(true), (wrap64 (x9_4 + 1)), (by first | rfl | (simp; done) | (simp [*]; done)), (by first | rfl | (simp; done) | (simp [*]; done)), H', ⟨by have := HK1.out; have := HK2.out; have := HJ5.out; have := HK4.out; omega⟩, ⟨by (with_reducible repeat (first | apply Kd.S_alloc | apply Kd.S_drewN | apply Kd.S_drew)); exact HO_3.out⟩, ⟨by (with_reducible repeat (first | apply Kd.R_alloc | apply Kd.R_drewN | apply Kd.R_drew)); exact HO_4.out⟩, ⟨by repeat (first | exact HB.out | apply below_alloc | apply pw_below_drewN | apply below_drew1)⟩⟩
                                    · rw [if_neg c20] at H
                                      exact absurd H (by simp)
                                  · rw [if_neg c19] at H
                                    exact absurd H (by simp)
                                · rw [if_neg c18] at H
                                  exact absurd H (by simp)
                              · rw [if_neg c17] at H
                                exact absurd H (by simp)
                          · replace c15 := Bool.eq_false_iff.mpr c15
                            subst c15
                            rw [if_neg (show ¬ (false = true) by decide)] at H
                            have H' := Aside0.mk H
                            clear H
                            go_wp2
                            go_roundg k4
                            case measure => have := HK1.out; have := HK2.out; have := HJ5.out; have := HK4.out; omega
                            case rel => exact ⟨(false), (wrap64 (x9_4 + 1)), (by first | rfl | (simp; done) | (simp [*]; done)), (by first | rfl | (simp; done) | (simp [*]; done)), H', ⟨by have := HK1.out; have := HK2.out; have := HJ5.out; have := HK4.out; omega⟩, ⟨by (with_reducible repeat (first | apply Kd.S_alloc | apply Kd.S_drewN | apply Kd.S_drew)); exact HO_3.out⟩, ⟨by (with_reducible repeat (first | apply Kd.R_alloc | apply Kd.R_drewN | apply Kd.R_drew)); exact HO_4.out⟩, ⟨by repeat (first | exact HB.out | apply below_alloc | apply pw_below_drewN | apply below_drew1)⟩⟩
                        · rw [if_neg c14] at H
                          have c14b0 : decide (x9_4 < (l0.length : Int)) = false := decide_eq_false c14
                          clear c14
                          by_cases c27 : x8_4 = true
                          · subst c27
                            rw [if_pos rfl] at H
                            have H' := Aside0.mk H
                            clear H
                            go_wp2
                            go_roundg k4
                            case measure => have := HK1.out; have := HK2.out; have := HJ5.out; have := HK4.out; omega
                            case rel => exact ⟨(x7_2), (wrap64 (x7_2 + 1)), (by first | rfl | (simp; done) | (simp [*]; done)), (by first | rfl | (simp; done) | (simp [*]; done)), H', ⟨by have := HK1.out; have := HK2.out; have := HJ5.out; have := HK4.out; omega⟩, ⟨by (with_reducible repeat (first | apply Kd.S_alloc | apply Kd.S_drewN | apply Kd.S_drew)); exact HO_3.out⟩, ⟨by (with_reducible repeat (first | apply Kd.R_alloc | apply Kd.R_drewN | apply Kd.R_drew)); exact HO_4.out⟩, ⟨by repeat (first | exact HB.out | apply below_alloc | apply pw_below_drewN | apply below_drew1)⟩⟩
                          · replace c27 := Bool.eq_false_iff.mpr c27
                            subst c27
                            rw [if_neg (show ¬ (false = true) by decide)] at H
                            have H' := Aside0.mk H
                            clear H
                            go_wp2
                            go_roundg k4
                            case measure => have := HK1.out; have := HK2.out; have := HJ5.out; have := HK4.out; omega
                            case rel => exact ⟨(x6_2), (wrap64 (x7_2 + 1)), (by first | rfl | (simp; done) | (simp [*]; done)), (by first | rfl | (simp; done) | (simp [*]; done)), H', ⟨by have := HK1.out; have := HK2.out; have := HJ5.out; have := HK4.out; omega⟩, ⟨by (with_reducible repeat (first | apply Kd.S_alloc | apply Kd.S_drewN | apply Kd.S_drew)); exact HO_3.out⟩, ⟨by (with_reducible repeat (first | apply Kd.R_alloc | apply Kd.R_drewN | apply Kd.R_drew)); exact HO_4.out⟩, ⟨by repeat (first | exact HB.out | apply below_alloc | apply pw_below_drewN | apply below_drew1)⟩⟩
                  · replace c13 := Bool.eq_false_iff.mpr c13
                    subst c13
                    rw [if_neg (show ¬ (false = true) by decide)] at H
                    have H' := Aside0.mk H
                    clear H
                    go_wp2
                    go_roundg kj5
                    case measure => have := HK1.out; have := HK2.out; have := HJ5.out; omega
                    case rel => exact ⟨(x6_2), (wrap64 (x7_2 + 1)), (by first | rfl | (simp; done) | (simp [*]; done)), (by first | rfl | (simp; done) | (simp [*]; done)), H', ⟨by have := HK1.out; have := HK2.out; have := HJ5.out; omega⟩, ⟨by (with_reducible repeat (first | apply Kd.S_alloc | apply Kd.S_drewN | apply Kd.S_drew)); exact HO_3.out⟩, ⟨by (with_reducible repeat (first | apply Kd.R_alloc | apply Kd.R_drewN | apply Kd.R_drew)); exact HO_4.out⟩, ⟨by repeat (first | exact HB.out | apply below_alloc | apply pw_below_drewN | apply below_drew1)⟩⟩
            · rw [if_neg c5] at H
              have c5b0 : decide (x7_2 < (l0.length : Int)) = false := decide_eq_false c5
              clear c5
              by_cases c28 : x4_1.length < 17592186044416
              · rw [if_pos c28] at H
                have LMc28 := Aside0.mk c28
                clear c28
                obtain ⟨y192, hy192⟩ : ∃ y_ : List Int, y_ = (x4_1 ++ [x6_2]) := ⟨_, rfl⟩
                replace H : (jacquardref02_Idom.l0 k2 l0 t189 y192 (wrap64 (x5_1 + 1))) = some r := by first | (rw [hy192]; with_reducible exact H) | (have H2_ := (Option.bind_some _ _).symm.trans H; rw [hy192]; with_reducible exact H2_) | (have H2_ := (Option.bind_some _ _).symm.trans H; with_reducible exact H2_) | with_reducible exact H | (rw [hy192]; exact H) | exact H
                have Ny192 := Aside0.mk hy192
                clear hy192
                have H' := Aside0.mk H
                clear H
                go_wp2_with (first | ((with_reducible refine gate_builtin (b := .append) (xs := #[.tmp 69, .tmp 71]) rfl ?_); at_builtin; refine Kd.R_append (Kd.int .i64) (w0 := w) w.heap.size rfl (.tmp 69) (.tmp 71) 23 3 (.int .i64 0) 8 rfl Try.underlying23 info3 rfl (by decide) (by omega) u4 x4_1 x6_2 [.int .i64 x6_2] (fun _ => True) (fun _ => False) rfl rfl ?aP (fun _ hk => hk.elim) ?aF ?aO ?aB ?aS ?aL ?_; (case aP => exact rfl); (case aB => exact (by repeat (first | exact HB.out | apply below_alloc | apply pw_below_drewN | apply below_drew1))); (case aF => exact (fun _ _ => trivial)); (case aO => exact (by (with_reducible repeat (first | apply Kd.R_alloc | apply Kd.R_drewN | apply Kd.R_drew)); exact HO_4.out)); (case aS => exact (below_size (by repeat (first | exact HB.out | apply below_alloc | apply pw_below_drewN | apply below_drew1)))); (case aL => have := LMc28.out; omega); intro v193 w29 ho hb hg hat; rw [← Ny192.out] at ho; have n0_ := Aside0.mk (Kd.S_over' (by (with_reducible repeat (first | apply Kd.S_alloc | apply Kd.S_drewN | apply Kd.S_drew)); exact HO_3.out) (Kd.R_typed (by (with_reducible repeat (first | apply Kd.R_alloc | apply Kd.R_drewN | apply Kd.R_drew)); exact HO_4.out)) (by decide) hg); have n1_ := Aside0.mk (hb); have n2_ := Aside0.mk (ho); clear HO_3; clear HB; clear HO_4; have HO_3 := n0_; have HB := n1_; have HO194 := n2_; clear n0_ n1_ n2_; clear ho hb hg hat))
                go_roundg k2
                case measure => have := HK1.out; have := HK2.out; omega
                case rel => exact ⟨(y192), (wrap64 (x5_1 + 1)), (by first | rfl | (simp; done) | (simp [*]; done)), H', ⟨by have := HK1.out; have := HK2.out; omega⟩, ⟨by (with_reducible repeat (first | apply Kd.S_alloc | apply Kd.S_drewN | apply Kd.S_drew)); exact HO_3.out⟩, ⟨by (with_reducible repeat (first | apply Kd.R_alloc | apply Kd.R_drewN | apply Kd.R_drew)); exact HO194.out⟩, ⟨by repeat (first | exact HB.out | apply below_alloc | apply pw_below_drewN | apply below_drew1)⟩⟩
              · rw [if_neg c28] at H
                exact absurd H (by simp)
      · rw [if_neg c4] at H
        have c4b0 : decide (x5_1 < (l0.length : Int)) = false := decide_eq_false c4
        clear c4
        obtain rfl := Option.some.inj H
        go_wp2
        go_ret
        exact ⟨_, by first | rfl | (simp [errW_none, errW_some] <;> rfl) | (simp [*, errW_none, errW_some] <;> rfl), by (with_reducible repeat (first | apply Kd.R_alloc | apply Kd.R_drewN | apply Kd.R_drew)); exact HO_4.out, by repeat (first | exact HB.out | apply below_alloc | apply pw_below_drewN | apply below_drew1)⟩

mutual
def jacquardref02_Headers.l0 : Nat → List (List Int) → List (List Bool) → List Int → Int → Option (List Int)
  | 0, _, _, _, _ => none
  | k + 1, x0, x3, x4, x5 => if x5 < (x0.length : Int) then (jacquardref02_Headers.l1 k x0 x3 x4 x5 false 0) else (some x4)
def jacquardref02_Headers.l1 : Nat → List (List Int) → List (List Bool) → List Int → Int → Bool → Int → Option (List Int)
  | 0, _, _, _, _, _, _ => none
  | k + 1, x0, x3, x4, x5, x6, x7 => if x7 < (x0.length : Int) then ((jacquardref02_Edge.f k x0 x7 x5).bind fun t204 => (if x6 = true then (jacquardref02_Headers.l1 k x0 x3 x4 x5 true (wrap64 (x7 + 1))) else (if t204 = true then (if 0 ≤ x5 then (if x5 < (x3.length : Int) then (if 0 ≤ x7 then (if x7 < ((rd_L6 x3 x5).length : Int) then (jacquardref02_Headers.l1 k x0 x3 x4 x5 (rdOf false (rd_L6 x3 x5) x7) (wrap64 (x7 + 1))) else (none)) else (none)) else (none)) else (none)) else (jacquardref02_Headers.l1 k x0 x3 x4 x5 false (wrap64 (x7 + 1)))))) else (if x6 = true then (if x4.length < 17592186044416 then (jacquardref02_Headers.l0 k x0 x3 (x4 ++ [x5]) (wrap64 (x5 + 1))) else (none)) else (jacquardref02_Headers.l0 k x0 x3 x4 (wrap64 (x5 + 1))))
end
def jacquardref02_Headers.f (k : Nat) (l0 : List (List Int)) : Option (List Int) := (jacquardref02_Table.f k l0).bind fun t201 => (jacquardref02_Headers.l0 k l0 t201 ([] : List Int) 0)
theorem jacquardref02_Headers.mono_l : ∀ k, (∀ y0 y1 y2 y3, LeO (jacquardref02_Headers.l0 k y0 y1 y2 y3) (jacquardref02_Headers.l0 (k + 1) y0 y1 y2 y3)) ∧ (∀ y0 y1 y2 y3 y4 y5, LeO (jacquardref02_Headers.l1 k y0 y1 y2 y3 y4 y5) (jacquardref02_Headers.l1 (k + 1) y0 y1 y2 y3 y4 y5))
  | 0 => ⟨fun _ _ _ _ r h => by simp [jacquardref02_Headers.l0] at h, fun _ _ _ _ _ _ r h => by simp [jacquardref02_Headers.l1] at h⟩
  | k + 1 => by
    obtain ⟨ih0, ih1⟩ := jacquardref02_Headers.mono_l k
    refine ⟨?_, ?_⟩
    · intro y0 y1 y2 y3
      unfold jacquardref02_Headers.l0
      repeat' first | (with_reducible exact LeO.refl _) | (with_reducible refine LeO.ite ?_ ?_) | (with_reducible refine LeO.bind ?_ (fun _ => ?_)) | exact LeO.none _ | exact ih0 _ _ _ _ | exact ih1 _ _ _ _ _ _ | exact jacquardref02_Edge.mono _ _ _ _ | exact jacquardref02_Table.mono _ _ | refine LeO.ite ?_ ?_ | refine LeO.bind ?_ (fun _ => ?_)
    · intro y0 y1 y2 y3 y4 y5
      unfold jacquardref02_Headers.l1
      repeat' first | (with_reducible exact LeO.refl _) | (with_reducible refine LeO.ite ?_ ?_) | (with_reducible refine LeO.bind ?_ (fun _ => ?_)) | exact LeO.none _ | exact ih0 _ _ _ _ | exact ih1 _ _ _ _ _ _ | exact jacquardref02_Edge.mono _ _ _ _ | exact jacquardref02_Table.mono _ _ | refine LeO.ite ?_ ?_ | refine LeO.bind ?_ (fun _ => ?_)
theorem jacquardref02_Headers.mono : ∀ a0 k, LeO (jacquardref02_Headers.f k a0) (jacquardref02_Headers.f (k + 1) a0) := by
  intro a0 k
  obtain ⟨ih0, ih1⟩ := jacquardref02_Headers.mono_l k
  unfold jacquardref02_Headers.f
  repeat' first | (with_reducible exact LeO.refl _) | (with_reducible refine LeO.ite ?_ ?_) | (with_reducible refine LeO.bind ?_ (fun _ => ?_)) | exact LeO.none _ | exact ih0 _ _ _ _ | exact ih1 _ _ _ _ _ _ | exact jacquardref02_Edge.mono _ _ _ _ | exact jacquardref02_Table.mono _ _ | refine LeO.ite ?_ ?_ | refine LeO.bind ?_ (fun _ => ?_)
set_option maxHeartbeats 8000000 in
set_option maxRecDepth 100000 in
theorem jacquardref02_Headers.calls (k : Nat) (A0 : Option Addr) (c0 : Nat) (l0 : List (List Int)) (r : List Int) (w : World) (hr0 : Kd.C (Kd.slice 3 (Kd.int .i64)) w A0 l0.length l0) (hc0 : l0.length ≤ c0) (h : jacquardref02_Headers.f k l0 = some r) :
    Calls Try.prog 65 #[.slice A0 l0.length c0] w fun e w' => ∃ v0_ : Value, e = .returned (v0_) ∧ Kd.R (Kd.int .i64) 3 w' w.heap.size (fun _ => True) v0_ r ∧ Below w.heap.size w w' := by
  have HR0 := Aside0.mk hr0
  have HC0 := Aside0.mk hc0
  clear hr0 hc0
  have HB := Aside0.mk (Below.refl w.heap.size w)
  have H : ((jacquardref02_Table.f k l0).bind fun t201 => (jacquardref02_Headers.l0 k l0 t201 ([] : List Int) 0)) = some r := h
  clear h
  replace H := Option.bind_eq_some_iff.mp H
  obtain ⟨t201, A20, H⟩ := H
  have A2 := Aside0.mk A20
  clear A20
  have H' := Aside0.mk H
  clear H
  go_enter Try.func65, Try.ntmps65
  go_wp2_with (first | ((with_reducible refine gate_callee (f := 27) rfl ?_); refine goesL_ (some 10) rfl rfl Try.func27 (by kernel_rfl) rfl #[.slice A0 l0.length c0] rfl (by (try simp only [List.map_toArray, List.map_cons, List.map_nil]); first | done | rfl | (simp only [List.length_drop, List.length_take]; rfl)) ?_; (with_reducible refine (jacquardref02_Table.calls k _ _ l0 t201 _ ?side1 ?side2 A2.out).mono ?_); (case side1 => repeat (first | exact HR0.out | (with_reducible refine Kd.C_alloc ?_ _) | (with_reducible refine Kd.C_drewN ?_ _) | (with_reducible refine Kd.C_drew ?_))); (case side2 => exact HC0.out); rintro e w3 ⟨v202, rfl, ho0, hb⟩; refine ⟨_, rfl, ?_⟩; have n0_ := Aside0.mk (Kd.S_lower ho0 (below_size (by repeat (first | exact HB.out | apply below_alloc | apply pw_below_drewN | apply below_drew1)))); have n1_ := Aside0.mk (below_step (by repeat (first | exact HB.out | apply below_alloc | apply pw_below_drewN | apply below_drew1)) hb); clear HB; have HO203 := n0_; have HB := n1_; clear n0_ n1_; (try clear hb); (try clear hb2); (try clear hk); (try clear hi); (try clear ho0)))
  go_loopg [4, 5] k (fun kq v4 v5 w' => ∃ (x4_1 : List Int) (x5_1 : Int), v5 = .int .i64 x5_1 ∧ Aside0 (jacquardref02_Headers.l0 kq l0 t201 x4_1 x5_1 = some r) ∧ Aside0 (kq ≤ k) ∧ Aside0 (Kd.S (Kd.slice 4 Kd.bool) 32 w' w.heap.size (fun _ => True) v202 t201) ∧ Aside0 (Kd.R (Kd.int .i64) 3 w' w.heap.size (fun _ => True) v4 x4_1) ∧ Aside0 (Below w.heap.size w w'))
  case atStart => exact ⟨(([] : List Int)), (0), (by first | rfl | (simp; done) | (simp [*]; done)), H', ⟨Nat.le_refl _⟩, ⟨by (with_reducible repeat (first | apply Kd.S_alloc | apply Kd.S_drewN | apply Kd.S_drew)); exact HO203.out⟩, ⟨by first | exact Kd.R_nil _ _ _ _ _ | exact Kd.N_nil _ _ _ _ _ | exact Kd.V_nil _ _ _ _ _ | exact Kd.Q_nil _ _ _ _ _ | exact Kd.S_nil _ _ _ _ _⟩, ⟨by repeat (first | exact HB.out | apply below_alloc | apply pw_below_drewN | apply below_drew1)⟩⟩
  case round =>
    clear H'; (try clear c2); (try clear p2)
    obtain ⟨x4_1, x5_1, rfl, HA, HK1, HO_3, HO_4, HB⟩ := hrel
    cases gk with
    | zero => exact absurd HA.out (by simp [jacquardref02_Headers.l0])
    | succ k1 =>
      have H := HA.out
      clear HA
      simp only [jacquardref02_Headers.l0] at H
      by_cases c4 : x5_1 < (l0.length : Int)
      · rw [if_pos c4] at H
        have c4b0 : decide (x5_1 < (l0.length : Int)) = true := decide_eq_true c4
        clear c4
        have H' := Aside0.mk H
        clear H
        go_wp2
        go_loopg [6, 7] k1 (fun kq v6 v7 w' => ∃ (x6_2 : Bool) (x7_2 : Int), v6 = .bool x6_2 ∧ v7 = .int .i64 x7_2 ∧ Aside0 (jacquardref02_Headers.l1 kq l0 t201 x4_1 x5_1 x6_2 x7_2 = some r) ∧ Aside0 (kq ≤ k1) ∧ Aside0 (Kd.S (Kd.slice 4 Kd.bool) 32 w' w.heap.size (fun _ => True) v202 t201) ∧ Aside0 (Kd.R (Kd.int .i64) 3 w' w.heap.size (fun _ => True) u4 x4_1) ∧ Aside0 (Below w.heap.size w w'))
        case atStart => exact ⟨(false), (0), (by first | rfl | (simp; done) | (simp [*]; done)), (by first | rfl | (simp; done) | (simp [*]; done)), H', ⟨Nat.le_refl _⟩, ⟨by (with_reducible repeat (first | apply Kd.S_alloc | apply Kd.S_drewN | apply Kd.S_drew)); exact HO_3.out⟩, ⟨by (with_reducible repeat (first | apply Kd.R_alloc | apply Kd.R_drewN | apply Kd.R_drew)); exact HO_4.out⟩, ⟨by repeat (first | exact HB.out | apply below_alloc | apply pw_below_drewN | apply below_drew1)⟩⟩
        case round =>
          clear H'; (try clear c2); (try clear p2); (try clear c4); (try clear c4b0); (try clear p2)
          obtain ⟨x6_2, x7_2, rfl, rfl, HA, HK2, HO_3, HO_4, HB⟩ := hrel
          cases gk with
          | zero => exact absurd HA.out (by simp [jacquardref02_Headers.l1])
          | succ k2 =>
            have H := HA.out
            clear HA
            simp only [jacquardref02_Headers.l1] at H
            by_cases c5 : x7_2 < (l0.length : Int)
            · rw [if_pos c5] at H
              have c5b0 : decide (x7_2 < (l0.length : Int)) = true := decide_eq_true c5
              clear c5
              replace H := Option.bind_eq_some_iff.mp H
              obtain ⟨t204, A60, H⟩ := H
              have A6 := Aside0.mk A60
              clear A60
              by_cases c7 : x6_2 = true
              · subst c7
                rw [if_pos rfl] at H
                have H' := Aside0.mk H
                clear H
                go_wp2_with (first | ((with_reducible refine gate_callee (f := 29) rfl ?_); refine goesL_ (some 26) rfl rfl Try.func29 (by kernel_rfl) rfl #[.slice A0 l0.length c0, .int .i64 x7_2, .int .i64 x5_1] rfl (by (try simp only [List.map_toArray, List.map_cons, List.map_nil]); first | done | rfl | (simp only [List.length_drop, List.length_take]; rfl)) ?_; (with_reducible refine (jacquardref02_Edge.calls k2 _ _ l0 x7_2 x5_1 t204 _ ?side1 ?side2 A6.out).mono ?_); (case side1 => repeat (first | exact (Kd.C_below HR0.out HB.out) | (with_reducible refine Kd.C_alloc ?_ _) | (with_reducible refine Kd.C_drewN ?_ _) | (with_reducible refine Kd.C_drew ?_))); (case side2 => exact HC0.out); rintro e w' ⟨rfl, ⟨nd, rfl⟩⟩; refine ⟨_, rfl, ?_⟩))
                go_roundg k2
                case measure => have := HK1.out; have := HK2.out; omega
                case rel => exact ⟨(true), (wrap64 (x7_2 + 1)), (by first | rfl | (simp; done) | (simp [*]; done)), (by first | rfl | (simp; done) | (simp [*]; done)), H', ⟨by have := HK1.out; have := HK2.out; omega⟩, ⟨by (with_reducible repeat (first | apply Kd.S_alloc | apply Kd.S_drewN | apply Kd.S_drew)); exact HO_3.out⟩, ⟨by (with_reducible repeat (first | apply Kd.R_alloc | apply Kd.R_drewN | apply Kd.R_drew)); exact HO_4.out⟩, ⟨by repeat (first | exact HB.out | apply below_alloc | apply pw_below_drewN | apply below_drew1)⟩⟩
              · replace c7 := Bool.eq_false_iff.mpr c7
                subst c7
                rw [if_neg (show ¬ (false = true) by decide)] at H
                by_cases c8 : t204 = true
                · subst c8
                  rw [if_pos rfl] at H
                  by_cases c9 : 0 ≤ x5_1
                  · rw [if_pos c9] at H
                    have c9b0 : decide (0 ≤ x5_1) = true := decide_eq_true c9
                    clear c9
                    by_cases c10 : x5_1 < (t201.length : Int)
                    · rw [if_pos c10] at H
                      have c10b0 : decide (x5_1 < (t201.length : Int)) = true := decide_eq_true c10
                      clear c10
                      by_cases c11 : 0 ≤ x7_2
                      · rw [if_pos c11] at H
                        have c11b0 : decide (0 ≤ x7_2) = true := decide_eq_true c11
                        clear c11
                        by_cases c12 : x7_2 < ((rd_L6 t201 x5_1).length : Int)
                        · rw [if_pos c12] at H
                          have c12b0 : decide (x7_2 < ((rd_L6 t201 x5_1).length : Int)) = true := decide_eq_true c12
                          clear c12
                          have H' := Aside0.mk H
                          clear H
                          go_wp2_with (first | ((with_reducible refine gate_callee (f := 29) rfl ?_); refine goesL_ (some 26) rfl rfl Try.func29 (by kernel_rfl) rfl #[.slice A0 l0.length c0, .int .i64 x7_2, .int .i64 x5_1] rfl (by (try simp only [List.map_toArray, List.map_cons, List.map_nil]); first | done | rfl | (simp only [List.length_drop, List.length_take]; rfl)) ?_; (with_reducible refine (jacquardref02_Edge.calls k2 _ _ l0 x7_2 x5_1 true _ ?side1 ?side2 A6.out).mono ?_); (case side1 => repeat (first | exact (Kd.C_below HR0.out HB.out) | (with_reducible refine Kd.C_alloc ?_ _) | (with_reducible refine Kd.C_drewN ?_ _) | (with_reducible refine Kd.C_drew ?_))); (case side2 => exact HC0.out); rintro e w' ⟨rfl, ⟨nd, rfl⟩⟩; refine ⟨_, rfl, ?_⟩; obtain ⟨Ao13, co13, eo13⟩ := Kd.S_slice HO_3.out; subst eo13; have p205 : 0 ≤ (x5_1 : Int) := of_decide_eq_true (by first | (with_reducible assumption) | assumption); have q205 : x5_1 < (t201.length : Int) := of_decide_eq_true (by first | (with_reducible assumption) | assumption); obtain ⟨ad205, A205_0, c205_0, e205, hx205_0, hl205_0, hi205_0⟩ := at_L6 (Kd.S_reads' HO_3.out).2.2 x5_1 p205 q205; cases e205; obtain ⟨ce205, hce205, hMe205, hcc205⟩ := Kd.S_get HO_3.out [] x5_1 p205 (by first | exact q205 | exact of_decide_eq_true (by first | (with_reducible assumption) | assumption) | (have e_ := (Kd.S_reads' HO_3.out).1; omega)); obtain ⟨ve205_0, rfl, ge205_0⟩ := hMe205; have hv205_0 := hcc205 0 _ rfl; rw [Nat.add_zero, show ((Kd.slice 4 Kd.bool)).sz = 1 from rfl, Nat.mul_one] at hv205_0; replace hv205_0 := Option.some.inj (hv205_0.symm.trans hx205_0); rw [hv205_0] at ge205_0; have HL205_0 := Aside0.mk (show Kd.R Kd.bool 4 _ _ _ _ (rd_L6 t201 x5_1) from ge205_0); clear hv205_0 ge205_0; clear hcc205 hce205; have HR205_0 := Aside0.mk hi205_0; have HC205_0 := Aside0.mk hl205_0; clear hi205_0 hl205_0; replace p205 := eq_true p205; replace q205 := eq_true q205; have p206 : 0 ≤ (x7_2 : Int) := of_decide_eq_true (by first | (with_reducible assumption) | assumption); have q206 : x7_2 < ((rd_L6 t201 x5_1).length : Int) := of_decide_eq_true (by first | (with_reducible assumption) | assumption); obtain ⟨ad206, e206, hx206_0⟩ := Kd.at_bool (by repeat (first | (with_reducible exact HR205_0.out) | (with_reducible refine Kd.C_alloc ?_ _) | (with_reducible refine Kd.C_drewN ?_ _) | (with_reducible refine Kd.C_drew ?_) | exact HR205_0.out)) x7_2 p206 q206; cases e206; replace p206 := eq_true p206; replace q206 := eq_true q206))
                          go_roundg k2
                          case measure => have := HK1.out; have := HK2.out; omega
                          case rel => exact ⟨(rdOf false (rd_L6 t201 x5_1) x7_2), (wrap64 (x7_2 + 1)), (by first | rfl | (simp; done) | (simp [*]; done)), (by first | rfl | (simp; done) | (simp [*]; done)), H', ⟨by have := HK1.out; have := HK2.out; omega⟩, ⟨by (with_reducible repeat (first | apply Kd.S_alloc | apply Kd.S_drewN | apply Kd.S_drew)); exact HO_3.out⟩, ⟨by (with_reducible repeat (first | apply Kd.R_alloc | apply Kd.R_drewN | apply Kd.R_drew)); exact HO_4.out⟩, ⟨by repeat (first | exact HB.out | apply below_alloc | apply pw_below_drewN | apply below_drew1)⟩⟩
                        · rw [if_neg c12] at H
                          exact absurd H (by simp)
                      · rw [if_neg c11] at H
                        exact absurd H (by simp)
                    · rw [if_neg c10] at H
                      exact absurd H (by simp)
                  · rw [if_neg c9] at H
                    exact absurd H (by simp)
                · replace c8 := Bool.eq_false_iff.mpr c8
                  subst c8
                  rw [if_neg (show ¬ (false = true) by decide)] at H
                  have H' := Aside0.mk H
                  clear H
                  go_wp2_with (first | ((with_reducible refine gate_callee (f := 29) rfl ?_); refine goesL_ (some 26) rfl rfl Try.func29 (by kernel_rfl) rfl #[.slice A0 l0.length c0, .int .i64 x7_2, .int .i64 x5_1] rfl (by (try simp only [List.map_toArray, List.map_cons, List.map_nil]); first | done | rfl | (simp only [List.length_drop, List.length_take]; rfl)) ?_; (with_reducible refine (jacquardref02_Edge.calls k2 _ _ l0 x7_2 x5_1 false _ ?side1 ?side2 A6.out).mono ?_); (case side1 => repeat (first | exact (Kd.C_below HR0.out HB.out) | (with_reducible refine Kd.C_alloc ?_ _) | (with_reducible refine Kd.C_drewN ?_ _) | (with_reducible refine Kd.C_drew ?_))); (case side2 => exact HC0.out); rintro e w' ⟨rfl, ⟨nd, rfl⟩⟩; refine ⟨_, rfl, ?_⟩))
                  go_roundg k2
                  case measure => have := HK1.out; have := HK2.out; omega
                  case rel => exact ⟨(false), (wrap64 (x7_2 + 1)), (by first | rfl | (simp; done) | (simp [*]; done)), (by first | rfl | (simp; done) | (simp [*]; done)), H', ⟨by have := HK1.out; have := HK2.out; omega⟩, ⟨by (with_reducible repeat (first | apply Kd.S_alloc | apply Kd.S_drewN | apply Kd.S_drew)); exact HO_3.out⟩, ⟨by (with_reducible repeat (first | apply Kd.R_alloc | apply Kd.R_drewN | apply Kd.R_drew)); exact HO_4.out⟩, ⟨by repeat (first | exact HB.out | apply below_alloc | apply pw_below_drewN | apply below_drew1)⟩⟩
            · rw [if_neg c5] at H
              have c5b0 : decide (x7_2 < (l0.length : Int)) = false := decide_eq_false c5
              clear c5
              by_cases c14 : x6_2 = true
              · subst c14
                rw [if_pos rfl] at H
                by_cases c15 : x4_1.length < 17592186044416
                · rw [if_pos c15] at H
                  have LMc15 := Aside0.mk c15
                  clear c15
                  obtain ⟨y207, hy207⟩ : ∃ y_ : List Int, y_ = (x4_1 ++ [x5_1]) := ⟨_, rfl⟩
                  replace H : (jacquardref02_Headers.l0 k2 l0 t201 y207 (wrap64 (x5_1 + 1))) = some r := by first | (rw [hy207]; with_reducible exact H) | (have H2_ := (Option.bind_some _ _).symm.trans H; rw [hy207]; with_reducible exact H2_) | (have H2_ := (Option.bind_some _ _).symm.trans H; with_reducible exact H2_) | with_reducible exact H | (rw [hy207]; exact H) | exact H
                  have Ny207 := Aside0.mk hy207
                  clear hy207
                  have H' := Aside0.mk H
                  clear H
                  go_wp2_with (first | ((with_reducible refine gate_builtin (b := .append) (xs := #[.tmp 41, .tmp 43]) rfl ?_); at_builtin; refine Kd.R_append (Kd.int .i64) (w0 := w) w.heap.size rfl (.tmp 41) (.tmp 43) 23 3 (.int .i64 0) 8 rfl Try.underlying23 info3 rfl (by decide) (by omega) u4 x4_1 x5_1 [.int .i64 x5_1] (fun _ => True) (fun _ => False) rfl rfl ?aP (fun _ hk => hk.elim) ?aF ?aO ?aB ?aS ?aL ?_; (case aP => exact rfl); (case aB => exact (by repeat (first | exact HB.out | apply below_alloc | apply pw_below_drewN | apply below_drew1))); (case aF => exact (fun _ _ => trivial)); (case aO => exact (by (with_reducible repeat (first | apply Kd.R_alloc | apply Kd.R_drewN | apply Kd.R_drew)); exact HO_4.out)); (case aS => exact (below_size (by repeat (first | exact HB.out | apply below_alloc | apply pw_below_drewN | apply below_drew1)))); (case aL => have := LMc15.out; omega); intro v208 w16 ho hb hg hat; rw [← Ny207.out] at ho; have n0_ := Aside0.mk (Kd.S_over' (by (with_reducible repeat (first | apply Kd.S_alloc | apply Kd.S_drewN | apply Kd.S_drew)); exact HO_3.out) (Kd.R_typed (by (with_reducible repeat (first | apply Kd.R_alloc | apply Kd.R_drewN | apply Kd.R_drew)); exact HO_4.out)) (by decide) hg); have n1_ := Aside0.mk (hb); have n2_ := Aside0.mk (ho); clear HO_3; clear HB; clear HO_4; have HO_3 := n0_; have HB := n1_; have HO209 := n2_; clear n0_ n1_ n2_; clear ho hb hg hat))
                  go_roundg k2
                  case measure => have := HK1.out; have := HK2.out; omega
                  case rel => exact ⟨(y207), (wrap64 (x5_1 + 1)), (by first | rfl | (simp; done) | (simp [*]; done)), H', ⟨by have := HK1.out; have := HK2.out; omega⟩, ⟨by (with_reducible repeat (first | apply Kd.S_alloc | apply Kd.S_drewN | apply Kd.S_drew)); exact HO_3.out⟩, ⟨by (with_reducible repeat (first | apply Kd.R_alloc | apply Kd.R_drewN | apply Kd.R_drew)); exact HO209.out⟩, ⟨by repeat (first | exact HB.out | apply below_alloc | apply pw_below_drewN | apply below_drew1)⟩⟩
                · rw [if_neg c15] at H
                  exact absurd H (by simp)
              · replace c14 := Bool.eq_false_iff.mpr c14
                subst c14
                rw [if_neg (show ¬ (false = true) by decide)] at H
                have H' := Aside0.mk H
                clear H
                go_wp2
                go_roundg k2
                case measure => have := HK1.out; have := HK2.out; omega
                case rel => exact ⟨(x4_1), (wrap64 (x5_1 + 1)), (by first | rfl | (simp; done) | (simp [*]; done)), H', ⟨by have := HK1.out; have := HK2.out; omega⟩, ⟨by (with_reducible repeat (first | apply Kd.S_alloc | apply Kd.S_drewN | apply Kd.S_drew)); exact HO_3.out⟩, ⟨by (with_reducible repeat (first | apply Kd.R_alloc | apply Kd.R_drewN | apply Kd.R_drew)); exact HO_4.out⟩, ⟨by repeat (first | exact HB.out | apply below_alloc | apply pw_below_drewN | apply below_drew1)⟩⟩
      · rw [if_neg c4] at H
        have c4b0 : decide (x5_1 < (l0.length : Int)) = false := decide_eq_false c4
        clear c4
        obtain rfl := Option.some.inj H
        go_wp2
        go_ret
        exact ⟨_, by first | rfl | (simp [errW_none, errW_some] <;> rfl) | (simp [*, errW_none, errW_some] <;> rfl), by (with_reducible repeat (first | apply Kd.R_alloc | apply Kd.R_drewN | apply Kd.R_drew)); exact HO_4.out, by repeat (first | exact HB.out | apply below_alloc | apply pw_below_drewN | apply below_drew1)⟩

mutual
def jacquardref02_Critical.l0 : Nat → List (List Int) → List (List Int) → List (S73) → Int → Option ((List (S73)))
  | 0, _, _, _, _ => none
  | k + 1, x0, x3, x4, x5 => if x5 < (x0.length : Int) then ((jacquardref02_next.f k x0 x5).bind fun t213 => (jacquardref02_Critical.l1 k x0 x3 x4 x5 t213 0)) else (some x4)
def jacquardref02_Critical.l1 : Nat → List (List Int) → List (List Int) → List (S73) → Int → List Int → Int → Option ((List (S73)))
  | 0, _, _, _, _, _, _ => none
  | k + 1, x0, x3, x4, x5, x6, x7 => if x7 < (x6.length : Int) then (if (x6.length : Int) > 1 then (if 0 ≤ x7 then (if 0 ≤ (rd x6 x7) then (if (rd x6 x7) < (x3.length : Int) then (if ((rd_L1 x3 (rd x6 x7)).length : Int) > 1 then (if x4.length < 8796093022208 then (jacquardref02_Critical.l1 k x0 x3 (x4 ++ [(⟨x5, rd x6 x7⟩ : S73)]) x5 x6 (wrap64 (x7 + 1))) else (none)) else (jacquardref02_Critical.l1 k x0 x3 x4 x5 x6 (wrap64 (x7 + 1)))) else (none)) else (none)) else (none)) else (jacquardref02_Critical.l1 k x0 x3 x4 x5 x6 (wrap64 (x7 + 1)))) else (jacquardref02_Critical.l0 k x0 x3 x4 (wrap64 (x5 + 1)))
end
def jacquardref02_Critical.f (k : Nat) (l0 : List (List Int)) : Option ((List (S73))) := (jacquardref02_Preds.f k l0).bind fun t210 => (jacquardref02_Critical.l0 k l0 t210 ([] : List (S73)) 0)
theorem jacquardref02_Critical.mono_l : ∀ k, (∀ y0 y1 y2 y3, LeO (jacquardref02_Critical.l0 k y0 y1 y2 y3) (jacquardref02_Critical.l0 (k + 1) y0 y1 y2 y3)) ∧ (∀ y0 y1 y2 y3 y4 y5, LeO (jacquardref02_Critical.l1 k y0 y1 y2 y3 y4 y5) (jacquardref02_Critical.l1 (k + 1) y0 y1 y2 y3 y4 y5))
  | 0 => ⟨fun _ _ _ _ r h => by simp [jacquardref02_Critical.l0] at h, fun _ _ _ _ _ _ r h => by simp [jacquardref02_Critical.l1] at h⟩
  | k + 1 => by
    obtain ⟨ih0, ih1⟩ := jacquardref02_Critical.mono_l k
    refine ⟨?_, ?_⟩
    · intro y0 y1 y2 y3
      unfold jacquardref02_Critical.l0
      repeat' first | (with_reducible exact LeO.refl _) | (with_reducible refine LeO.ite ?_ ?_) | (with_reducible refine LeO.bind ?_ (fun _ => ?_)) | exact LeO.none _ | exact ih0 _ _ _ _ | exact ih1 _ _ _ _ _ _ | exact jacquardref02_Preds.mono _ _ | exact jacquardref02_next.mono _ _ _ | refine LeO.ite ?_ ?_ | refine LeO.bind ?_ (fun _ => ?_)
    · intro y0 y1 y2 y3 y4 y5
      unfold jacquardref02_Critical.l1
      repeat' first | (with_reducible exact LeO.refl _) | (with_reducible refine LeO.ite ?_ ?_) | (with_reducible refine LeO.bind ?_ (fun _ => ?_)) | exact LeO.none _ | exact ih0 _ _ _ _ | exact ih1 _ _ _ _ _ _ | exact jacquardref02_Preds.mono _ _ | exact jacquardref02_next.mono _ _ _ | refine LeO.ite ?_ ?_ | refine LeO.bind ?_ (fun _ => ?_)
theorem jacquardref02_Critical.mono : ∀ a0 k, LeO (jacquardref02_Critical.f k a0) (jacquardref02_Critical.f (k + 1) a0) := by
  intro a0 k
  obtain ⟨ih0, ih1⟩ := jacquardref02_Critical.mono_l k
  unfold jacquardref02_Critical.f
  repeat' first | (with_reducible exact LeO.refl _) | (with_reducible refine LeO.ite ?_ ?_) | (with_reducible refine LeO.bind ?_ (fun _ => ?_)) | exact LeO.none _ | exact ih0 _ _ _ _ | exact ih1 _ _ _ _ _ _ | exact jacquardref02_Preds.mono _ _ | exact jacquardref02_next.mono _ _ _ | refine LeO.ite ?_ ?_ | refine LeO.bind ?_ (fun _ => ?_)
set_option maxHeartbeats 8000000 in
set_option maxRecDepth 100000 in
theorem jacquardref02_Critical.calls (k : Nat) (A0 : Option Addr) (c0 : Nat) (l0 : List (List Int)) (r : List (S73)) (w : World) (hr0 : Kd.C (Kd.slice 3 (Kd.int .i64)) w A0 l0.length l0) (hc0 : l0.length ≤ c0) (h : jacquardref02_Critical.f k l0 = some r) :
    Calls Try.prog 66 #[.slice A0 l0.length c0] w fun e w' => ∃ v0_ : Value, e = .returned (v0_) ∧ Kd.R k73 73 w' w.heap.size (fun _ => True) v0_ r ∧ Below w.heap.size w w' := by
  have hu73 := Try.underlying73
  have HR0 := Aside0.mk hr0
  have HC0 := Aside0.mk hc0
  clear hr0 hc0
  have HB := Aside0.mk (Below.refl w.heap.size w)
  have H : ((jacquardref02_Preds.f k l0).bind fun t210 => (jacquardref02_Critical.l0 k l0 t210 ([] : List (S73)) 0)) = some r := h
  clear h
  replace H := Option.bind_eq_some_iff.mp H
  obtain ⟨t210, A20, H⟩ := H
  have A2 := Aside0.mk A20
  clear A20
  have H' := Aside0.mk H
  clear H
  go_enter Try.func66, Try.ntmps66
  go_wp2_with (first | ((with_reducible refine gate_callee (f := 62) rfl ?_); refine goesL_ (some 9) rfl rfl Try.func62 (by kernel_rfl) rfl #[.slice A0 l0.length c0] rfl (by (try simp only [List.map_toArray, List.map_cons, List.map_nil]); first | done | rfl | (simp only [List.length_drop, List.length_take]; rfl)) ?_; (with_reducible refine (jacquardref02_Preds.calls k _ _ l0 t210 _ ?side1 ?side2 A2.out).mono ?_); (case side1 => repeat (first | exact HR0.out | (with_reducible refine Kd.C_alloc ?_ _) | (with_reducible refine Kd.C_drewN ?_ _) | (with_reducible refine Kd.C_drew ?_))); (case side2 => exact HC0.out); rintro e w3 ⟨v211, rfl, ho0, hb⟩; refine ⟨_, rfl, ?_⟩; have n0_ := Aside0.mk (Kd.S_lower ho0 (below_size (by repeat (first | exact HB.out | apply below_alloc | apply pw_below_drewN | apply below_drew1)))); have n1_ := Aside0.mk (below_step (by repeat (first | exact HB.out | apply below_alloc | apply pw_below_drewN | apply below_drew1)) hb); clear HB; have HO212 := n0_; have HB := n1_; clear n0_ n1_; (try clear hb); (try clear hb2); (try clear hk); (try clear hi); (try clear ho0)))
  go_loopg [4, 5] k (fun kq v4 v5 w' => ∃ (x4_1 : List (S73)) (x5_1 : Int), v5 = .int .i64 x5_1 ∧ Aside0 (jacquardref02_Critical.l0 kq l0 t210 x4_1 x5_1 = some r) ∧ Aside0 (kq ≤ k) ∧ Aside0 (Kd.S (Kd.slice 3 (Kd.int .i64)) 23 w' w.heap.size (fun _ => True) v211 t210) ∧ Aside0 (Kd.R k73 73 w' w.heap.size (fun _ => True) v4 x4_1) ∧ Aside0 (Below w.heap.size w w'))
  case atStart => exact ⟨(([] : List (S73))), (0), (by first | rfl | (simp; done) | (simp [*]; done)), H', ⟨Nat.le_refl _⟩, ⟨by (with_reducible repeat (first | apply Kd.S_alloc | apply Kd.S_drewN | apply Kd.S_drew)); exact HO212.out⟩, ⟨by first | exact Kd.R_nil _ _ _ _ _ | exact Kd.N_nil _ _ _ _ _ | exact Kd.V_nil _ _ _ _ _ | exact Kd.Q_nil _ _ _ _ _ | exact Kd.S_nil _ _ _ _ _⟩, ⟨by repeat (first | exact HB.out | apply below_alloc | apply pw_below_drewN | apply below_drew1)⟩⟩
  case round =>
    clear H'; (try clear p2)
    obtain ⟨x4_1, x5_1, rfl, HA, HK1, HO_3, HO_4, HB⟩ := hrel
    cases gk with
    | zero => exact absurd HA.out (by simp [jacquardref02_Critical.l0])
    | succ k1 =>
      have H := HA.out
      clear HA
      simp only [jacquardref02_Critical.l0] at H
      by_cases c4 : x5_1 < (l0.length : Int)
      · rw [if_pos c4] at H
        have c4b0 : decide (x5_1 < (l0.length : Int)) = true := decide_eq_true c4
        clear c4
        replace H := Option.bind_eq_some_iff.mp H
        obtain ⟨t213, A50, H⟩ := H
        have A5 := Aside0.mk A50
        clear A50
        have H' := Aside0.mk H
        clear H
        go_wp2_with (first | ((with_reducible refine gate_callee (f := 72) rfl ?_); refine goesL_ (some 18) rfl rfl Try.func72 (by kernel_rfl) rfl #[.slice A0 l0.length c0, .int .i64 x5_1] rfl (by (try simp only [List.map_toArray, List.map_cons, List.map_nil]); first | done | rfl | (simp only [List.length_drop, List.length_take]; rfl)) ?_; (with_reducible refine (jacquardref02_next.calls k1 _ _ l0 x5_1 t213 _ ?side1 ?side2 A5.out).mono ?_); (case side1 => repeat (first | exact (Kd.C_below HR0.out HB.out) | (with_reducible refine Kd.C_alloc ?_ _) | (with_reducible refine Kd.C_drewN ?_ _) | (with_reducible refine Kd.C_drew ?_))); (case side2 => exact HC0.out); rintro e w6 ⟨v214, rfl, ho0, hb⟩; refine ⟨_, rfl, ?_⟩; have n0_ := Aside0.mk (Kd.S_elder' (by (with_reducible repeat (first | apply Kd.S_alloc | apply Kd.S_drewN | apply Kd.S_drew)); exact HO_3.out) (Kd.R_base ho0) hb); have n1_ := Aside0.mk (Kd.R_below (by (with_reducible repeat (first | apply Kd.R_alloc | apply Kd.R_drewN | apply Kd.R_drew)); exact HO_4.out) hb); have n2_ := Aside0.mk (Kd.R_lower ho0 (below_size (by repeat (first | exact HB.out | apply below_alloc | apply pw_below_drewN | apply below_drew1)))); have n3_ := Aside0.mk (below_step (by repeat (first | exact HB.out | apply below_alloc | apply pw_below_drewN | apply below_drew1)) hb); clear HO_3; clear HO_4; clear HB; have HO_3 := n0_; have HO_4 := n1_; have HO215 := n2_; have HB := n3_; clear n0_ n1_ n2_ n3_; (try clear hb); (try clear hb2); (try clear hk); (try clear hi); (try clear ho0)))
        go_loopg [4, 7] k1 (fun kq v4 v7 w' => ∃ (x4_2 : List (S73)) (x7_2 : Int), v7 = .int .i64 x7_2 ∧ Aside0 (jacquardref02_Critical.l1 kq l0 t210 x4_2 x5_1 t213 x7_2 = some r) ∧ Aside0 (kq ≤ k1) ∧ Aside0 (Kd.S (Kd.slice 3 (Kd.int .i64)) 23 w' w.heap.size (fun k_ => some k_ ≠ (v214 : Value).ownBlock) v211 t210) ∧ Aside0 (Kd.R k73 73 w' w.heap.size (fun _ => True) v4 x4_2) ∧ Aside0 (Kd.R (Kd.int .i64) 3 w' w.heap.size (fun _ => True) v214 t213) ∧ Aside0 (Below w.heap.size w w'))
        case atStart => exact ⟨(x4_1), (0), (by first | rfl | (simp; done) | (simp [*]; done)), H', ⟨Nat.le_refl _⟩, ⟨by (with_reducible repeat (first | apply Kd.S_alloc | apply Kd.S_drewN | apply Kd.S_drew)); exact Kd.S_mono HO_3.out (fun _ hk => hk.2)⟩, ⟨by (with_reducible repeat (first | apply Kd.R_alloc | apply Kd.R_drewN | apply Kd.R_drew)); exact HO_4.out⟩, ⟨by (with_reducible repeat (first | apply Kd.R_alloc | apply Kd.R_drewN | apply Kd.R_drew)); exact HO215.out⟩, ⟨by repeat (first | exact HB.out | apply below_alloc | apply pw_below_drewN | apply below_drew1)⟩⟩
        case round =>
          clear H'; (try clear p2); (try clear c4); (try clear c4b0); (try clear c6); (try clear p2)
          obtain ⟨x4_2, x7_2, rfl, HA, HK2, HO_3, HO_4, HO_6, HB⟩ := hrel
          cases gk with
          | zero => exact absurd HA.out (by simp [jacquardref02_Critical.l1])
          | succ k2 =>
            have H := HA.out
            clear HA
            simp only [jacquardref02_Critical.l1] at H
            by_cases c7 : x7_2 < (t213.length : Int)
            · rw [if_pos c7] at H
              have c7b0 : decide (x7_2 < (t213.length : Int)) = true := decide_eq_true c7
              clear c7
              by_cases c8 : (t213.length : Int) > 1
              · rw [if_pos c8] at H
                have c8b0 : decide (1 < (t213.length : Int)) = true := decide_eq_true c8
                have c8b1 : decide (1 < t213.length) = true := decide_eq_true (by omega)
                clear c8
                by_cases c9 : 0 ≤ x7_2
                · rw [if_pos c9] at H
                  have c9b0 : decide (0 ≤ x7_2) = true := decide_eq_true c9
                  clear c9
                  by_cases c10 : 0 ≤ (rd t213 x7_2)
                  · rw [if_pos c10] at H
                    have c10b0 : decide (0 ≤ (rd t213 x7_2)) = true := decide_eq_true c10
                    clear c10
                    by_cases c11 : (rd t213 x7_2) < (t210.length : Int)
                    · rw [if_pos c11] at H
                      have c11b0 : decide ((rd t213 x7_2) < (t210.length : Int)) = true := decide_eq_true c11
                      clear c11
                      by_cases c12 : ((rd_L1 t210 (rd t213 x7_2)).length : Int) > 1
                      · rw [if_pos c12] at H
                        have c12b0 : decide (1 < ((rd_L1 t210 (rd t213 x7_2)).length : Int)) = true := decide_eq_true c12
                        have c12b1 : decide (1 < (rd_L1 t210 (rd t213 x7_2)).length) = true := decide_eq_true (by omega)
                        clear c12
                        by_cases c13 : x4_2.length < 8796093022208
                        · rw [if_pos c13] at H
                          have LMc13 := Aside0.mk c13
                          clear c13
                          obtain ⟨y219, hy219⟩ : ∃ y_ : List (S73), y_ = (x4_2 ++ [(⟨x5_1, rd t213 x7_2⟩ : S73)]) := ⟨_, rfl⟩
                          replace H : (jacquardref02_Critical.l1 k2 l0 t210 y219 x5_1 t213 (wrap64 (x7_2 + 1))) = some r := by first | (rw [hy219]; with_reducible exact H) | (have H2_ := (Option.bind_some _ _).symm.trans H; rw [hy219]; with_reducible exact H2_) | (have H2_ := (Option.bind_some _ _).symm.trans H; with_reducible exact H2_) | with_reducible exact H | (rw [hy219]; exact H) | exact H
                          have Ny219 := Aside0.mk hy219
                          clear hy219
                          have H' := Aside0.mk H
                          clear H
                          obtain ⟨Ao14, co14, eo14⟩ := Kd.R_slice HO_6.out
                          subst eo14
                          have p216 : 0 ≤ (x7_2 : Int) := of_decide_eq_true (by first | (with_reducible assumption) | assumption)
                          have q216 : x7_2 < (t213.length : Int) := of_decide_eq_true (by first | (with_reducible assumption) | assumption)
                          obtain ⟨ad216, e216, hx216_0⟩ := Kd.at_int (Kd.R_reads' HO_6.out).2.2 x7_2 p216 q216
                          cases e216
                          replace p216 := eq_true p216
                          replace q216 := eq_true q216
                          obtain ⟨Ao15, co15, eo15⟩ := Kd.S_slice HO_3.out
                          subst eo15
                          have p217 : 0 ≤ ((rd t213 x7_2) : Int) := of_decide_eq_true (by first | (with_reducible assumption) | assumption)
                          have q217 : (rd t213 x7_2) < (t210.length : Int) := of_decide_eq_true (by first | (with_reducible assumption) | assumption)
                          obtain ⟨ad217, A217_0, c217_0, e217, hx217_0, hl217_0, hi217_0⟩ := at_L1 (Kd.S_reads' HO_3.out).2.2 (rd t213 x7_2) p217 q217
                          cases e217
                          obtain ⟨ce217, hce217, hMe217, hcc217⟩ := Kd.S_get HO_3.out [] (rd t213 x7_2) p217 (by first | exact q217 | exact of_decide_eq_true (by first | (with_reducible assumption) | assumption) | (have e_ := (Kd.S_reads' HO_3.out).1; omega))
                          obtain ⟨ve217_0, rfl, ge217_0⟩ := hMe217
                          have hv217_0 := hcc217 0 _ rfl
                          rw [Nat.add_zero, show ((Kd.slice 3 (Kd.int .i64))).sz = 1 from rfl, Nat.mul_one] at hv217_0
                          replace hv217_0 := Option.some.inj (hv217_0.symm.trans hx217_0)
                          rw [hv217_0] at ge217_0
                          have HL217_0 := Aside0.mk (show Kd.R (Kd.int .i64) 3 _ _ _ _ (rd_L1 t210 (rd t213 x7_2)) from ge217_0)
                          clear hv217_0 ge217_0; clear hcc217 hce217
                          have HR217_0 := Aside0.mk hi217_0
                          have HC217_0 := Aside0.mk hl217_0
                          clear hi217_0 hl217_0
                          replace p217 := eq_true p217
                          replace q217 := eq_true q217
                          have p218 : 0 ≤ (x7_2 : Int) := of_decide_eq_true (by first | (with_reducible assumption) | assumption)
                          have q218 : x7_2 < (t213.length : Int) := of_decide_eq_true (by first | (with_reducible assumption) | assumption)
                          obtain ⟨ad218, e218, hx218_0⟩ := Kd.at_int (Kd.R_reads' HO_6.out).2.2 x7_2 p218 q218
                          obtain rfl : ad216 = ad218 := (by injection e218)
                          replace p218 := eq_true p218
                          replace q218 := eq_true q218
                          go_wp2_with (first | ((with_reducible refine gate_builtin (b := .append) (xs := #[.tmp 39, .tmp 46]) rfl ?_); (try (refine gate_guard (by rfl) ?_; dsimp only)); at_builtin; refine Kd.R_append k73 (w0 := w) w.heap.size rfl (.tmp 39) (.tmp 46) 74 73 (.agg #[(.int .i64 0), (.int .i64 0)]) 16 rfl Try.underlying74 info73 rfl (by decide) (by omega) u4 x4_2 (⟨x5_1, rd t213 x7_2⟩ : S73) [.int .i64 x5_1, .int .i64 (rd t213 x7_2)] (fun _ => True) (fun _ => False) rfl rfl ?aP (fun _ hk => hk.elim) ?aF ?aO ?aB ?aS ?aL ?_; (case aP => exact k73_mkM _ _ _ (⟨x5_1, rd t213 x7_2⟩ : S73)); (case aB => exact (by repeat (first | exact HB.out | apply below_alloc | apply pw_below_drewN | apply below_drew1))); (case aF => exact (fun _ _ => trivial)); (case aO => exact (by (with_reducible repeat (first | apply Kd.R_alloc | apply Kd.R_drewN | apply Kd.R_drew)); exact HO_4.out)); (case aS => exact (below_size (by repeat (first | exact HB.out | apply below_alloc | apply pw_below_drewN | apply below_drew1)))); (case aL => have := LMc13.out; omega); intro v220 w16 ho hb hg hat; rw [← Ny219.out] at ho; have n0_ := Aside0.mk (Kd.S_over' (by (with_reducible repeat (first | apply Kd.S_alloc | apply Kd.S_drewN | apply Kd.S_drew)); exact HO_3.out) (Kd.R_typed (by (with_reducible repeat (first | apply Kd.R_alloc | apply Kd.R_drewN | apply Kd.R_drew)); exact HO_4.out)) (by decide) hg); have n1_ := Aside0.mk (Kd.R_over' (by (with_reducible repeat (first | apply Kd.R_alloc | apply Kd.R_drewN | apply Kd.R_drew)); exact HO_6.out) (Kd.R_typed (by (with_reducible repeat (first | apply Kd.R_alloc | apply Kd.R_drewN | apply Kd.R_drew)); exact HO_4.out)) (by decide) hg); have n2_ := Aside0.mk (Kd.R_over' (by (with_reducible repeat (first | apply Kd.R_alloc | apply Kd.R_drewN | apply Kd.R_drew)); exact HL217_0.out) (Kd.R_typed (by (with_reducible repeat (first | apply Kd.R_alloc | apply Kd.R_drewN | apply Kd.R_drew)); exact HO_4.out)) (by decide) hg); have n3_ := Aside0.mk (hb); have n4_ := Aside0.mk (ho); clear HO_3; clear HO_6; clear HL217_0; clear HB; clear HO_4; have HO_3 := n0_; have HO_6 := n1_; have HL217_0 := n2_; have HB := n3_; have HO221 := n4_; clear n0_ n1_ n2_ n3_ n4_; clear ho hb hg hat))
                          go_roundg k2
                          case measure => have := HK1.out; have := HK2.out; omega
                          case rel => exact ⟨(y219), (wrap64 (x7_2 + 1)), (by first | rfl | (simp; done) | (simp [*]; done)), H', ⟨by have := HK1.out; have := HK2.out; omega⟩, ⟨by (with_reducible repeat (first | apply Kd.S_alloc | apply Kd.S_drewN | apply Kd.S_drew)); exact HO_3.out⟩, ⟨by (with_reducible repeat (first | apply Kd.R_alloc | apply Kd.R_drewN | apply Kd.R_drew)); exact HO221.out⟩, ⟨by (with_reducible repeat (first | apply Kd.R_alloc | apply Kd.R_drewN | apply Kd.R_drew)); exact HO_6.out⟩, ⟨by repeat (first | exact HB.out | apply below_alloc | apply pw_below_drewN | apply below_drew1)⟩⟩
                        · rw [if_neg c13] at H
                          exact absurd H (by simp)
                      · rw [if_neg c12] at H
                        have c12b0 : decide (1 < ((rd_L1 t210 (rd t213 x7_2)).length : Int)) = false := decide_eq_false c12
                        have c12b1 : decide (1 < (rd_L1 t210 (rd t213 x7_2)).length) = false := decide_eq_false (by omega)
                        clear c12
                        have H' := Aside0.mk H
                        clear H
                        obtain ⟨Ao17, co17, eo17⟩ := Kd.R_slice HO_6.out
                        subst eo17
                        have p216 : 0 ≤ (x7_2 : Int) := of_decide_eq_true (by first | (with_reducible assumption) | assumption)
                        have q216 : x7_2 < (t213.length : Int) := of_decide_eq_true (by first | (with_reducible assumption) | assumption)
                        obtain ⟨ad216, e216, hx216_0⟩ := Kd.at_int (Kd.R_reads' HO_6.out).2.2 x7_2 p216 q216
                        cases e216
                        replace p216 := eq_true p216
                        replace q216 := eq_true q216
                        obtain ⟨Ao18, co18, eo18⟩ := Kd.S_slice HO_3.out
                        subst eo18
                        have p217 : 0 ≤ ((rd t213 x7_2) : Int) := of_decide_eq_true (by first | (with_reducible assumption) | assumption)
                        have q217 : (rd t213 x7_2) < (t210.length : Int) := of_decide_eq_true (by first | (with_reducible assumption) | assumption)
                        obtain ⟨ad217, A217_0, c217_0, e217, hx217_0, hl217_0, hi217_0⟩ := at_L1 (Kd.S_reads' HO_3.out).2.2 (rd t213 x7_2) p217 q217
                        cases e217
                        obtain ⟨ce217, hce217, hMe217, hcc217⟩ := Kd.S_get HO_3.out [] (rd t213 x7_2) p217 (by first | exact q217 | exact of_decide_eq_true (by first | (with_reducible assumption) | assumption) | (have e_ := (Kd.S_reads' HO_3.out).1; omega))
                        obtain ⟨ve217_0, rfl, ge217_0⟩ := hMe217
                        have hv217_0 := hcc217 0 _ rfl
                        rw [Nat.add_zero, show ((Kd.slice 3 (Kd.int .i64))).sz = 1 from rfl, Nat.mul_one] at hv217_0
                        replace hv217_0 := Option.some.inj (hv217_0.symm.trans hx217_0)
                        rw [hv217_0] at ge217_0
                        have HL217_0 := Aside0.mk (show Kd.R (Kd.int .i64) 3 _ _ _ _ (rd_L1 t210 (rd t213 x7_2)) from ge217_0)
                        clear hv217_0 ge217_0; clear hcc217 hce217
                        have HR217_0 := Aside0.mk hi217_0
                        have HC217_0 := Aside0.mk hl217_0
                        clear hi217_0 hl217_0
                        replace p217 := eq_true p217
                        replace q217 := eq_true q217
                        go_wp2
                        go_roundg k2
                        case measure => have := HK1.out; have := HK2.out; omega
                        case rel => exact ⟨(x4_2), (wrap64 (x7_2 + 1)), (by first | rfl | (simp; done) | (simp [*]; done)), H', ⟨by have := HK1.out; have := HK2.out; omega⟩, ⟨by (with_reducible repeat (first | apply Kd.S_alloc | apply Kd.S_drewN | apply Kd.S_drew)); exact HO_3.out⟩, ⟨by (with_reducible repeat (first | apply Kd.R_alloc | apply Kd.R_drewN | apply Kd.R_drew)); exact HO_4.out⟩, ⟨by (with_reducible repeat (first | apply Kd.R_alloc | apply Kd.R_drewN | apply Kd.R_drew)); exact HO_6.out⟩, ⟨by repeat (first | exact HB.out | apply below_alloc | apply pw_below_drewN | apply below_drew1)⟩⟩
                    · rw [if_neg c11] at H
                      exact absurd H (by simp)
                  · rw [if_neg c10] at H
                    exact absurd H (by simp)
                · rw [if_neg c9] at H
                  exact absurd H (by simp)
              · rw [if_neg c8] at H
                have c8b0 : decide (1 < (t213.length : Int)) = false := decide_eq_false c8
                have c8b1 : decide (1 < t213.length) = false := decide_eq_false (by omega)
                clear c8
                have H' := Aside0.mk H
                clear H
                obtain ⟨Ao19, co19, eo19⟩ := Kd.R_slice HO_6.out
                subst eo19
                go_wp2
                go_roundg k2
                case measure => have := HK1.out; have := HK2.out; omega
                case rel => exact ⟨(x4_2), (wrap64 (x7_2 + 1)), (by first | rfl | (simp; done) | (simp [*]; done)), H', ⟨by have := HK1.out; have := HK2.out; omega⟩, ⟨by (with_reducible repeat (first | apply Kd.S_alloc | apply Kd.S_drewN | apply Kd.S_drew)); exact HO_3.out⟩, ⟨by (with_reducible repeat (first | apply Kd.R_alloc | apply Kd.R_drewN | apply Kd.R_drew)); exact HO_4.out⟩, ⟨by (with_reducible repeat (first | apply Kd.R_alloc | apply Kd.R_drewN | apply Kd.R_drew)); exact HO_6.out⟩, ⟨by repeat (first | exact HB.out | apply below_alloc | apply pw_below_drewN | apply below_drew1)⟩⟩
            · rw [if_neg c7] at H
              have c7b0 : decide (x7_2 < (t213.length : Int)) = false := decide_eq_false c7
              clear c7
              have H' := Aside0.mk H
              clear H
              obtain ⟨Ao20, co20, eo20⟩ := Kd.R_slice HO_6.out
              subst eo20
              go_wp2
              go_roundg k2
              case measure => have := HK1.out; have := HK2.out; omega
              case rel => exact ⟨(x4_2), (wrap64 (x5_1 + 1)), (by first | rfl | (simp; done) | (simp [*]; done)), H', ⟨by have := HK1.out; have := HK2.out; omega⟩, ⟨by (with_reducible repeat (first | apply Kd.S_alloc | apply Kd.S_drewN | apply Kd.S_drew)); exact Kd.S_mono HO_3.out (fun _ hk => trivial)⟩, ⟨by (with_reducible repeat (first | apply Kd.R_alloc | apply Kd.R_drewN | apply Kd.R_drew)); exact HO_4.out⟩, ⟨by repeat (first | exact HB.out | apply below_alloc | apply pw_below_drewN | apply below_drew1)⟩⟩
      · rw [if_neg c4] at H
        have c4b0 : decide (x5_1 < (l0.length : Int)) = false := decide_eq_false c4
        clear c4
        obtain rfl := Option.some.inj H
        go_wp2
        go_ret
        exact ⟨_, by first | rfl | (simp [errW_none, errW_some] <;> rfl) | (simp [*, errW_none, errW_some] <;> rfl), by (with_reducible repeat (first | apply Kd.R_alloc | apply Kd.R_drewN | apply Kd.R_drew)); exact HO_4.out, by repeat (first | exact HB.out | apply below_alloc | apply pw_below_drewN | apply below_drew1)⟩

end Go.Proofs.Ytnmeomdjhjgnfaa.X
end
