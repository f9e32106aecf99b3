/- Parts of the proof of GraphTells: X13, X14, Grorder, Gpairs, Gcrit, Gdom, Gspec2, Gback, Ghead, Gred, Gbody. -/
import Derived.Test.YtnmeomdjhjgnfaaB1
import Derived.Test.YtnmeomdjhjgnfaaB2
import Derived.WalkMore
import Derived.Laws.EntriesVeiled
import Derived.Maps.Own
import Derived.Maps.Views
section
-- written by a driver of this session (wip/xprint.py) over the kit's print, for this claim; Lean checks it
namespace Go.Proofs.Ytnmeomdjhjgnfaa.X
open Go.RowKit Go.Proofs.YtnmeomdjhjgnfaaW.PrintWords Go.Proofs.YtnmeomdjhjgnfaaW.PrintLast
attribute [local go_sem] min2_int min_two
set_option linter.unusedVariables false
set_option linter.unusedSimpArgs false

/-! ### jacquardref02_Reducible: function 67 -/
mutual
def jacquardref02_Reducible.l0 : Nat → List (List Int) → List (List Bool) → List Bool → Int → Option (Bool)
  | 0, _, _, _, _ => none
  | k + 1, x0, x3, x4, x5 => if x5 < (x0.length : Int) then (jacquardref02_Reducible.l1 k x0 x3 x4 x5 0) else (jacquardref02_Reducible.l3 k x0 x4 0)
def jacquardref02_Reducible.l1 : Nat → List (List Int) → List (List Bool) → List Bool → Int → Int → Option (Bool)
  | 0, _, _, _, _, _ => none
  | k + 1, x0, x3, x4, x5, x6 => if x6 < (x0.length : Int) then (jacquardref02_Reducible.l2 k x0 x3 x4 x5 x6 false 0) else (jacquardref02_Reducible.l0 k x0 x3 x4 (wrap64 (x5 + 1)))
def jacquardref02_Reducible.l2 : Nat → List (List Int) → List (List Bool) → List Bool → Int → Int → Bool → Int → Option (Bool)
  | 0, _, _, _, _, _, _, _ => none
  | k + 1, x0, x3, x4, x5, x6, x7, x8 => if x8 < (x0.length : Int) then ((jacquardref02_Edge.f k x0 x8 x6).bind fun t228 => (if x7 = true then (jacquardref02_Reducible.l2 k x0 x3 x4 x5 x6 true (wrap64 (x8 + 1))) else (if t228 = true then (if 0 ≤ x8 then (if x8 < (x4.length : Int) then (if rdOf false x4 x8 = true then (if 0 ≤ x6 then (if x6 < (x3.length : Int) then (if x8 < ((rd_L6 x3 x6).length : Int) then (jacquardref02_Reducible.l2 k x0 x3 x4 x5 x6 (!(rdOf false (rd_L6 x3 x6) x8)) (wrap64 (x8 + 1))) else (none)) else (none)) else (none)) else (jacquardref02_Reducible.l2 k x0 x3 x4 x5 x6 false (wrap64 (x8 + 1)))) else (none)) else (none)) else (jacquardref02_Reducible.l2 k x0 x3 x4 x5 x6 false (wrap64 (x8 + 1)))))) else (if x7 = true then (jacquardref02_Reducible.l1 k x0 x3 x4 x5 (wrap64 (x6 + 1))) else (if 0 ≤ x6 then (if x6 < (x4.length : Int) then (jacquardref02_Reducible.l1 k x0 x3 (x4.set (x6 : Int).toNat false) x5 (wrap64 (x6 + 1))) else (none)) else (none)))
def jacquardref02_Reducible.l3 : Nat → List (List Int) → List Bool → Int → Option (Bool)
  | 0, _, _, _ => none
  | k + 1, x0, x4, x10 => if x10 < (x0.length : Int) then (if 0 ≤ x10 then (if x10 < (x4.length : Int) then (if rdOf false x4 x10 = true then (some false) else (jacquardref02_Reducible.l3 k x0 x4 (wrap64 (x10 + 1)))) else (none)) else (none)) else (some true)
end
def jacquardref02_Reducible.f (k : Nat) (l0 : List (List Int)) : Option (Bool) := (jacquardref02_Table.f k l0).bind fun t222 => ((jacquardref02_Without.f k l0 (-1)).bind fun t225 => (jacquardref02_Reducible.l0 k l0 t222 t225 0))
theorem jacquardref02_Reducible.mono_l : ∀ k, (∀ y0 y1 y2 y3, LeO (jacquardref02_Reducible.l0 k y0 y1 y2 y3) (jacquardref02_Reducible.l0 (k + 1) y0 y1 y2 y3)) ∧ (∀ y0 y1 y2 y3 y4, LeO (jacquardref02_Reducible.l1 k y0 y1 y2 y3 y4) (jacquardref02_Reducible.l1 (k + 1) y0 y1 y2 y3 y4)) ∧ (∀ y0 y1 y2 y3 y4 y5 y6, LeO (jacquardref02_Reducible.l2 k y0 y1 y2 y3 y4 y5 y6) (jacquardref02_Reducible.l2 (k + 1) y0 y1 y2 y3 y4 y5 y6)) ∧ (∀ y0 y1 y2, LeO (jacquardref02_Reducible.l3 k y0 y1 y2) (jacquardref02_Reducible.l3 (k + 1) y0 y1 y2))
  | 0 => ⟨fun _ _ _ _ r h => by simp [jacquardref02_Reducible.l0] at h, fun _ _ _ _ _ r h => by simp [jacquardref02_Reducible.l1] at h, fun _ _ _ _ _ _ _ r h => by simp [jacquardref02_Reducible.l2] at h, fun _ _ _ r h => by simp [jacquardref02_Reducible.l3] at h⟩
  | k + 1 => by
    obtain ⟨ih0, ih1, ih2, ih3⟩ := jacquardref02_Reducible.mono_l k
    refine ⟨?_, ?_, ?_, ?_⟩
    · intro y0 y1 y2 y3
      unfold jacquardref02_Reducible.l0
      repeat' first | (with_reducible exact LeO.refl _) | (with_reducible refine LeO.ite ?_ ?_) | (with_reducible refine LeO.bind ?_ (fun _ => ?_)) | exact LeO.none _ | exact ih0 _ _ _ _ | exact ih1 _ _ _ _ _ | exact ih2 _ _ _ _ _ _ _ | exact ih3 _ _ _ | exact jacquardref02_Edge.mono _ _ _ _ | exact jacquardref02_Table.mono _ _ | exact jacquardref02_Without.mono _ _ _ | refine LeO.ite ?_ ?_ | refine LeO.bind ?_ (fun _ => ?_)
    · intro y0 y1 y2 y3 y4
      unfold jacquardref02_Reducible.l1
      repeat' first | (with_reducible exact LeO.refl _) | (with_reducible refine LeO.ite ?_ ?_) | (with_reducible refine LeO.bind ?_ (fun _ => ?_)) | exact LeO.none _ | exact ih0 _ _ _ _ | exact ih1 _ _ _ _ _ | exact ih2 _ _ _ _ _ _ _ | exact ih3 _ _ _ | exact jacquardref02_Edge.mono _ _ _ _ | exact jacquardref02_Table.mono _ _ | exact jacquardref02_Without.mono _ _ _ | refine LeO.ite ?_ ?_ | refine LeO.bind ?_ (fun _ => ?_)
    · intro y0 y1 y2 y3 y4 y5 y6
      unfold jacquardref02_Reducible.l2
      repeat' first | (with_reducible exact LeO.refl _) | (with_reducible refine LeO.ite ?_ ?_) | (with_reducible refine LeO.bind ?_ (fun _ => ?_)) | exact LeO.none _ | exact ih0 _ _ _ _ | exact ih1 _ _ _ _ _ | exact ih2 _ _ _ _ _ _ _ | exact ih3 _ _ _ | exact jacquardref02_Edge.mono _ _ _ _ | exact jacquardref02_Table.mono _ _ | exact jacquardref02_Without.mono _ _ _ | refine LeO.ite ?_ ?_ | refine LeO.bind ?_ (fun _ => ?_)
    · intro y0 y1 y2
      unfold jacquardref02_Reducible.l3
      repeat' first | (with_reducible exact LeO.refl _) | (with_reducible refine LeO.ite ?_ ?_) | (with_reducible refine LeO.bind ?_ (fun _ => ?_)) | exact LeO.none _ | exact ih0 _ _ _ _ | exact ih1 _ _ _ _ _ | exact ih2 _ _ _ _ _ _ _ | exact ih3 _ _ _ | exact jacquardref02_Edge.mono _ _ _ _ | exact jacquardref02_Table.mono _ _ | exact jacquardref02_Without.mono _ _ _ | refine LeO.ite ?_ ?_ | refine LeO.bind ?_ (fun _ => ?_)
theorem jacquardref02_Reducible.mono : ∀ a0 k, LeO (jacquardref02_Reducible.f k a0) (jacquardref02_Reducible.f (k + 1) a0) := by
  intro a0 k
  obtain ⟨ih0, ih1, ih2, ih3⟩ := jacquardref02_Reducible.mono_l k
  unfold jacquardref02_Reducible.f
  repeat' first | (with_reducible exact LeO.refl _) | (with_reducible refine LeO.ite ?_ ?_) | (with_reducible refine LeO.bind ?_ (fun _ => ?_)) | exact LeO.none _ | exact ih0 _ _ _ _ | exact ih1 _ _ _ _ _ | exact ih2 _ _ _ _ _ _ _ | exact ih3 _ _ _ | exact jacquardref02_Edge.mono _ _ _ _ | exact jacquardref02_Table.mono _ _ | exact jacquardref02_Without.mono _ _ _ | refine LeO.ite ?_ ?_ | refine LeO.bind ?_ (fun _ => ?_)
set_option maxHeartbeats 8000000 in
set_option maxRecDepth 100000 in
theorem jacquardref02_Reducible.calls (k : Nat) (A0 : Option Addr) (c0 : Nat) (l0 : List (List Int)) (r : Bool) (w : World) (hr0 : Kd.C (Kd.slice 3 (Kd.int .i64)) w A0 l0.length l0) (hc0 : l0.length ≤ c0) (h : jacquardref02_Reducible.f k l0 = some r) :
    Calls Try.prog 67 #[.slice A0 l0.length c0] w fun e w' => e = .returned (.bool r) ∧ Below w.heap.size w w' := by
  have HR0 := Aside0.mk hr0
  have HC0 := Aside0.mk hc0
  clear hr0 hc0
  have HB := Aside0.mk (Below.refl w.heap.size w)
  have H : ((jacquardref02_Table.f k l0).bind fun t222 => ((jacquardref02_Without.f k l0 (-1)).bind fun t225 => (jacquardref02_Reducible.l0 k l0 t222 t225 0))) = some r := h
  clear h
  replace H := Option.bind_eq_some_iff.mp H
  obtain ⟨t222, A20, H⟩ := H
  have A2 := Aside0.mk A20
  clear A20
  replace H := Option.bind_eq_some_iff.mp H
  obtain ⟨t225, A30, H⟩ := H
  have A3 := Aside0.mk A30
  clear A30
  have H' := Aside0.mk H
  clear H
  go_enter Try.func67, Try.ntmps67
  go_wp2_with (first | ((with_reducible refine gate_callee (f := 27) rfl ?_); refine goesL_ (some 12) rfl rfl Try.func27 (by kernel_rfl) rfl #[.slice A0 l0.length c0] rfl (by (try simp only [List.map_toArray, List.map_cons, List.map_nil]); first | done | rfl | (simp only [List.length_drop, List.length_take]; rfl)) ?_; (with_reducible refine (jacquardref02_Table.calls k _ _ l0 t222 _ ?side1 ?side2 A2.out).mono ?_); (case side1 => repeat (first | exact HR0.out | (with_reducible refine Kd.C_alloc ?_ _) | (with_reducible refine Kd.C_drewN ?_ _) | (with_reducible refine Kd.C_drew ?_))); (case side2 => exact HC0.out); rintro e w4 ⟨v223, rfl, ho0, hb⟩; refine ⟨_, rfl, ?_⟩; have n0_ := Aside0.mk (Kd.S_lower ho0 (below_size (by repeat (first | exact HB.out | apply below_alloc | apply pw_below_drewN | apply below_drew1)))); have n1_ := Aside0.mk (below_step (by repeat (first | exact HB.out | apply below_alloc | apply pw_below_drewN | apply below_drew1)) hb); clear HB; have HO224 := n0_; have HB := n1_; clear n0_ n1_; (try clear hb); (try clear hb2); (try clear hk); (try clear hi); (try clear ho0)) | ((with_reducible refine gate_callee (f := 28) rfl ?_); refine goesL_ (some 14) rfl rfl Try.func28 (by kernel_rfl) rfl #[.slice A0 l0.length c0, .int .i64 (-1)] rfl (by (try simp only [List.map_toArray, List.map_cons, List.map_nil]); first | done | rfl | (simp only [List.length_drop, List.length_take]; rfl)) ?_; (with_reducible refine (jacquardref02_Without.calls k _ _ l0 (-1) t225 _ ?side1 ?side2 A3.out).mono ?_); (case side1 => repeat (first | exact (Kd.C_below HR0.out HB.out) | (with_reducible refine Kd.C_alloc ?_ _) | (with_reducible refine Kd.C_drewN ?_ _) | (with_reducible refine Kd.C_drew ?_))); (case side2 => exact HC0.out); rintro e w5 ⟨v226, rfl, ho0, hb⟩; refine ⟨_, rfl, ?_⟩; have n0_ := Aside0.mk (Kd.S_elder' (by (with_reducible repeat (first | apply Kd.S_alloc | apply Kd.S_drewN | apply Kd.S_drew)); exact HO224.out) (Kd.R_base ho0) hb); have n1_ := Aside0.mk (Kd.R_lower ho0 (below_size (by repeat (first | exact HB.out | apply below_alloc | apply pw_below_drewN | apply below_drew1)))); have n2_ := Aside0.mk (below_step (by repeat (first | exact HB.out | apply below_alloc | apply pw_below_drewN | apply below_drew1)) hb); clear HO224; clear HB; have HO224 := n0_; have HO227 := n1_; have HB := n2_; clear n0_ n1_ n2_; (try clear hb); (try clear hb2); (try clear hk); (try clear hi); (try clear ho0)))
  go_loopg [5] k (fun kq v5 w' => ∃ (x4_1 : List Bool) (x5_1 : Int), v5 = .int .i64 x5_1 ∧ Aside0 (jacquardref02_Reducible.l0 kq l0 t222 x4_1 x5_1 = some r) ∧ Aside0 (kq ≤ k) ∧ Aside0 (Kd.S (Kd.slice 4 Kd.bool) 32 w' w.heap.size (fun k_ => some k_ ≠ (v226 : Value).ownBlock) v223 t222) ∧ Aside0 (Kd.R Kd.bool 4 w' w.heap.size (fun _ => True) v226 x4_1) ∧ Aside0 (Below w.heap.size w w'))
  case atStart => exact ⟨(t225), (0), (by first | rfl | (simp; done) | (simp [*]; done)), H', ⟨Nat.le_refl _⟩, ⟨by (with_reducible repeat (first | apply Kd.S_alloc | apply Kd.S_drewN | apply Kd.S_drew)); exact Kd.S_mono HO224.out (fun _ hk => hk.2)⟩, ⟨by (with_reducible repeat (first | apply Kd.R_alloc | apply Kd.R_drewN | apply Kd.R_drew)); exact HO227.out⟩, ⟨by repeat (first | exact HB.out | apply below_alloc | apply pw_below_drewN | apply below_drew1)⟩⟩
  case round =>
    clear H'; (try clear c2); (try clear p2)
    obtain ⟨x4_1, x5_1, rfl, HA, HK1, HO_3, HO_4, HB⟩ := hrel
    cases gk with
    | zero => exact absurd HA.out (by simp [jacquardref02_Reducible.l0])
    | succ k1 =>
      have H := HA.out
      clear HA
      simp only [jacquardref02_Reducible.l0] at H
      by_cases c6 : x5_1 < (l0.length : Int)
      · rw [if_pos c6] at H
        have c6b0 : decide (x5_1 < (l0.length : Int)) = true := decide_eq_true c6
        clear c6
        have H' := Aside0.mk H
        clear H
        go_wp2
        go_loopg [6] k1 (fun kq v6 w' => ∃ (x4_2 : List Bool) (x6_2 : Int), v6 = .int .i64 x6_2 ∧ Aside0 (jacquardref02_Reducible.l1 kq l0 t222 x4_2 x5_1 x6_2 = some r) ∧ Aside0 (kq ≤ k1) ∧ Aside0 (Kd.S (Kd.slice 4 Kd.bool) 32 w' w.heap.size (fun k_ => some k_ ≠ (v226 : Value).ownBlock) v223 t222) ∧ Aside0 (Kd.R Kd.bool 4 w' w.heap.size (fun _ => True) v226 x4_2) ∧ Aside0 (Below w.heap.size w w'))
        case atStart => exact ⟨(x4_1), (0), (by first | rfl | (simp; done) | (simp [*]; done)), H', ⟨Nat.le_refl _⟩, ⟨by (with_reducible repeat (first | apply Kd.S_alloc | apply Kd.S_drewN | apply Kd.S_drew)); exact HO_3.out⟩, ⟨by (with_reducible repeat (first | apply Kd.R_alloc | apply Kd.R_drewN | apply Kd.R_drew)); exact HO_4.out⟩, ⟨by repeat (first | exact HB.out | apply below_alloc | apply pw_below_drewN | apply below_drew1)⟩⟩
        case round =>
          clear H'; (try clear c2); (try clear p2); (try clear c6); (try clear c6b0); (try clear p2)
          obtain ⟨x4_2, x6_2, rfl, HA, HK2, HO_3, HO_4, HB⟩ := hrel
          cases gk with
          | zero => exact absurd HA.out (by simp [jacquardref02_Reducible.l1])
          | succ k2 =>
            have H := HA.out
            clear HA
            simp only [jacquardref02_Reducible.l1] at H
            by_cases c7 : x6_2 < (l0.length : Int)
            · rw [if_pos c7] at H
              have c7b0 : decide (x6_2 < (l0.length : Int)) = true := decide_eq_true c7
              clear c7
              have H' := Aside0.mk H
              clear H
              go_wp2
              go_loopg [7, 8] k2 (fun kq v7 v8 w' => ∃ (x7_3 : Bool) (x8_3 : Int), v7 = .bool x7_3 ∧ v8 = .int .i64 x8_3 ∧ Aside0 (jacquardref02_Reducible.l2 kq l0 t222 x4_2 x5_1 x6_2 x7_3 x8_3 = some r) ∧ Aside0 (kq ≤ k2) ∧ Aside0 (Kd.S (Kd.slice 4 Kd.bool) 32 w' w.heap.size (fun k_ => some k_ ≠ (v226 : Value).ownBlock) v223 t222) ∧ Aside0 (Kd.R Kd.bool 4 w' w.heap.size (fun _ => True) v226 x4_2) ∧ Aside0 (Below w.heap.size w w'))
              case atStart => exact ⟨(false), (0), (by first | rfl | (simp; done) | (simp [*]; done)), (by first | rfl | (simp; done) | (simp [*]; done)), H', ⟨Nat.le_refl _⟩, ⟨by (with_reducible repeat (first | apply Kd.S_alloc | apply Kd.S_drewN | apply Kd.S_drew)); exact HO_3.out⟩, ⟨by (with_reducible repeat (first | apply Kd.R_alloc | apply Kd.R_drewN | apply Kd.R_drew)); exact HO_4.out⟩, ⟨by repeat (first | exact HB.out | apply below_alloc | apply pw_below_drewN | apply below_drew1)⟩⟩
              case round =>
                clear H'; (try clear c2); (try clear p2); (try clear c6); (try clear c6b0); (try clear c7); (try clear c7b0); (try clear p2)
                obtain ⟨x7_3, x8_3, rfl, rfl, HA, HK3, HO_3, HO_4, HB⟩ := hrel
                cases gk with
                | zero => exact absurd HA.out (by simp [jacquardref02_Reducible.l2])
                | succ k3 =>
                  have H := HA.out
                  clear HA
                  simp only [jacquardref02_Reducible.l2] at H
                  by_cases c8 : x8_3 < (l0.length : Int)
                  · rw [if_pos c8] at H
                    have c8b0 : decide (x8_3 < (l0.length : Int)) = true := decide_eq_true c8
                    clear c8
                    replace H := Option.bind_eq_some_iff.mp H
                    obtain ⟨t228, A90, H⟩ := H
                    have A9 := Aside0.mk A90
                    clear A90
                    by_cases c10 : x7_3 = true
                    · subst c10
                      rw [if_pos rfl] at H
                      have H' := Aside0.mk H
                      clear H
                      go_wp2_with (first | ((with_reducible refine gate_callee (f := 29) rfl ?_); refine goesL_ (some 36) rfl rfl Try.func29 (by kernel_rfl) rfl #[.slice A0 l0.length c0, .int .i64 x8_3, .int .i64 x6_2] rfl (by (try simp only [List.map_toArray, List.map_cons, List.map_nil]); first | done | rfl | (simp only [List.length_drop, List.length_take]; rfl)) ?_; (with_reducible refine (jacquardref02_Edge.calls k3 _ _ l0 x8_3 x6_2 t228 _ ?side1 ?side2 A9.out).mono ?_); (case side1 => repeat (first | exact (Kd.C_below HR0.out HB.out) | (with_reducible refine Kd.C_alloc ?_ _) | (with_reducible refine Kd.C_drewN ?_ _) | (with_reducible refine Kd.C_drew ?_))); (case side2 => exact HC0.out); rintro e w' ⟨rfl, ⟨nd, rfl⟩⟩; refine ⟨_, rfl, ?_⟩))
                      go_roundg k3
                      case measure => have := HK1.out; have := HK2.out; have := HK3.out; omega
                      case rel => exact ⟨(true), (wrap64 (x8_3 + 1)), (by first | rfl | (simp; done) | (simp [*]; done)), (by first | rfl | (simp; done) | (simp [*]; done)), H', ⟨by have := HK1.out; have := HK2.out; have := HK3.out; omega⟩, ⟨by (with_reducible repeat (first | apply Kd.S_alloc | apply Kd.S_drewN | apply Kd.S_drew)); exact HO_3.out⟩, ⟨by (with_reducible repeat (first | apply Kd.R_alloc | apply Kd.R_drewN | apply Kd.R_drew)); exact HO_4.out⟩, ⟨by repeat (first | exact HB.out | apply below_alloc | apply pw_below_drewN | apply below_drew1)⟩⟩
                    · replace c10 := Bool.eq_false_iff.mpr c10
                      subst c10
                      rw [if_neg (show ¬ (false = true) by decide)] at H
                      by_cases c11 : t228 = true
                      · subst c11
                        rw [if_pos rfl] at H
                        by_cases c12 : 0 ≤ x8_3
                        · rw [if_pos c12] at H
                          have c12b0 : decide (0 ≤ x8_3) = true := decide_eq_true c12
                          clear c12
                          by_cases c13 : x8_3 < (x4_2.length : Int)
                          · rw [if_pos c13] at H
                            have c13b0 : decide (x8_3 < (x4_2.length : Int)) = true := decide_eq_true c13
                            clear c13
                            obtain ⟨bq14, hbq14⟩ : ∃ b_ : Bool, b_ = (rdOf false x4_2 x8_3) := ⟨_, rfl⟩
                            replace H : (if bq14 = true then (if 0 ≤ x6_2 then (if x6_2 < (t222.length : Int) then (if x8_3 < ((rd_L6 t222 x6_2).length : Int) then (jacquardref02_Reducible.l2 k3 l0 t222 x4_2 x5_1 x6_2 (!(rdOf false (rd_L6 t222 x6_2) x8_3)) (wrap64 (x8_3 + 1))) else (none)) else (none)) else (none)) else (jacquardref02_Reducible.l2 k3 l0 t222 x4_2 x5_1 x6_2 false (wrap64 (x8_3 + 1)))) = some r := by rw [← hbq14] at H; exact H
                            have Nbq14 := Aside0.mk hbq14
                            clear hbq14
                            by_cases c15 : bq14 = true
                            · subst c15
                              rw [if_pos rfl] at H
                              by_cases c16 : 0 ≤ x6_2
                              · rw [if_pos c16] at H
                                have c16b0 : decide (0 ≤ x6_2) = true := decide_eq_true c16
                                clear c16
                                by_cases c17 : x6_2 < (t222.length : Int)
                                · rw [if_pos c17] at H
                                  have c17b0 : decide (x6_2 < (t222.length : Int)) = true := decide_eq_true c17
                                  clear c17
                                  by_cases c18 : x8_3 < ((rd_L6 t222 x6_2).length : Int)
                                  · rw [if_pos c18] at H
                                    have c18b0 : decide (x8_3 < ((rd_L6 t222 x6_2).length : Int)) = true := decide_eq_true c18
                                    clear c18
                                    have H' := Aside0.mk H
                                    clear H
                                    go_wp2_with (first | ((with_reducible refine gate_callee (f := 29) rfl ?_); refine goesL_ (some 36) rfl rfl Try.func29 (by kernel_rfl) rfl #[.slice A0 l0.length c0, .int .i64 x8_3, .int .i64 x6_2] rfl (by (try simp only [List.map_toArray, List.map_cons, List.map_nil]); first | done | rfl | (simp only [List.length_drop, List.length_take]; rfl)) ?_; (with_reducible refine (jacquardref02_Edge.calls k3 _ _ l0 x8_3 x6_2 true _ ?side1 ?side2 A9.out).mono ?_); (case side1 => repeat (first | exact (Kd.C_below HR0.out HB.out) | (with_reducible refine Kd.C_alloc ?_ _) | (with_reducible refine Kd.C_drewN ?_ _) | (with_reducible refine Kd.C_drew ?_))); (case side2 => exact HC0.out); rintro e w' ⟨rfl, ⟨nd, rfl⟩⟩; refine ⟨_, rfl, ?_⟩; obtain ⟨Ao19, co19, eo19⟩ := Kd.R_slice HO_4.out; subst eo19; have p229 : 0 ≤ (x8_3 : Int) := of_decide_eq_true (by first | (with_reducible assumption) | assumption); have q229 : x8_3 < (x4_2.length : Int) := of_decide_eq_true (by first | (with_reducible assumption) | assumption); obtain ⟨ad229, e229, hx229_0⟩ := Kd.at_bool (Kd.R_reads' HO_4.out).2.2 x8_3 p229 q229; (try rw [← Nbq14.out] at hx229_0); cases e229; replace p229 := eq_true p229; replace q229 := eq_true q229; obtain ⟨Ao20, co20, eo20⟩ := Kd.S_slice HO_3.out; subst eo20; have p230 : 0 ≤ (x6_2 : Int) := of_decide_eq_true (by first | (with_reducible assumption) | assumption); have q230 : x6_2 < (t222.length : Int) := of_decide_eq_true (by first | (with_reducible assumption) | assumption); obtain ⟨ad230, A230_0, c230_0, e230, hx230_0, hl230_0, hi230_0⟩ := at_L6 (Kd.S_reads' HO_3.out).2.2 x6_2 p230 q230; cases e230; obtain ⟨ce230, hce230, hMe230, hcc230⟩ := Kd.S_get HO_3.out [] x6_2 p230 (by first | exact q230 | exact of_decide_eq_true (by first | (with_reducible assumption) | assumption) | (have e_ := (Kd.S_reads' HO_3.out).1; omega)); obtain ⟨ve230_0, rfl, ge230_0⟩ := hMe230; have hv230_0 := hcc230 0 _ rfl; rw [Nat.add_zero, show ((Kd.slice 4 Kd.bool)).sz = 1 from rfl, Nat.mul_one] at hv230_0; replace hv230_0 := Option.some.inj (hv230_0.symm.trans hx230_0); rw [hv230_0] at ge230_0; have HL230_0 := Aside0.mk (show Kd.R Kd.bool 4 _ _ _ _ (rd_L6 t222 x6_2) from ge230_0); clear hv230_0 ge230_0; clear hcc230 hce230; have HR230_0 := Aside0.mk hi230_0; have HC230_0 := Aside0.mk hl230_0; clear hi230_0 hl230_0; replace p230 := eq_true p230; replace q230 := eq_true q230; have p231 : 0 ≤ (x8_3 : Int) := of_decide_eq_true (by first | (with_reducible assumption) | assumption); have q231 : x8_3 < ((rd_L6 t222 x6_2).length : Int) := of_decide_eq_true (by first | (with_reducible assumption) | assumption); obtain ⟨ad231, e231, hx231_0⟩ := Kd.at_bool (by repeat (first | (with_reducible exact HR230_0.out) | (with_reducible refine Kd.C_alloc ?_ _) | (with_reducible refine Kd.C_drewN ?_ _) | (with_reducible refine Kd.C_drew ?_) | exact HR230_0.out)) x8_3 p231 q231; (try rw [← Nbq14.out] at hx231_0); cases e231; replace p231 := eq_true p231; replace q231 := eq_true q231))
                                    go_roundg k3
                                    case measure => have := HK1.out; have := HK2.out; have := HK3.out; omega
                                    case rel => exact ⟨(!(rdOf false (rd_L6 t222 x6_2) x8_3)), (wrap64 (x8_3 + 1)), (by first | rfl | (simp; done) | (simp [*]; done)), (by first | rfl | (simp; done) | (simp [*]; done)), H', ⟨by have := HK1.out; have := HK2.out; have := HK3.out; omega⟩, ⟨by (with_reducible repeat (first | apply Kd.S_alloc | apply Kd.S_drewN | apply Kd.S_drew)); exact HO_3.out⟩, ⟨by (with_reducible repeat (first | apply Kd.R_alloc | apply Kd.R_drewN | apply Kd.R_drew)); exact HO_4.out⟩, ⟨by repeat (first | exact HB.out | apply below_alloc | apply pw_below_drewN | apply below_drew1)⟩⟩
                                  · rw [if_neg c18] at H
                                    exact absurd H (by simp)
                                · rw [if_neg c17] at H
                                  exact absurd H (by simp)
                              · rw [if_neg c16] at H
                                exact absurd H (by simp)
                            · replace c15 := Bool.eq_false_iff.mpr c15
                              subst c15
                              rw [if_neg (show ¬ (false = true) by decide)] at H
                              have H' := Aside0.mk H
                              clear H
                              go_wp2_with (first | ((with_reducible refine gate_callee (f := 29) rfl ?_); refine goesL_ (some 36) rfl rfl Try.func29 (by kernel_rfl) rfl #[.slice A0 l0.length c0, .int .i64 x8_3, .int .i64 x6_2] rfl (by (try simp only [List.map_toArray, List.map_cons, List.map_nil]); first | done | rfl | (simp only [List.length_drop, List.length_take]; rfl)) ?_; (with_reducible refine (jacquardref02_Edge.calls k3 _ _ l0 x8_3 x6_2 true _ ?side1 ?side2 A9.out).mono ?_); (case side1 => repeat (first | exact (Kd.C_below HR0.out HB.out) | (with_reducible refine Kd.C_alloc ?_ _) | (with_reducible refine Kd.C_drewN ?_ _) | (with_reducible refine Kd.C_drew ?_))); (case side2 => exact HC0.out); rintro e w' ⟨rfl, ⟨nd, rfl⟩⟩; refine ⟨_, rfl, ?_⟩; obtain ⟨Ao21, co21, eo21⟩ := Kd.R_slice HO_4.out; subst eo21; have p229 : 0 ≤ (x8_3 : Int) := of_decide_eq_true (by first | (with_reducible assumption) | assumption); have q229 : x8_3 < (x4_2.length : Int) := of_decide_eq_true (by first | (with_reducible assumption) | assumption); obtain ⟨ad229, e229, hx229_0⟩ := Kd.at_bool (Kd.R_reads' HO_4.out).2.2 x8_3 p229 q229; (try rw [← Nbq14.out] at hx229_0); cases e229; replace p229 := eq_true p229; replace q229 := eq_true q229))
                              go_roundg k3
                              case measure => have := HK1.out; have := HK2.out; have := HK3.out; omega
                              case rel => exact ⟨(false), (wrap64 (x8_3 + 1)), (by first | rfl | (simp; done) | (simp [*]; done)), (by first | rfl | (simp; done) | (simp [*]; done)), H', ⟨by have := HK1.out; have := HK2.out; have := HK3.out; omega⟩, ⟨by (with_reducible repeat (first | apply Kd.S_alloc | apply Kd.S_drewN | apply Kd.S_drew)); exact HO_3.out⟩, ⟨by (with_reducible repeat (first | apply Kd.R_alloc | apply Kd.R_drewN | apply Kd.R_drew)); exact HO_4.out⟩, ⟨by repeat (first | exact HB.out | apply below_alloc | apply pw_below_drewN | apply below_drew1)⟩⟩
                          · rw [if_neg c13] at H
                            exact absurd H (by simp)
                        · rw [if_neg c12] at H
                          exact absurd H (by simp)
                      · replace c11 := Bool.eq_false_iff.mpr c11
                        subst c11
                        rw [if_neg (show ¬ (false = true) by decide)] at H
                        have H' := Aside0.mk H
                        clear H
                        go_wp2_with (first | ((with_reducible refine gate_callee (f := 29) rfl ?_); refine goesL_ (some 36) rfl rfl Try.func29 (by kernel_rfl) rfl #[.slice A0 l0.length c0, .int .i64 x8_3, .int .i64 x6_2] rfl (by (try simp only [List.map_toArray, List.map_cons, List.map_nil]); first | done | rfl | (simp only [List.length_drop, List.length_take]; rfl)) ?_; (with_reducible refine (jacquardref02_Edge.calls k3 _ _ l0 x8_3 x6_2 false _ ?side1 ?side2 A9.out).mono ?_); (case side1 => repeat (first | exact (Kd.C_below HR0.out HB.out) | (with_reducible refine Kd.C_alloc ?_ _) | (with_reducible refine Kd.C_drewN ?_ _) | (with_reducible refine Kd.C_drew ?_))); (case side2 => exact HC0.out); rintro e w' ⟨rfl, ⟨nd, rfl⟩⟩; refine ⟨_, rfl, ?_⟩))
                        go_roundg k3
                        case measure => have := HK1.out; have := HK2.out; have := HK3.out; omega
                        case rel => exact ⟨(false), (wrap64 (x8_3 + 1)), (by first | rfl | (simp; done) | (simp [*]; done)), (by first | rfl | (simp; done) | (simp [*]; done)), H', ⟨by have := HK1.out; have := HK2.out; have := HK3.out; omega⟩, ⟨by (with_reducible repeat (first | apply Kd.S_alloc | apply Kd.S_drewN | apply Kd.S_drew)); exact HO_3.out⟩, ⟨by (with_reducible repeat (first | apply Kd.R_alloc | apply Kd.R_drewN | apply Kd.R_drew)); exact HO_4.out⟩, ⟨by repeat (first | exact HB.out | apply below_alloc | apply pw_below_drewN | apply below_drew1)⟩⟩
                  · rw [if_neg c8] at H
                    have c8b0 : decide (x8_3 < (l0.length : Int)) = false := decide_eq_false c8
                    clear c8
                    by_cases c22 : x7_3 = true
                    · subst c22
                      rw [if_pos rfl] at H
                      have H' := Aside0.mk H
                      clear H
                      go_wp2
                      go_roundg k3
                      case measure => have := HK1.out; have := HK2.out; have := HK3.out; omega
                      case rel => exact ⟨(x4_2), (wrap64 (x6_2 + 1)), (by first | rfl | (simp; done) | (simp [*]; done)), H', ⟨by have := HK1.out; have := HK2.out; have := HK3.out; omega⟩, ⟨by (with_reducible repeat (first | apply Kd.S_alloc | apply Kd.S_drewN | apply Kd.S_drew)); exact HO_3.out⟩, ⟨by (with_reducible repeat (first | apply Kd.R_alloc | apply Kd.R_drewN | apply Kd.R_drew)); exact HO_4.out⟩, ⟨by repeat (first | exact HB.out | apply below_alloc | apply pw_below_drewN | apply below_drew1)⟩⟩
                    · replace c22 := Bool.eq_false_iff.mpr c22
                      subst c22
                      rw [if_neg (show ¬ (false = true) by decide)] at H
                      by_cases c23 : 0 ≤ x6_2
                      · rw [if_pos c23] at H
                        have c23b0 : decide (0 ≤ x6_2) = true := decide_eq_true c23
                        clear c23
                        by_cases c24 : x6_2 < (x4_2.length : Int)
                        · rw [if_pos c24] at H
                          have c24b0 : decide (x6_2 < (x4_2.length : Int)) = true := decide_eq_true c24
                          clear c24
                          obtain ⟨y232, hy232⟩ : ∃ y_ : List Bool, y_ = (x4_2.set (x6_2 : Int).toNat false) := ⟨_, rfl⟩
                          replace H : (jacquardref02_Reducible.l1 k3 l0 t222 y232 x5_1 (wrap64 (x6_2 + 1))) = some r := by first | (rw [hy232]; with_reducible exact H) | (have H2_ := (Option.bind_some _ _).symm.trans H; rw [hy232]; with_reducible exact H2_) | (have H2_ := (Option.bind_some _ _).symm.trans H; with_reducible exact H2_) | with_reducible exact H | (rw [hy232]; exact H) | exact H
                          have Ny232 := Aside0.mk hy232
                          clear hy232
                          have H' := Aside0.mk H
                          clear H
                          have p25 : 0 ≤ (x6_2 : Int) := of_decide_eq_true (by first | (with_reducible assumption) | assumption)
                          have q25 : (x6_2 : Int) < ((x4_2.length : Int) : Int) := of_decide_eq_true (by first | (with_reducible assumption) | assumption)
                          obtain ⟨go25, co25, eo25, gb25, gl25, cl25, HG25⟩ := Kd.R_form HO_4.out (by omega)
                          (first | cases eo25 | (injection eo25 with ea_ en_ ec_; (first | subst ea_ | (injection ea_ with ea_; subst ea_)); subst ec_; clear en_))
                          have GB25 := Aside0.mk gb25
                          have GG25 := Aside0.mk HG25
                          clear gb25 gl25 HG25
                          obtain ⟨hx25_0, hf25_0⟩ := Kd.R_celln false HO_4.out (x6_2 : Int) p25 q25
                          replace p25 := eq_true p25
                          replace q25 := eq_true q25
                          have HP26 := Kd.R_putg HO_4.out (x6_2 : Int) false
                          go_wp2_with (first | ((with_reducible refine gate_store (t := 4) (p := 61) rfl ?_); refine store_event (t := 4) (p := 61) (v := ?vo_w27) (w1 := (wr.setCell ⟨go25, (x6_2 : Int).toNat, none⟩ (.bool false))) ?hg ?ho ?hn ?hr ?_; (case ho => rfl); (case hg => rfl); (case hn => rfl); (case hr => first | (go_simp; done) | (go_simp; rfl)); intro w27 hw; have hg : wr.grownBy w27 (some go25) := (by rw [hw]; exact HP26.2); have hp_ : Kd.R Kd.bool 4 w27 w.heap.size (fun _ => True) (.slice (some ⟨go25, 0, none⟩) x4_2.length co25) y232 := (by rw [hw, Ny232.out]; exact HP26.1); clear HP26; have n0_ := Aside0.mk (Kd.S_after (v := (.slice (some ⟨go25, 0, none⟩) x4_2.length co25)) (v1 := (.slice (some ⟨go25, 0, none⟩) x4_2.length co25)) (ok := (fun _ => True)) (by (with_reducible repeat (first | apply Kd.S_alloc | apply Kd.S_drewN | apply Kd.S_drew)); exact Kd.S_mono HO_3.out (fun _ hk => ⟨trivial, hk⟩)) hg (.inl rfl)); have n1_ := Aside0.mk (hp_); have n2_ := Aside0.mk ((by rw [hw]; exact below_set (HB.out) GB25.out : Below w.heap.size w w27)); clear HO_3; clear HO_4; clear HB; have HO_3 := n0_; have HO_4 := n1_; have HB := n2_; clear n0_ n1_ n2_; clear hg hw hp_))
                          go_roundg k3
                          case measure => have := HK1.out; have := HK2.out; have := HK3.out; omega
                          case rel => exact ⟨(y232), (wrap64 (x6_2 + 1)), (by first | rfl | (simp; done) | (simp [*]; done)), H', ⟨by have := HK1.out; have := HK2.out; have := HK3.out; omega⟩, ⟨by (with_reducible repeat (first | apply Kd.S_alloc | apply Kd.S_drewN | apply Kd.S_drew)); exact Kd.S_mono HO_3.out (fun _ hk => hk.2)⟩, ⟨by (with_reducible repeat (first | apply Kd.R_alloc | apply Kd.R_drewN | apply Kd.R_drew)); exact HO_4.out⟩, ⟨by repeat (first | exact HB.out | apply below_alloc | apply pw_below_drewN | apply below_drew1)⟩⟩
                        · rw [if_neg c24] at H
                          exact absurd H (by simp)
                      · rw [if_neg c23] at H
                        exact absurd H (by simp)
            · rw [if_neg c7] at H
              have c7b0 : decide (x6_2 < (l0.length : Int)) = false := decide_eq_false c7
              clear c7
              have H' := Aside0.mk H
              clear H
              go_wp2
              go_roundg k2
              case measure => have := HK1.out; have := HK2.out; omega
              case rel => exact ⟨(x4_2), (wrap64 (x5_1 + 1)), (by first | rfl | (simp; done) | (simp [*]; done)), H', ⟨by have := HK1.out; have := HK2.out; omega⟩, ⟨by (with_reducible repeat (first | apply Kd.S_alloc | apply Kd.S_drewN | apply Kd.S_drew)); exact HO_3.out⟩, ⟨by (with_reducible repeat (first | apply Kd.R_alloc | apply Kd.R_drewN | apply Kd.R_drew)); exact HO_4.out⟩, ⟨by repeat (first | exact HB.out | apply below_alloc | apply pw_below_drewN | apply below_drew1)⟩⟩
      · rw [if_neg c6] at H
        have c6b0 : decide (x5_1 < (l0.length : Int)) = false := decide_eq_false c6
        clear c6
        have H' := Aside0.mk H
        clear H
        go_wp2
        go_loopg [10] k1 (fun kq v10 w' => ∃ (x10_2 : Int), v10 = .int .i64 x10_2 ∧ Aside0 (jacquardref02_Reducible.l3 kq l0 x4_1 x10_2 = some r) ∧ Aside0 (kq ≤ k1) ∧ Aside0 (Kd.R Kd.bool 4 w' w.heap.size (fun _ => True) v226 x4_1) ∧ Aside0 (Below w.heap.size w w'))
        case atStart => exact ⟨(0), (by first | rfl | (simp; done) | (simp [*]; done)), H', ⟨Nat.le_refl _⟩, ⟨by (with_reducible repeat (first | apply Kd.R_alloc | apply Kd.R_drewN | apply Kd.R_drew)); exact HO_4.out⟩, ⟨by repeat (first | exact HB.out | apply below_alloc | apply pw_below_drewN | apply below_drew1)⟩⟩
        case round =>
          clear H'; (try clear c1); (try clear q1); (try clear c2); (try clear p2); (try clear q2); (try clear hx2); (try clear hf2); (try clear c6); (try clear c6b0); (try clear p6); (try clear c7); (try clear c7b0); (try clear c8); (try clear c8b0); (try clear c10); (try clear c11); (try clear c12); (try clear c12b0); (try clear c13); (try clear c13b0); (try clear q14); (try clear c15); (try clear c16); (try clear c16b0); (try clear c17); (try clear c17b0); (try clear c18); (try clear c18b0); (try clear c22); (try clear p22); (try clear q22); (try clear hx22); (try clear c23); (try clear c23b0); (try clear p23); (try clear q23); (try clear hx23); (try clear c24); (try clear c24b0); (try clear p25); (try clear q25); (try clear hx25); (try clear hf25); (try clear c27); (try clear hx229_0); (try clear hx230_0); (try clear hx231_0); (try clear hx25_0); (try clear p2); (try clear p229); (try clear p230); (try clear p231); (try clear p25); (try clear q229); (try clear q230); (try clear q231); (try clear q25)
          obtain ⟨x10_2, rfl, HA, HK2, HO_4, HB⟩ := hrel
          cases gk with
          | zero => exact absurd HA.out (by simp [jacquardref02_Reducible.l3])
          | succ k2 =>
            have H := HA.out
            clear HA
            simp only [jacquardref02_Reducible.l3] at H
            by_cases c28 : x10_2 < (l0.length : Int)
            · rw [if_pos c28] at H
              have c28b0 : decide (x10_2 < (l0.length : Int)) = true := decide_eq_true c28
              clear c28
              by_cases c29 : 0 ≤ x10_2
              · rw [if_pos c29] at H
                have c29b0 : decide (0 ≤ x10_2) = true := decide_eq_true c29
                clear c29
                by_cases c30 : x10_2 < (x4_1.length : Int)
                · rw [if_pos c30] at H
                  have c30b0 : decide (x10_2 < (x4_1.length : Int)) = true := decide_eq_true c30
                  clear c30
                  obtain ⟨bq31, hbq31⟩ : ∃ b_ : Bool, b_ = (rdOf false x4_1 x10_2) := ⟨_, rfl⟩
                  replace H : (if bq31 = true then (some false) else (jacquardref02_Reducible.l3 k2 l0 x4_1 (wrap64 (x10_2 + 1)))) = some r := by rw [← hbq31] at H; exact H
                  have Nbq31 := Aside0.mk hbq31
                  clear hbq31
                  by_cases c32 : bq31 = true
                  · subst c32
                    rw [if_pos rfl] at H
                    obtain rfl := Option.some.inj H
                    obtain ⟨Ao33, co33, eo33⟩ := Kd.R_slice HO_4.out
                    subst eo33
                    have p233 : 0 ≤ (x10_2 : Int) := of_decide_eq_true (by first | (with_reducible assumption) | assumption)
                    have q233 : x10_2 < (x4_1.length : Int) := of_decide_eq_true (by first | (with_reducible assumption) | assumption)
                    obtain ⟨ad233, e233, hx233_0⟩ := Kd.at_bool (Kd.R_reads' HO_4.out).2.2 x10_2 p233 q233
                    (try rw [← Nbq31.out] at hx233_0)
                    cases e233
                    replace p233 := eq_true p233
                    replace q233 := eq_true q233
                    go_wp2
                    go_ret
                    exact ⟨by first | rfl | (simp [errW_none, errW_some] <;> rfl) | (simp [*, errW_none, errW_some] <;> rfl), by repeat (first | exact HB.out | apply below_alloc | apply pw_below_drewN | apply below_drew1)⟩
                  · replace c32 := Bool.eq_false_iff.mpr c32
                    subst c32
                    rw [if_neg (show ¬ (false = true) by decide)] at H
                    have H' := Aside0.mk H
                    clear H
                    obtain ⟨Ao34, co34, eo34⟩ := Kd.R_slice HO_4.out
                    subst eo34
                    have p233 : 0 ≤ (x10_2 : Int) := of_decide_eq_true (by first | (with_reducible assumption) | assumption)
                    have q233 : x10_2 < (x4_1.length : Int) := of_decide_eq_true (by first | (with_reducible assumption) | assumption)
                    obtain ⟨ad233, e233, hx233_0⟩ := Kd.at_bool (Kd.R_reads' HO_4.out).2.2 x10_2 p233 q233
                    (try rw [← Nbq31.out] at hx233_0)
                    cases e233
                    replace p233 := eq_true p233
                    replace q233 := eq_true q233
                    go_wp2
                    go_roundg k2
                    case measure => have := HK1.out; have := HK2.out; omega
                    case rel => exact ⟨(wrap64 (x10_2 + 1)), (by first | rfl | (simp; done) | (simp [*]; done)), H', ⟨by have := HK1.out; have := HK2.out; omega⟩, ⟨by (with_reducible repeat (first | apply Kd.R_alloc | apply Kd.R_drewN | apply Kd.R_drew)); exact HO_4.out⟩, ⟨by repeat (first | exact HB.out | apply below_alloc | apply pw_below_drewN | apply below_drew1)⟩⟩
                · rw [if_neg c30] at H
                  exact absurd H (by simp)
              · rw [if_neg c29] at H
                exact absurd H (by simp)
            · rw [if_neg c28] at H
              have c28b0 : decide (x10_2 < (l0.length : Int)) = false := decide_eq_false c28
              clear c28
              obtain rfl := Option.some.inj H
              go_wp2
              go_ret
              exact ⟨by first | rfl | (simp [errW_none, errW_some] <;> rfl) | (simp [*, errW_none, errW_some] <;> rfl), by repeat (first | exact HB.out | apply below_alloc | apply pw_below_drewN | apply below_drew1)⟩

mutual
def jacquardref02_Body.l0 : Nat → List (List Int) → Int → List (List Bool) → List Bool → List Bool → Bool → Int → Option (List Int)
  | 0, _, _, _, _, _, _, _ => none
  | k + 1, x0, x1, x5, x6, x7, x8, x9 => if x9 < (x0.length : Int) then ((jacquardref02_Edge.f k x0 x9 x1).bind fun t243 => (if t243 = true then (if 0 ≤ x1 then (if x1 < (x5.length : Int) then (if 0 ≤ x9 then (if x9 < ((rd_L6 x5 x1).length : Int) then (if rdOf false (rd_L6 x5 x1) x9 = true then (if x9 < (x7.length : Int) then (jacquardref02_Body.l0 k x0 x1 x5 x6 (x7.set (x9 : Int).toNat true) true (wrap64 (x9 + 1))) else (none)) else (jacquardref02_Body.l0 k x0 x1 x5 x6 x7 x8 (wrap64 (x9 + 1)))) else (none)) else (none)) else (none)) else (none)) else (jacquardref02_Body.l0 k x0 x1 x5 x6 x7 x8 (wrap64 (x9 + 1))))) else (if x8 = true then (if 0 ≤ x1 then (if x1 < (x7.length : Int) then (jacquardref02_Body.l1 k x0 x1 x6 (x7.set (x1 : Int).toNat true) 0) else (none)) else (none)) else (some ([] : List Int)))
def jacquardref02_Body.l1 : Nat → List (List Int) → Int → List Bool → List Bool → Int → Option (List Int)
  | 0, _, _, _, _, _ => none
  | k + 1, x0, x1, x6, x7, x11 => if x11 < (x0.length : Int) then (jacquardref02_Body.l2 k x0 x1 x6 x7 x11 0) else (jacquardref02_Body.l4 k x0 x7 ([] : List Int) 0)
def jacquardref02_Body.l2 : Nat → List (List Int) → Int → List Bool → List Bool → Int → Int → Option (List Int)
  | 0, _, _, _, _, _, _ => none
  | k + 1, x0, x1, x6, x7, x11, x12 => if x12 < (x0.length : Int) then ((jacquardref02_next.f k x0 x12).bind fun t248 => (jacquardref02_Body.l3 k x0 x1 x6 x7 x11 x12 t248 0)) else (jacquardref02_Body.l1 k x0 x1 x6 x7 (wrap64 (x11 + 1)))
def jacquardref02_Body.l3 : Nat → List (List Int) → Int → List Bool → List Bool → Int → Int → List Int → Int → Option (List Int)
  | 0, _, _, _, _, _, _, _, _ => none
  | k + 1, x0, x1, x6, x7, x11, x12, x13, x14 => if x14 < (x13.length : Int) then (if 0 ≤ x12 then (if x12 < (x6.length : Int) then (if rdOf false x6 x12 = true then (if 0 ≤ x14 then (if (rd x13 x14) = x1 then (jacquardref02_Body.l3 k x0 x1 x6 x7 x11 x12 x13 (wrap64 (x14 + 1))) else (if 0 ≤ (rd x13 x14) then (if (rd x13 x14) < (x7.length : Int) then (if rdOf false x7 (rd x13 x14) = true then (if x12 < (x7.length : Int) then (jacquardref02_Body.l3 k x0 x1 x6 (x7.set (x12 : Int).toNat true) x11 x12 x13 (wrap64 (x14 + 1))) else (none)) else (jacquardref02_Body.l3 k x0 x1 x6 x7 x11 x12 x13 (wrap64 (x14 + 1)))) else (none)) else (none))) else (none)) else (jacquardref02_Body.l3 k x0 x1 x6 x7 x11 x12 x13 (wrap64 (x14 + 1)))) else (none)) else (none)) else (jacquardref02_Body.l2 k x0 x1 x6 x7 x11 (wrap64 (x12 + 1)))
def jacquardref02_Body.l4 : Nat → List (List Int) → List Bool → List Int → Int → Option (List Int)
  | 0, _, _, _, _ => none
  | k + 1, x0, x7, x15, x16 => if x16 < (x0.length : Int) then (if 0 ≤ x16 then (if x16 < (x7.length : Int) then (if rdOf false x7 x16 = true then (if x15.length < 17592186044416 then (jacquardref02_Body.l4 k x0 x7 (x15 ++ [x16]) (wrap64 (x16 + 1))) else (none)) else (jacquardref02_Body.l4 k x0 x7 x15 (wrap64 (x16 + 1)))) else (none)) else (none)) else (some x15)
end
def jacquardref02_Body.f (k : Nat) (l0 : List (List Int)) (a1 : Int) : Option (List Int) := (jacquardref02_Table.f k l0).bind fun t234 => ((jacquardref02_Without.f k l0 (-1)).bind fun t237 => (if 0 ≤ (l0.length : Int) then (if ((l0.length : Int) : Int).toNat ≤ 281474976710656 then (jacquardref02_Body.l0 k l0 a1 t234 t237 (List.replicate ((l0.length : Int) : Int).toNat false) false 0) else (none)) else (none)))
theorem jacquardref02_Body.mono_l : ∀ k, (∀ y0 y1 y2 y3 y4 y5 y6, LeO (jacquardref02_Body.l0 k y0 y1 y2 y3 y4 y5 y6) (jacquardref02_Body.l0 (k + 1) y0 y1 y2 y3 y4 y5 y6)) ∧ (∀ y0 y1 y2 y3 y4, LeO (jacquardref02_Body.l1 k y0 y1 y2 y3 y4) (jacquardref02_Body.l1 (k + 1) y0 y1 y2 y3 y4)) ∧ (∀ y0 y1 y2 y3 y4 y5, LeO (jacquardref02_Body.l2 k y0 y1 y2 y3 y4 y5) (jacquardref02_Body.l2 (k + 1) y0 y1 y2 y3 y4 y5)) ∧ (∀ y0 y1 y2 y3 y4 y5 y6 y7, LeO (jacquardref02_Body.l3 k y0 y1 y2 y3 y4 y5 y6 y7) (jacquardref02_Body.l3 (k + 1) y0 y1 y2 y3 y4 y5 y6 y7)) ∧ (∀ y0 y1 y2 y3, LeO (jacquardref02_Body.l4 k y0 y1 y2 y3) (jacquardref02_Body.l4 (k + 1) y0 y1 y2 y3))
  | 0 => ⟨fun _ _ _ _ _ _ _ r h => by simp [jacquardref02_Body.l0] at h, fun _ _ _ _ _ r h => by simp [jacquardref02_Body.l1] at h, fun _ _ _ _ _ _ r h => by simp [jacquardref02_Body.l2] at h, fun _ _ _ _ _ _ _ _ r h => by simp [jacquardref02_Body.l3] at h, fun _ _ _ _ r h => by simp [jacquardref02_Body.l4] at h⟩
  | k + 1 => by
    obtain ⟨ih0, ih1, ih2, ih3, ih4⟩ := jacquardref02_Body.mono_l k
    refine ⟨?_, ?_, ?_, ?_, ?_⟩
    · intro y0 y1 y2 y3 y4 y5 y6
      unfold jacquardref02_Body.l0
      repeat' first | (with_reducible exact LeO.refl _) | (with_reducible refine LeO.ite ?_ ?_) | (with_reducible refine LeO.bind ?_ (fun _ => ?_)) | exact LeO.none _ | exact ih0 _ _ _ _ _ _ _ | exact ih1 _ _ _ _ _ | exact ih2 _ _ _ _ _ _ | exact ih3 _ _ _ _ _ _ _ _ | exact ih4 _ _ _ _ | exact jacquardref02_Edge.mono _ _ _ _ | exact jacquardref02_Table.mono _ _ | exact jacquardref02_Without.mono _ _ _ | exact jacquardref02_next.mono _ _ _ | refine LeO.ite ?_ ?_ | refine LeO.bind ?_ (fun _ => ?_)
    · intro y0 y1 y2 y3 y4
      unfold jacquardref02_Body.l1
      repeat' first | (with_reducible exact LeO.refl _) | (with_reducible refine LeO.ite ?_ ?_) | (with_reducible refine LeO.bind ?_ (fun _ => ?_)) | exact LeO.none _ | exact ih0 _ _ _ _ _ _ _ | exact ih1 _ _ _ _ _ | exact ih2 _ _ _ _ _ _ | exact ih3 _ _ _ _ _ _ _ _ | exact ih4 _ _ _ _ | exact jacquardref02_Edge.mono _ _ _ _ | exact jacquardref02_Table.mono _ _ | exact jacquardref02_Without.mono _ _ _ | exact jacquardref02_next.mono _ _ _ | refine LeO.ite ?_ ?_ | refine LeO.bind ?_ (fun _ => ?_)
    · intro y0 y1 y2 y3 y4 y5
      unfold jacquardref02_Body.l2
      repeat' first | (with_reducible exact LeO.refl _) | (with_reducible refine LeO.ite ?_ ?_) | (with_reducible refine LeO.bind ?_ (fun _ => ?_)) | exact LeO.none _ | exact ih0 _ _ _ _ _ _ _ | exact ih1 _ _ _ _ _ | exact ih2 _ _ _ _ _ _ | exact ih3 _ _ _ _ _ _ _ _ | exact ih4 _ _ _ _ | exact jacquardref02_Edge.mono _ _ _ _ | exact jacquardref02_Table.mono _ _ | exact jacquardref02_Without.mono _ _ _ | exact jacquardref02_next.mono _ _ _ | refine LeO.ite ?_ ?_ | refine LeO.bind ?_ (fun _ => ?_)
    · intro y0 y1 y2 y3 y4 y5 y6 y7
      unfold jacquardref02_Body.l3
      repeat' first | (with_reducible exact LeO.refl _) | (with_reducible refine LeO.ite ?_ ?_) | (with_reducible refine LeO.bind ?_ (fun _ => ?_)) | exact LeO.none _ | exact ih0 _ _ _ _ _ _ _ | exact ih1 _ _ _ _ _ | exact ih2 _ _ _ _ _ _ | exact ih3 _ _ _ _ _ _ _ _ | exact ih4 _ _ _ _ | exact jacquardref02_Edge.mono _ _ _ _ | exact jacquardref02_Table.mono _ _ | exact jacquardref02_Without.mono _ _ _ | exact jacquardref02_next.mono _ _ _ | refine LeO.ite ?_ ?_ | refine LeO.bind ?_ (fun _ => ?_)
    · intro y0 y1 y2 y3
      unfold jacquardref02_Body.l4
      repeat' first | (with_reducible exact LeO.refl _) | (with_reducible refine LeO.ite ?_ ?_) | (with_reducible refine LeO.bind ?_ (fun _ => ?_)) | exact LeO.none _ | exact ih0 _ _ _ _ _ _ _ | exact ih1 _ _ _ _ _ | exact ih2 _ _ _ _ _ _ | exact ih3 _ _ _ _ _ _ _ _ | exact ih4 _ _ _ _ | exact jacquardref02_Edge.mono _ _ _ _ | exact jacquardref02_Table.mono _ _ | exact jacquardref02_Without.mono _ _ _ | exact jacquardref02_next.mono _ _ _ | refine LeO.ite ?_ ?_ | refine LeO.bind ?_ (fun _ => ?_)
theorem jacquardref02_Body.mono : ∀ a0 a1 k, LeO (jacquardref02_Body.f k a0 a1) (jacquardref02_Body.f (k + 1) a0 a1) := by
  intro a0 a1 k
  obtain ⟨ih0, ih1, ih2, ih3, ih4⟩ := jacquardref02_Body.mono_l k
  unfold jacquardref02_Body.f
  repeat' first | (with_reducible exact LeO.refl _) | (with_reducible refine LeO.ite ?_ ?_) | (with_reducible refine LeO.bind ?_ (fun _ => ?_)) | exact LeO.none _ | exact ih0 _ _ _ _ _ _ _ | exact ih1 _ _ _ _ _ | exact ih2 _ _ _ _ _ _ | exact ih3 _ _ _ _ _ _ _ _ | exact ih4 _ _ _ _ | exact jacquardref02_Edge.mono _ _ _ _ | exact jacquardref02_Table.mono _ _ | exact jacquardref02_Without.mono _ _ _ | exact jacquardref02_next.mono _ _ _ | refine LeO.ite ?_ ?_ | refine LeO.bind ?_ (fun _ => ?_)
set_option maxHeartbeats 8000000 in
set_option maxRecDepth 100000 in
theorem jacquardref02_Body.calls (k : Nat) (A0 : Option Addr) (c0 : Nat) (l0 : List (List Int)) (a1 : Int) (r : List Int) (w : World) (hr0 : Kd.C (Kd.slice 3 (Kd.int .i64)) w A0 l0.length l0) (hc0 : l0.length ≤ c0) (h : jacquardref02_Body.f k l0 a1 = some r) :
    Calls Try.prog 68 #[.slice A0 l0.length c0, .int .i64 a1] w fun e w' => ∃ v0_ : Value, e = .returned (v0_) ∧ Kd.R (Kd.int .i64) 3 w' w.heap.size (fun _ => True) v0_ r ∧ Below w.heap.size w w' := by
  have HR0 := Aside0.mk hr0
  have HC0 := Aside0.mk hc0
  clear hr0 hc0
  have HB := Aside0.mk (Below.refl w.heap.size w)
  have H : ((jacquardref02_Table.f k l0).bind fun t234 => ((jacquardref02_Without.f k l0 (-1)).bind fun t237 => (if 0 ≤ (l0.length : Int) then (if ((l0.length : Int) : Int).toNat ≤ 281474976710656 then (jacquardref02_Body.l0 k l0 a1 t234 t237 (List.replicate ((l0.length : Int) : Int).toNat false) false 0) else (none)) else (none)))) = some r := h
  clear h
  replace H := Option.bind_eq_some_iff.mp H
  obtain ⟨t234, A30, H⟩ := H
  have A3 := Aside0.mk A30
  clear A30
  replace H := Option.bind_eq_some_iff.mp H
  obtain ⟨t237, A40, H⟩ := H
  have A4 := Aside0.mk A40
  clear A40
  by_cases c5 : 0 ≤ (l0.length : Int)
  · rw [if_pos c5] at H
    have c5b0 := eq_true c5
    have c5b1 : decide (0 ≤ (l0.length : Int)) = true := decide_eq_true c5
    clear c5
    by_cases c6 : ((l0.length : Int) : Int).toNat ≤ 281474976710656
    · rw [if_pos c6] at H
      have c6b0 := eq_true c6
      have c6b1 : decide (((l0.length : Int) : Int).toNat ≤ 281474976710656) = true := decide_eq_true c6
      clear c6
      obtain ⟨y240, hy240⟩ : ∃ y_ : List Bool, y_ = (List.replicate ((l0.length : Int) : Int).toNat false) := ⟨_, rfl⟩
      replace H : (jacquardref02_Body.l0 k l0 a1 t234 t237 y240 false 0) = some r := by first | (rw [hy240]; with_reducible exact H) | (have H2_ := (Option.bind_some _ _).symm.trans H; rw [hy240]; with_reducible exact H2_) | (have H2_ := (Option.bind_some _ _).symm.trans H; with_reducible exact H2_) | with_reducible exact H | (rw [hy240]; exact H) | exact H
      have Ny240 := Aside0.mk hy240
      clear hy240
      have H' := Aside0.mk H
      clear H
      go_enter Try.func68, Try.ntmps68
      go_wp2_with (first | ((with_reducible refine gate_callee (f := 27) rfl ?_); refine goesL_ (some 18) rfl rfl Try.func27 (by kernel_rfl) rfl #[.slice A0 l0.length c0] rfl (by (try simp only [List.map_toArray, List.map_cons, List.map_nil]); first | done | rfl | (simp only [List.length_drop, List.length_take]; rfl)) ?_; (with_reducible refine (jacquardref02_Table.calls k _ _ l0 t234 _ ?side1 ?side2 A3.out).mono ?_); (case side1 => repeat (first | exact HR0.out | (with_reducible refine Kd.C_alloc ?_ _) | (with_reducible refine Kd.C_drewN ?_ _) | (with_reducible refine Kd.C_drew ?_))); (case side2 => exact HC0.out); rintro e w7 ⟨v235, rfl, ho0, hb⟩; refine ⟨_, rfl, ?_⟩; have n0_ := Aside0.mk (Kd.S_lower ho0 (below_size (by repeat (first | exact HB.out | apply below_alloc | apply pw_below_drewN | apply below_drew1)))); have n1_ := Aside0.mk (below_step (by repeat (first | exact HB.out | apply below_alloc | apply pw_below_drewN | apply below_drew1)) hb); clear HB; have HO236 := n0_; have HB := n1_; clear n0_ n1_; (try clear hb); (try clear hb2); (try clear hk); (try clear hi); (try clear ho0)) | ((with_reducible refine gate_callee (f := 28) rfl ?_); refine goesL_ (some 20) rfl rfl Try.func28 (by kernel_rfl) rfl #[.slice A0 l0.length c0, .int .i64 (-1)] rfl (by (try simp only [List.map_toArray, List.map_cons, List.map_nil]); first | done | rfl | (simp only [List.length_drop, List.length_take]; rfl)) ?_; (with_reducible refine (jacquardref02_Without.calls k _ _ l0 (-1) t237 _ ?side1 ?side2 A4.out).mono ?_); (case side1 => repeat (first | exact (Kd.C_below HR0.out HB.out) | (with_reducible refine Kd.C_alloc ?_ _) | (with_reducible refine Kd.C_drewN ?_ _) | (with_reducible refine Kd.C_drew ?_))); (case side2 => exact HC0.out); rintro e w8 ⟨v238, rfl, ho0, hb⟩; refine ⟨_, rfl, ?_⟩; have n0_ := Aside0.mk (Kd.S_elder' (by (with_reducible repeat (first | apply Kd.S_alloc | apply Kd.S_drewN | apply Kd.S_drew)); exact HO236.out) (Kd.R_base ho0) hb); have n1_ := Aside0.mk (Kd.R_lower ho0 (below_size (by repeat (first | exact HB.out | apply below_alloc | apply pw_below_drewN | apply below_drew1)))); have n2_ := Aside0.mk (below_step (by repeat (first | exact HB.out | apply below_alloc | apply pw_below_drewN | apply below_drew1)) hb); clear HO236; clear HB; have HO236 := n0_; have HO239 := n1_; have HB := n2_; clear n0_ n1_ n2_; (try clear hb); (try clear hb2); (try clear hk); (try clear hi); (try clear ho0)) | ((with_reducible refine gate_dst (N := 23) rfl ?_); refine Kd.R_make Kd.bool _ 4 rfl (N := 23) rfl 32 _ _ rfl (l0.length : Int) rfl rfl Try.underlying32 (.bool false) 1 info4 rfl (by decide) (by omega) false (ok := fun _ => True) (okp := fun _ => True) rfl (fun _ hk => hk) trivial (of_decide_eq_true (by first | (with_reducible assumption) | assumption)) (Nat.le_trans (Nat.mul_le_mul_right _ (of_decide_eq_true (by first | (with_reducible assumption) | assumption) : (l0.length : Int).toNat ≤ 281474976710656)) (by omega)) (Below.refl _ _) (Nat.le_refl _) ?_; intro v241 w9 ho10 hb hg_ hnew_; clear hg_ hnew_; (first | rw [← Ny240.out] at ho10 | (simp only [Int.reduceToNat] at ho10; rw [← Ny240.out] at ho10)); have n0_ := Aside0.mk (Kd.S_elder' (by (with_reducible repeat (first | apply Kd.S_alloc | apply Kd.S_drewN | apply Kd.S_drew)); exact HO236.out) (Kd.R_base ho10) hb); have n1_ := Aside0.mk (Kd.R_elder' (by (with_reducible repeat (first | apply Kd.R_alloc | apply Kd.R_drewN | apply Kd.R_drew)); exact HO239.out) (Kd.R_base ho10) hb); have n2_ := Aside0.mk (Kd.R_lower (Kd.R_new' ho10 (Kd.R_lt (by (with_reducible repeat (first | apply Kd.R_alloc | apply Kd.R_drewN | apply Kd.R_drew)); exact HO239.out))) (below_size (by repeat (first | exact HB.out | apply below_alloc | apply pw_below_drewN | apply below_drew1)))); have n3_ := Aside0.mk (below_step (by repeat (first | exact HB.out | apply below_alloc | apply pw_below_drewN | apply below_drew1)) hb); clear HO236; clear HO239; clear HB; have HO236 := n0_; have HO239 := n1_; have HO242 := n2_; have HB := n3_; clear n0_ n1_ n2_ n3_; clear hb ho10))
      go_loopg [8, 9] k (fun kq v8 v9 w' => ∃ (x7_1 : List Bool) (x8_1 : Bool) (x9_1 : Int), v8 = .bool x8_1 ∧ v9 = .int .i64 x9_1 ∧ Aside0 (jacquardref02_Body.l0 kq l0 a1 t234 t237 x7_1 x8_1 x9_1 = some r) ∧ Aside0 (kq ≤ k) ∧ Aside0 (Kd.S (Kd.slice 4 Kd.bool) 32 w' w.heap.size (fun k_ => some k_ ≠ (v238 : Value).ownBlock ∧ some k_ ≠ (v241 : Value).ownBlock) v235 t234) ∧ Aside0 (Kd.R Kd.bool 4 w' w.heap.size (fun k_ => some k_ ≠ (v241 : Value).ownBlock) v238 t237) ∧ Aside0 (Kd.R Kd.bool 4 w' w.heap.size (fun k_ => some k_ ≠ (v238 : Value).ownBlock) v241 x7_1) ∧ Aside0 (Below w.heap.size w w'))
      case atStart => exact ⟨(y240), (false), (0), (by first | rfl | (simp; done) | (simp [*]; done)), (by first | rfl | (simp; done) | (simp [*]; done)), H', ⟨Nat.le_refl _⟩, ⟨by (with_reducible repeat (first | apply Kd.S_alloc | apply Kd.S_drewN | apply Kd.S_drew)); exact Kd.S_mono HO236.out (fun _ hk => ⟨hk.1.2, hk.2⟩)⟩, ⟨by (with_reducible repeat (first | apply Kd.R_alloc | apply Kd.R_drewN | apply Kd.R_drew)); exact Kd.R_mono HO239.out (fun _ hk => hk.2)⟩, ⟨by (with_reducible repeat (first | apply Kd.R_alloc | apply Kd.R_drewN | apply Kd.R_drew)); exact Kd.R_mono HO242.out (fun _ hk => hk.2)⟩, ⟨by repeat (first | exact HB.out | apply below_alloc | apply pw_below_drewN | apply below_drew1)⟩⟩
      case round =>
        clear H'; (try clear c2); (try clear p2); (try clear c5); (try clear c5b0); (try clear c5b1); (try clear c6); (try clear c6b0); (try clear c6b1)
        obtain ⟨x7_1, x8_1, x9_1, rfl, rfl, HA, HK1, HO_5, HO_6, HO_7, HB⟩ := hrel
        cases gk with
        | zero => exact absurd HA.out (by simp [jacquardref02_Body.l0])
        | succ k1 =>
          have H := HA.out
          clear HA
          simp only [jacquardref02_Body.l0] at H
          by_cases c11 : x9_1 < (l0.length : Int)
          · rw [if_pos c11] at H
            have c11b0 : decide (x9_1 < (l0.length : Int)) = true := decide_eq_true c11
            clear c11
            replace H := Option.bind_eq_some_iff.mp H
            obtain ⟨t243, A120, H⟩ := H
            have A12 := Aside0.mk A120
            clear A120
            by_cases c13 : t243 = true
            · subst c13
              rw [if_pos rfl] at H
              by_cases c14 : 0 ≤ a1
              · rw [if_pos c14] at H
                have c14b0 : decide (0 ≤ a1) = true := decide_eq_true c14
                clear c14
                by_cases c15 : a1 < (t234.length : Int)
                · rw [if_pos c15] at H
                  have c15b0 : decide (a1 < (t234.length : Int)) = true := decide_eq_true c15
                  clear c15
                  by_cases c16 : 0 ≤ x9_1
                  · rw [if_pos c16] at H
                    have c16b0 : decide (0 ≤ x9_1) = true := decide_eq_true c16
                    clear c16
                    by_cases c17 : x9_1 < ((rd_L6 t234 a1).length : Int)
                    · rw [if_pos c17] at H
                      have c17b0 : decide (x9_1 < ((rd_L6 t234 a1).length : Int)) = true := decide_eq_true c17
                      clear c17
                      obtain ⟨bq18, hbq18⟩ : ∃ b_ : Bool, b_ = (rdOf false (rd_L6 t234 a1) x9_1) := ⟨_, rfl⟩
                      replace H : (if bq18 = true then (if x9_1 < (x7_1.length : Int) then (jacquardref02_Body.l0 k1 l0 a1 t234 t237 (x7_1.set (x9_1 : Int).toNat true) true (wrap64 (x9_1 + 1))) else (none)) else (jacquardref02_Body.l0 k1 l0 a1 t234 t237 x7_1 x8_1 (wrap64 (x9_1 + 1)))) = some r := by rw [← hbq18] at H; exact H
                      have Nbq18 := Aside0.mk hbq18
                      clear hbq18
                      by_cases c19 : bq18 = true
                      · subst c19
                        rw [if_pos rfl] at H
                        by_cases c20 : x9_1 < (x7_1.length : Int)
                        · rw [if_pos c20] at H
                          have c20b0 : decide (x9_1 < (x7_1.length : Int)) = true := decide_eq_true c20
                          clear c20
                          obtain ⟨y246, hy246⟩ : ∃ y_ : List Bool, y_ = (x7_1.set (x9_1 : Int).toNat true) := ⟨_, rfl⟩
                          replace H : (jacquardref02_Body.l0 k1 l0 a1 t234 t237 y246 true (wrap64 (x9_1 + 1))) = some r := by first | (rw [hy246]; with_reducible exact H) | (have H2_ := (Option.bind_some _ _).symm.trans H; rw [hy246]; with_reducible exact H2_) | (have H2_ := (Option.bind_some _ _).symm.trans H; with_reducible exact H2_) | with_reducible exact H | (rw [hy246]; exact H) | exact H
                          have Ny246 := Aside0.mk hy246
                          clear hy246
                          have H' := Aside0.mk H
                          clear H
                          go_wp2_with (first | ((with_reducible refine gate_callee (f := 29) rfl ?_); refine goesL_ (some 33) rfl rfl Try.func29 (by kernel_rfl) rfl #[.slice A0 l0.length c0, .int .i64 x9_1, .int .i64 a1] rfl (by (try simp only [List.map_toArray, List.map_cons, List.map_nil]); first | done | rfl | (simp only [List.length_drop, List.length_take]; rfl)) ?_; (with_reducible refine (jacquardref02_Edge.calls k1 _ _ l0 x9_1 a1 true _ ?side1 ?side2 A12.out).mono ?_); (case side1 => repeat (first | exact (Kd.C_below HR0.out HB.out) | (with_reducible refine Kd.C_alloc ?_ _) | (with_reducible refine Kd.C_drewN ?_ _) | (with_reducible refine Kd.C_drew ?_))); (case side2 => exact HC0.out); rintro e w' ⟨rfl, ⟨nd, rfl⟩⟩; refine ⟨_, rfl, ?_⟩; (try (rw [drewN_self wr]; generalize hq_ : World.drewN wr _ = wr; have n0_ : Aside0 (Kd.S (Kd.slice 4 Kd.bool) 32 wr w.heap.size (fun k_ => some k_ ≠ (v238 : Value).ownBlock ∧ some k_ ≠ (v241 : Value).ownBlock) v235 t234) := ⟨by rw [← hq_]; exact (by (with_reducible repeat (first | apply Kd.S_alloc | apply Kd.S_drewN | apply Kd.S_drew)); exact HO_5.out)⟩; have n1_ : Aside0 (Kd.R Kd.bool 4 wr w.heap.size (fun k_ => some k_ ≠ (v241 : Value).ownBlock) v238 t237) := ⟨by rw [← hq_]; exact (by (with_reducible repeat (first | apply Kd.R_alloc | apply Kd.R_drewN | apply Kd.R_drew)); exact HO_6.out)⟩; have n2_ : Aside0 (Kd.R Kd.bool 4 wr w.heap.size (fun k_ => some k_ ≠ (v238 : Value).ownBlock) v241 x7_1) := ⟨by rw [← hq_]; exact (by (with_reducible repeat (first | apply Kd.R_alloc | apply Kd.R_drewN | apply Kd.R_drew)); exact HO_7.out)⟩; have n3_ : Aside0 (Below w.heap.size w wr) := ⟨by rw [← hq_]; exact (by repeat (first | exact HB.out | apply below_alloc | apply pw_below_drewN | apply below_drew1))⟩; clear HO_5 HO_6 HO_7 HB hq_; have HO_5 := n0_; have HO_6 := n1_; have HO_7 := n2_; have HB := n3_; clear n0_ n1_ n2_ n3_)); obtain ⟨Ao22, co22, eo22⟩ := Kd.S_slice HO_5.out; subst eo22; have p244 : 0 ≤ (a1 : Int) := of_decide_eq_true (by first | (with_reducible assumption) | assumption); have q244 : a1 < (t234.length : Int) := of_decide_eq_true (by first | (with_reducible assumption) | assumption); obtain ⟨ad244, A244_0, c244_0, e244, hx244_0, hl244_0, hi244_0⟩ := at_L6 (Kd.S_reads' HO_5.out).2.2 a1 p244 q244; cases e244; obtain ⟨ce244, hce244, hMe244, hcc244⟩ := Kd.S_get HO_5.out [] a1 p244 (by first | exact q244 | exact of_decide_eq_true (by first | (with_reducible assumption) | assumption) | (have e_ := (Kd.S_reads' HO_5.out).1; omega)); obtain ⟨ve244_0, rfl, ge244_0⟩ := hMe244; have hv244_0 := hcc244 0 _ rfl; rw [Nat.add_zero, show ((Kd.slice 4 Kd.bool)).sz = 1 from rfl, Nat.mul_one] at hv244_0; replace hv244_0 := Option.some.inj (hv244_0.symm.trans hx244_0); rw [hv244_0] at ge244_0; have HL244_0 := Aside0.mk (show Kd.R Kd.bool 4 _ _ _ _ (rd_L6 t234 a1) from ge244_0); clear hv244_0 ge244_0; clear hcc244 hce244; have HR244_0 := Aside0.mk hi244_0; have HC244_0 := Aside0.mk hl244_0; clear hi244_0 hl244_0; replace p244 := eq_true p244; replace q244 := eq_true q244; have p245 : 0 ≤ (x9_1 : Int) := of_decide_eq_true (by first | (with_reducible assumption) | assumption); have q245 : x9_1 < ((rd_L6 t234 a1).length : Int) := of_decide_eq_true (by first | (with_reducible assumption) | assumption); obtain ⟨ad245, e245, hx245_0⟩ := Kd.at_bool (by repeat (first | (with_reducible exact HR244_0.out) | (with_reducible refine Kd.C_alloc ?_ _) | (with_reducible refine Kd.C_drewN ?_ _) | (with_reducible refine Kd.C_drew ?_) | exact HR244_0.out)) x9_1 p245 q245; (try rw [← Nbq18.out] at hx245_0); cases e245; replace p245 := eq_true p245; replace q245 := eq_true q245; have p21 : 0 ≤ (x9_1 : Int) := of_decide_eq_true (by first | (with_reducible assumption) | assumption); have q21 : (x9_1 : Int) < ((x7_1.length : Int) : Int) := of_decide_eq_true (by first | (with_reducible assumption) | assumption); obtain ⟨go21, co21, eo21, gb21, gl21, cl21, HG21⟩ := Kd.R_form HO_7.out (by omega); (first | cases eo21 | (injection eo21 with ea_ en_ ec_; (first | subst ea_ | (injection ea_ with ea_; subst ea_)); subst ec_; clear en_)); have GB21 := Aside0.mk gb21; have GG21 := Aside0.mk HG21; clear gb21 gl21 HG21; obtain ⟨hx21_0, hf21_0⟩ := Kd.R_celln false HO_7.out (x9_1 : Int) p21 q21; replace p21 := eq_true p21; replace q21 := eq_true q21; obtain ⟨hy23_, hz23_⟩ := Kd.R_celln false HO_7.out (x9_1 : Int) (of_decide_eq_true (by first | (with_reducible assumption) | assumption)) (of_decide_eq_true (by first | (with_reducible assumption) | assumption)); have HP23 := Kd.R_putg HO_7.out (x9_1 : Int) true) | ((with_reducible refine gate_store (t := 4) (p := 46) rfl ?_); refine store_event (t := 4) (p := 46) (v := ?vo_w24) (w1 := (wr.setCell ⟨go21, (x9_1 : Int).toNat, none⟩ (.bool true))) ?hg ?ho ?hn ?hr ?_; (case ho => rfl); (case hg => rfl); (case hn => rfl); (case hr => first | (go_simp; done) | (go_simp; rfl)); intro w24 hw; have hg : wr.grownBy w24 (some go21) := (by rw [hw]; exact HP23.2); have hp_ : Kd.R Kd.bool 4 w24 w.heap.size (fun k_ => some k_ ≠ (v238 : Value).ownBlock) (.slice (some ⟨go21, 0, none⟩) x7_1.length co21) y246 := (by rw [hw, Ny246.out]; exact HP23.1); clear HP23; have n0_ := Aside0.mk (Kd.S_after (v := (.slice (some ⟨go21, 0, none⟩) x7_1.length co21)) (v1 := (.slice (some ⟨go21, 0, none⟩) x7_1.length co21)) (ok := (fun k_ => some k_ ≠ (v238 : Value).ownBlock)) (by (with_reducible repeat (first | apply Kd.S_alloc | apply Kd.S_drewN | apply Kd.S_drew)); exact HO_5.out) hg (.inl rfl)); have n1_ := Aside0.mk (Kd.R_after (v := (.slice (some ⟨go21, 0, none⟩) x7_1.length co21)) (v1 := (.slice (some ⟨go21, 0, none⟩) x7_1.length co21)) (ok := (fun _ => True)) (by (with_reducible repeat (first | apply Kd.R_alloc | apply Kd.R_drewN | apply Kd.R_drew)); exact Kd.R_mono HO_6.out (fun _ hk => ⟨trivial, hk⟩)) hg (.inl rfl)); have n2_ := Aside0.mk (hp_); have n3_ := Aside0.mk (Kd.R_after (v := (.slice (some ⟨go21, 0, none⟩) x7_1.length co21)) (v1 := (.slice (some ⟨go21, 0, none⟩) x7_1.length co21)) (ok := (fun k_ => some k_ ≠ (.slice (some ad244) t234.length co22 : Value).ownBlock ∧ some k_ ≠ (v238 : Value).ownBlock)) (by (with_reducible repeat (first | apply Kd.R_alloc | apply Kd.R_drewN | apply Kd.R_drew)); exact Kd.R_mono HL244_0.out (fun _ hk => ⟨⟨hk.2, hk.1.1⟩, hk.1.2⟩)) hg (.inl rfl)); have n4_ := Aside0.mk ((by rw [hw]; exact below_set (HB.out) GB21.out : Below w.heap.size w w24)); clear HO_5; clear HO_6; clear HO_7; clear HL244_0; clear HB; have HO_5 := n0_; have HO_6 := n1_; have HO_7 := n2_; have HL244_0 := n3_; have HB := n4_; clear n0_ n1_ n2_ n3_ n4_; clear hg hw hp_))
                          go_roundg k1
                          case measure => have := HK1.out; omega
                          case rel => exact ⟨(y246), (true), (wrap64 (x9_1 + 1)), (by first | rfl | (simp; done) | (simp [*]; done)), (by first | rfl | (simp; done) | (simp [*]; done)), H', ⟨by have := HK1.out; omega⟩, ⟨by (with_reducible repeat (first | apply Kd.S_alloc | apply Kd.S_drewN | apply Kd.S_drew)); exact HO_5.out⟩, ⟨by (with_reducible repeat (first | apply Kd.R_alloc | apply Kd.R_drewN | apply Kd.R_drew)); exact Kd.R_mono HO_6.out (fun _ hk => hk.2)⟩, ⟨by (with_reducible repeat (first | apply Kd.R_alloc | apply Kd.R_drewN | apply Kd.R_drew)); exact HO_7.out⟩, ⟨by repeat (first | exact HB.out | apply below_alloc | apply pw_below_drewN | apply below_drew1)⟩⟩
                        · rw [if_neg c20] at H
                          exact absurd H (by simp)
                      · replace c19 := Bool.eq_false_iff.mpr c19
                        subst c19
                        rw [if_neg (show ¬ (false = true) by decide)] at H
                        have H' := Aside0.mk H
                        clear H
                        go_wp2_with (first | ((with_reducible refine gate_callee (f := 29) rfl ?_); refine goesL_ (some 33) rfl rfl Try.func29 (by kernel_rfl) rfl #[.slice A0 l0.length c0, .int .i64 x9_1, .int .i64 a1] rfl (by (try simp only [List.map_toArray, List.map_cons, List.map_nil]); first | done | rfl | (simp only [List.length_drop, List.length_take]; rfl)) ?_; (with_reducible refine (jacquardref02_Edge.calls k1 _ _ l0 x9_1 a1 true _ ?side1 ?side2 A12.out).mono ?_); (case side1 => repeat (first | exact (Kd.C_below HR0.out HB.out) | (with_reducible refine Kd.C_alloc ?_ _) | (with_reducible refine Kd.C_drewN ?_ _) | (with_reducible refine Kd.C_drew ?_))); (case side2 => exact HC0.out); rintro e w' ⟨rfl, ⟨nd, rfl⟩⟩; refine ⟨_, rfl, ?_⟩; obtain ⟨Ao25, co25, eo25⟩ := Kd.S_slice HO_5.out; subst eo25; have p244 : 0 ≤ (a1 : Int) := of_decide_eq_true (by first | (with_reducible assumption) | assumption); have q244 : a1 < (t234.length : Int) := of_decide_eq_true (by first | (with_reducible assumption) | assumption); obtain ⟨ad244, A244_0, c244_0, e244, hx244_0, hl244_0, hi244_0⟩ := at_L6 (Kd.S_reads' HO_5.out).2.2 a1 p244 q244; cases e244; obtain ⟨ce244, hce244, hMe244, hcc244⟩ := Kd.S_get HO_5.out [] a1 p244 (by first | exact q244 | exact of_decide_eq_true (by first | (with_reducible assumption) | assumption) | (have e_ := (Kd.S_reads' HO_5.out).1; omega)); obtain ⟨ve244_0, rfl, ge244_0⟩ := hMe244; have hv244_0 := hcc244 0 _ rfl; rw [Nat.add_zero, show ((Kd.slice 4 Kd.bool)).sz = 1 from rfl, Nat.mul_one] at hv244_0; replace hv244_0 := Option.some.inj (hv244_0.symm.trans hx244_0); rw [hv244_0] at ge244_0; have HL244_0 := Aside0.mk (show Kd.R Kd.bool 4 _ _ _ _ (rd_L6 t234 a1) from ge244_0); clear hv244_0 ge244_0; clear hcc244 hce244; have HR244_0 := Aside0.mk hi244_0; have HC244_0 := Aside0.mk hl244_0; clear hi244_0 hl244_0; replace p244 := eq_true p244; replace q244 := eq_true q244; have p245 : 0 ≤ (x9_1 : Int) := of_decide_eq_true (by first | (with_reducible assumption) | assumption); have q245 : x9_1 < ((rd_L6 t234 a1).length : Int) := of_decide_eq_true (by first | (with_reducible assumption) | assumption); obtain ⟨ad245, e245, hx245_0⟩ := Kd.at_bool (by repeat (first | (with_reducible exact HR244_0.out) | (with_reducible refine Kd.C_alloc ?_ _) | (with_reducible refine Kd.C_drewN ?_ _) | (with_reducible refine Kd.C_drew ?_) | exact HR244_0.out)) x9_1 p245 q245; (try rw [← Nbq18.out] at hx245_0); cases e245; replace p245 := eq_true p245; replace q245 := eq_true q245))
                        go_roundg k1
                        case measure => have := HK1.out; omega
                        case rel => exact ⟨(x7_1), (x8_1), (wrap64 (x9_1 + 1)), (by first | rfl | (simp; done) | (simp [*]; done)), (by first | rfl | (simp; done) | (simp [*]; done)), H', ⟨by have := HK1.out; omega⟩, ⟨by (with_reducible repeat (first | apply Kd.S_alloc | apply Kd.S_drewN | apply Kd.S_drew)); exact HO_5.out⟩, ⟨by (with_reducible repeat (first | apply Kd.R_alloc | apply Kd.R_drewN | apply Kd.R_drew)); exact HO_6.out⟩, ⟨by (with_reducible repeat (first | apply Kd.R_alloc | apply Kd.R_drewN | apply Kd.R_drew)); exact HO_7.out⟩, ⟨by repeat (first | exact HB.out | apply below_alloc | apply pw_below_drewN | apply below_drew1)⟩⟩
                    · rw [if_neg c17] at H
                      exact absurd H (by simp)
                  · rw [if_neg c16] at H
                    exact absurd H (by simp)
                · rw [if_neg c15] at H
                  exact absurd H (by simp)
              · rw [if_neg c14] at H
                exact absurd H (by simp)
            · replace c13 := Bool.eq_false_iff.mpr c13
              subst c13
              rw [if_neg (show ¬ (false = true) by decide)] at H
              have H' := Aside0.mk H
              clear H
              go_wp2_with (first | ((with_reducible refine gate_callee (f := 29) rfl ?_); refine goesL_ (some 33) rfl rfl Try.func29 (by kernel_rfl) rfl #[.slice A0 l0.length c0, .int .i64 x9_1, .int .i64 a1] rfl (by (try simp only [List.map_toArray, List.map_cons, List.map_nil]); first | done | rfl | (simp only [List.length_drop, List.length_take]; rfl)) ?_; (with_reducible refine (jacquardref02_Edge.calls k1 _ _ l0 x9_1 a1 false _ ?side1 ?side2 A12.out).mono ?_); (case side1 => repeat (first | exact (Kd.C_below HR0.out HB.out) | (with_reducible refine Kd.C_alloc ?_ _) | (with_reducible refine Kd.C_drewN ?_ _) | (with_reducible refine Kd.C_drew ?_))); (case side2 => exact HC0.out); rintro e w' ⟨rfl, ⟨nd, rfl⟩⟩; refine ⟨_, rfl, ?_⟩))
              go_roundg k1
              case measure => have := HK1.out; omega
              case rel => exact ⟨(x7_1), (x8_1), (wrap64 (x9_1 + 1)), (by first | rfl | (simp; done) | (simp [*]; done)), (by first | rfl | (simp; done) | (simp [*]; done)), H', ⟨by have := HK1.out; omega⟩, ⟨by (with_reducible repeat (first | apply Kd.S_alloc | apply Kd.S_drewN | apply Kd.S_drew)); exact HO_5.out⟩, ⟨by (with_reducible repeat (first | apply Kd.R_alloc | apply Kd.R_drewN | apply Kd.R_drew)); exact HO_6.out⟩, ⟨by (with_reducible repeat (first | apply Kd.R_alloc | apply Kd.R_drewN | apply Kd.R_drew)); exact HO_7.out⟩, ⟨by repeat (first | exact HB.out | apply below_alloc | apply pw_below_drewN | apply below_drew1)⟩⟩
          · rw [if_neg c11] at H
            have c11b0 : decide (x9_1 < (l0.length : Int)) = false := decide_eq_false c11
            clear c11
            by_cases c26 : x8_1 = true
            · subst c26
              rw [if_pos rfl] at H
              by_cases c27 : 0 ≤ a1
              · rw [if_pos c27] at H
                have c27b0 : decide (0 ≤ a1) = true := decide_eq_true c27
                clear c27
                by_cases c28 : a1 < (x7_1.length : Int)
                · rw [if_pos c28] at H
                  have c28b0 : decide (a1 < (x7_1.length : Int)) = true := decide_eq_true c28
                  clear c28
                  obtain ⟨y247, hy247⟩ : ∃ y_ : List Bool, y_ = (x7_1.set (a1 : Int).toNat true) := ⟨_, rfl⟩
                  replace H : (jacquardref02_Body.l1 k1 l0 a1 t237 y247 0) = some r := by first | (rw [hy247]; with_reducible exact H) | (have H2_ := (Option.bind_some _ _).symm.trans H; rw [hy247]; with_reducible exact H2_) | (have H2_ := (Option.bind_some _ _).symm.trans H; with_reducible exact H2_) | with_reducible exact H | (rw [hy247]; exact H) | exact H
                  have Ny247 := Aside0.mk hy247
                  clear hy247
                  have H' := Aside0.mk H
                  clear H
                  have p29 : 0 ≤ (a1 : Int) := of_decide_eq_true (by first | (with_reducible assumption) | assumption)
                  have q29 : (a1 : Int) < ((x7_1.length : Int) : Int) := of_decide_eq_true (by first | (with_reducible assumption) | assumption)
                  obtain ⟨go29, co29, eo29, gb29, gl29, cl29, HG29⟩ := Kd.R_form HO_7.out (by omega)
                  (first | cases eo29 | (injection eo29 with ea_ en_ ec_; (first | subst ea_ | (injection ea_ with ea_; subst ea_)); subst ec_; clear en_))
                  have GB29 := Aside0.mk gb29
                  have GG29 := Aside0.mk HG29
                  clear gb29 gl29 HG29
                  obtain ⟨hx29_0, hf29_0⟩ := Kd.R_celln false HO_7.out (a1 : Int) p29 q29
                  replace p29 := eq_true p29
                  replace q29 := eq_true q29
                  have HP30 := Kd.R_putg HO_7.out (a1 : Int) true
                  go_wp2_with (first | ((with_reducible refine gate_store (t := 4) (p := 51) rfl ?_); refine store_event (t := 4) (p := 51) (v := ?vo_w31) (w1 := (wr.setCell ⟨go29, (a1 : Int).toNat, none⟩ (.bool true))) ?hg ?ho ?hn ?hr ?_; (case ho => rfl); (case hg => rfl); (case hn => rfl); (case hr => first | (go_simp; done) | (go_simp; rfl)); intro w31 hw; have hg : wr.grownBy w31 (some go29) := (by rw [hw]; exact HP30.2); have hp_ : Kd.R Kd.bool 4 w31 w.heap.size (fun k_ => some k_ ≠ (v238 : Value).ownBlock) (.slice (some ⟨go29, 0, none⟩) x7_1.length co29) y247 := (by rw [hw, Ny247.out]; exact HP30.1); clear HP30; have n0_ := Aside0.mk (Kd.S_after (v := (.slice (some ⟨go29, 0, none⟩) x7_1.length co29)) (v1 := (.slice (some ⟨go29, 0, none⟩) x7_1.length co29)) (ok := (fun k_ => some k_ ≠ (v238 : Value).ownBlock)) (by (with_reducible repeat (first | apply Kd.S_alloc | apply Kd.S_drewN | apply Kd.S_drew)); exact HO_5.out) hg (.inl rfl)); have n1_ := Aside0.mk (Kd.R_after (v := (.slice (some ⟨go29, 0, none⟩) x7_1.length co29)) (v1 := (.slice (some ⟨go29, 0, none⟩) x7_1.length co29)) (ok := (fun _ => True)) (by (with_reducible repeat (first | apply Kd.R_alloc | apply Kd.R_drewN | apply Kd.R_drew)); exact Kd.R_mono HO_6.out (fun _ hk => ⟨trivial, hk⟩)) hg (.inl rfl)); have n2_ := Aside0.mk (hp_); have n3_ := Aside0.mk ((by rw [hw]; exact below_set (HB.out) GB29.out : Below w.heap.size w w31)); clear HO_5; clear HO_6; clear HO_7; clear HB; have HO_5 := n0_; have HO_6 := n1_; have HO_7 := n2_; have HB := n3_; clear n0_ n1_ n2_ n3_; clear hg hw hp_))
                  go_loopg [11] k1 (fun kq v11 w' => ∃ (x7_2 : List Bool) (x11_2 : Int), v11 = .int .i64 x11_2 ∧ Aside0 (jacquardref02_Body.l1 kq l0 a1 t237 x7_2 x11_2 = some r) ∧ Aside0 (kq ≤ k1) ∧ Aside0 (Kd.R Kd.bool 4 w' w.heap.size (fun k_ => some k_ ≠ ((.slice (some ⟨go29, 0, none⟩) x7_1.length co29) : Value).ownBlock) v238 t237) ∧ Aside0 (Kd.R Kd.bool 4 w' w.heap.size (fun k_ => some k_ ≠ (v238 : Value).ownBlock) (.slice (some ⟨go29, 0, none⟩) x7_1.length co29) x7_2) ∧ Aside0 (Below w.heap.size w w'))
                  case atStart => exact ⟨(y247), (0), (by first | rfl | (simp; done) | (simp [*]; done)), H', ⟨Nat.le_refl _⟩, ⟨by (with_reducible repeat (first | apply Kd.R_alloc | apply Kd.R_drewN | apply Kd.R_drew)); exact Kd.R_mono HO_6.out (fun _ hk => hk.2)⟩, ⟨by (with_reducible repeat (first | apply Kd.R_alloc | apply Kd.R_drewN | apply Kd.R_drew)); exact HO_7.out⟩, ⟨by repeat (first | exact HB.out | apply below_alloc | apply pw_below_drewN | apply below_drew1)⟩⟩
                  case round =>
                    clear H'; (try clear c1); (try clear q1); (try clear c2); (try clear p2); (try clear q2); (try clear hx2); (try clear hf2); (try clear c5); (try clear c5b0); (try clear c5b1); (try clear c6); (try clear c6b0); (try clear c6b1); (try clear p6); (try clear c11); (try clear c11b0); (try clear c13); (try clear c14); (try clear c14b0); (try clear c15); (try clear c15b0); (try clear c16); (try clear c16b0); (try clear c17); (try clear c17b0); (try clear q18); (try clear c19); (try clear c20); (try clear c20b0); (try clear p21); (try clear q21); (try clear hx21); (try clear hf21); (try clear c24); (try clear p24); (try clear q24); (try clear hx24); (try clear c26); (try clear c27); (try clear c27b0); (try clear c28); (try clear c28b0); (try clear c29); (try clear p29); (try clear q29); (try clear hx29); (try clear hf29); (try clear hx21_0); (try clear hx244_0); (try clear hx245_0); (try clear hx29_0); (try clear p2); (try clear p21); (try clear p244); (try clear p245); (try clear p29); (try clear q21); (try clear q244); (try clear q245); (try clear q29)
                    obtain ⟨x7_2, x11_2, rfl, HA, HK2, HO_6, HO_7, HB⟩ := hrel
                    have hl7_2 := (Kd.R_reads' HO_7.out).1
                    rw [hl7_2] at HO_7
                    (try simp only [hl7_2])
                    (try simp only [hl7_2] at HO_6)
                    cases gk with
                    | zero => exact absurd HA.out (by simp [jacquardref02_Body.l1])
                    | succ k2 =>
                      have H := HA.out
                      clear HA
                      simp only [jacquardref02_Body.l1] at H
                      by_cases c32 : x11_2 < (l0.length : Int)
                      · rw [if_pos c32] at H
                        have c32b0 : decide (x11_2 < (l0.length : Int)) = true := decide_eq_true c32
                        clear c32
                        have H' := Aside0.mk H
                        clear H
                        go_wp2
                        go_loopg [12] k2 (fun kq v12 w' => ∃ (x7_3 : List Bool) (x12_3 : Int), v12 = .int .i64 x12_3 ∧ Aside0 (jacquardref02_Body.l2 kq l0 a1 t237 x7_3 x11_2 x12_3 = some r) ∧ Aside0 (kq ≤ k2) ∧ Aside0 (Kd.R Kd.bool 4 w' w.heap.size (fun k_ => some k_ ≠ ((.slice (some ⟨go29, 0, none⟩) x7_2.length co29) : Value).ownBlock) v238 t237) ∧ Aside0 (Kd.R Kd.bool 4 w' w.heap.size (fun k_ => some k_ ≠ (v238 : Value).ownBlock) (.slice (some ⟨go29, 0, none⟩) x7_2.length co29) x7_3) ∧ Aside0 (Below w.heap.size w w'))
                        case atStart => exact ⟨(x7_2), (0), (by first | rfl | (simp; done) | (simp [*]; done)), H', ⟨Nat.le_refl _⟩, ⟨by (try simp only [hl7_2]); (with_reducible repeat (first | apply Kd.R_alloc | apply Kd.R_drewN | apply Kd.R_drew)); exact HO_6.out⟩, ⟨by (try simp only [hl7_2]); (with_reducible repeat (first | apply Kd.R_alloc | apply Kd.R_drewN | apply Kd.R_drew)); exact HO_7.out⟩, ⟨by repeat (first | exact HB.out | apply below_alloc | apply pw_below_drewN | apply below_drew1)⟩⟩
                        case round =>
                          clear H'; (try clear c1); (try clear q1); (try clear c2); (try clear p2); (try clear q2); (try clear hx2); (try clear hf2); (try clear c3); (try clear c5); (try clear c5b0); (try clear c5b1); (try clear c6); (try clear c6b0); (try clear c6b1); (try clear p6); (try clear c11); (try clear c11b0); (try clear c13); (try clear c14); (try clear c14b0); (try clear c15); (try clear c15b0); (try clear c16); (try clear c16b0); (try clear c17); (try clear c17b0); (try clear q18); (try clear c19); (try clear c20); (try clear c20b0); (try clear p21); (try clear q21); (try clear hx21); (try clear hf21); (try clear c24); (try clear p24); (try clear q24); (try clear hx24); (try clear c26); (try clear c27); (try clear c27b0); (try clear c28); (try clear c28b0); (try clear c29); (try clear p29); (try clear q29); (try clear hx29); (try clear hf29); (try clear c32); (try clear c32b0); (try clear hx21_0); (try clear hx244_0); (try clear hx245_0); (try clear hx29_0); (try clear p2); (try clear p21); (try clear p24); (try clear p244); (try clear p245); (try clear p29); (try clear p6); (try clear q1); (try clear q18); (try clear q2); (try clear q21); (try clear q24); (try clear q244); (try clear q245); (try clear q29)
                          obtain ⟨x7_3, x12_3, rfl, HA, HK3, HO_6, HO_7, HB⟩ := hrel
                          have hl7_3 := (Kd.R_reads' HO_7.out).1
                          rw [hl7_3] at HO_7
                          (try simp only [hl7_3])
                          (try simp only [hl7_3] at HO_6)
                          cases gk with
                          | zero => exact absurd HA.out (by simp [jacquardref02_Body.l2])
                          | succ k3 =>
                            have H := HA.out
                            clear HA
                            simp only [jacquardref02_Body.l2] at H
                            by_cases c33 : x12_3 < (l0.length : Int)
                            · rw [if_pos c33] at H
                              have c33b0 : decide (x12_3 < (l0.length : Int)) = true := decide_eq_true c33
                              clear c33
                              replace H := Option.bind_eq_some_iff.mp H
                              obtain ⟨t248, A340, H⟩ := H
                              have A34 := Aside0.mk A340
                              clear A340
                              have H' := Aside0.mk H
                              clear H
                              go_wp2_with (first | ((with_reducible refine gate_callee (f := 72) rfl ?_); refine goesL_ (some 66) rfl rfl Try.func72 (by kernel_rfl) rfl #[.slice A0 l0.length c0, .int .i64 x12_3] rfl (by (try simp only [List.map_toArray, List.map_cons, List.map_nil]); first | done | rfl | (simp only [List.length_drop, List.length_take]; rfl)) ?_; (with_reducible refine (jacquardref02_next.calls k3 _ _ l0 x12_3 t248 _ ?side1 ?side2 A34.out).mono ?_); (case side1 => repeat (first | exact (Kd.C_below HR0.out HB.out) | (with_reducible refine Kd.C_alloc ?_ _) | (with_reducible refine Kd.C_drewN ?_ _) | (with_reducible refine Kd.C_drew ?_))); (case side2 => exact HC0.out); rintro e w35 ⟨v249, rfl, ho0, hb⟩; refine ⟨_, rfl, ?_⟩; have n0_ := Aside0.mk (Kd.R_below (by (with_reducible repeat (first | apply Kd.R_alloc | apply Kd.R_drewN | apply Kd.R_drew)); exact HO_6.out) hb); have n1_ := Aside0.mk (Kd.R_below (by (with_reducible repeat (first | apply Kd.R_alloc | apply Kd.R_drewN | apply Kd.R_drew)); exact HO_7.out) hb); have n2_ := Aside0.mk (Kd.R_lower ho0 (below_size (by repeat (first | exact HB.out | apply below_alloc | apply pw_below_drewN | apply below_drew1)))); have n3_ := Aside0.mk (below_step (by repeat (first | exact HB.out | apply below_alloc | apply pw_below_drewN | apply below_drew1)) hb); clear HO_6; clear HO_7; clear HB; have HO_6 := n0_; have HO_7 := n1_; have HO250 := n2_; have HB := n3_; clear n0_ n1_ n2_ n3_; (try clear hb); (try clear hb2); (try clear hk); (try clear hi); (try clear ho0)))
                              go_loopg [14] k3 (fun kq v14 w' => ∃ (x7_4 : List Bool) (x14_4 : Int), v14 = .int .i64 x14_4 ∧ Aside0 (jacquardref02_Body.l3 kq l0 a1 t237 x7_4 x11_2 x12_3 t248 x14_4 = some r) ∧ Aside0 (kq ≤ k3) ∧ Aside0 (Kd.R Kd.bool 4 w' w.heap.size (fun k_ => some k_ ≠ ((.slice (some ⟨go29, 0, none⟩) x7_3.length co29) : Value).ownBlock) v238 t237) ∧ Aside0 (Kd.R Kd.bool 4 w' w.heap.size (fun k_ => some k_ ≠ (v238 : Value).ownBlock) (.slice (some ⟨go29, 0, none⟩) x7_3.length co29) x7_4) ∧ Aside0 (Kd.R (Kd.int .i64) 3 w' w.heap.size (fun _ => True) v249 t248) ∧ Aside0 (Below w.heap.size w w'))
                              case atStart => exact ⟨(x7_3), (0), (by first | rfl | (simp; done) | (simp [*]; done)), H', ⟨Nat.le_refl _⟩, ⟨by (try simp only [hl7_2]); (try simp only [hl7_3]); (with_reducible repeat (first | apply Kd.R_alloc | apply Kd.R_drewN | apply Kd.R_drew)); exact HO_6.out⟩, ⟨by (try simp only [hl7_2]); (try simp only [hl7_3]); (with_reducible repeat (first | apply Kd.R_alloc | apply Kd.R_drewN | apply Kd.R_drew)); exact HO_7.out⟩, ⟨by (try simp only [hl7_2]); (try simp only [hl7_3]); (with_reducible repeat (first | apply Kd.R_alloc | apply Kd.R_drewN | apply Kd.R_drew)); exact HO250.out⟩, ⟨by repeat (first | exact HB.out | apply below_alloc | apply pw_below_drewN | apply below_drew1)⟩⟩
                              case round =>
                                clear H'; (try clear c1); (try clear q1); (try clear c2); (try clear p2); (try clear q2); (try clear hx2); (try clear hf2); (try clear c3); (try clear c5); (try clear c5b0); (try clear c5b1); (try clear c6); (try clear c6b0); (try clear c6b1); (try clear p6); (try clear c7); (try clear c11); (try clear c11b0); (try clear c13); (try clear c14); (try clear c14b0); (try clear c15); (try clear c15b0); (try clear c16); (try clear c16b0); (try clear c17); (try clear c17b0); (try clear q18); (try clear c19); (try clear c20); (try clear c20b0); (try clear p21); (try clear q21); (try clear hx21); (try clear hf21); (try clear c24); (try clear p24); (try clear q24); (try clear hx24); (try clear c26); (try clear c27); (try clear c27b0); (try clear c28); (try clear c28b0); (try clear c29); (try clear p29); (try clear q29); (try clear hx29); (try clear hf29); (try clear c32); (try clear c32b0); (try clear c33); (try clear c33b0); (try clear hx21_0); (try clear hx244_0); (try clear hx245_0); (try clear hx29_0); (try clear p2); (try clear p21); (try clear p24); (try clear p244); (try clear p245); (try clear p29); (try clear p6); (try clear q1); (try clear q18); (try clear q2); (try clear q21); (try clear q24); (try clear q244); (try clear q245); (try clear q29)
                                obtain ⟨x7_4, x14_4, rfl, HA, HK4, HO_6, HO_7, HO_13, HB⟩ := hrel
                                have hl7_4 := (Kd.R_reads' HO_7.out).1
                                rw [hl7_4] at HO_7
                                (try simp only [hl7_4])
                                (try simp only [hl7_4] at HO_6)
                                (try simp only [hl7_4] at HO_13)
                                cases gk with
                                | zero => exact absurd HA.out (by simp [jacquardref02_Body.l3])
                                | succ k4 =>
                                  have H := HA.out
                                  clear HA
                                  simp only [jacquardref02_Body.l3] at H
                                  by_cases c36 : x14_4 < (t248.length : Int)
                                  · rw [if_pos c36] at H
                                    have c36b0 : decide (x14_4 < (t248.length : Int)) = true := decide_eq_true c36
                                    clear c36
                                    by_cases c37 : 0 ≤ x12_3
                                    · rw [if_pos c37] at H
                                      have c37b0 : decide (0 ≤ x12_3) = true := decide_eq_true c37
                                      clear c37
                                      by_cases c38 : x12_3 < (t237.length : Int)
                                      · rw [if_pos c38] at H
                                        have c38b0 : decide (x12_3 < (t237.length : Int)) = true := decide_eq_true c38
                                        clear c38
                                        obtain ⟨bq39, hbq39⟩ : ∃ b_ : Bool, b_ = (rdOf false t237 x12_3) := ⟨_, rfl⟩
                                        replace H : (if bq39 = true then (if 0 ≤ x14_4 then (if (rd t248 x14_4) = a1 then (jacquardref02_Body.l3 k4 l0 a1 t237 x7_4 x11_2 x12_3 t248 (wrap64 (x14_4 + 1))) else (if 0 ≤ (rd t248 x14_4) then (if (rd t248 x14_4) < (x7_4.length : Int) then (if rdOf false x7_4 (rd t248 x14_4) = true then (if x12_3 < (x7_4.length : Int) then (jacquardref02_Body.l3 k4 l0 a1 t237 (x7_4.set (x12_3 : Int).toNat true) x11_2 x12_3 t248 (wrap64 (x14_4 + 1))) else (none)) else (jacquardref02_Body.l3 k4 l0 a1 t237 x7_4 x11_2 x12_3 t248 (wrap64 (x14_4 + 1)))) else (none)) else (none))) else (none)) else (jacquardref02_Body.l3 k4 l0 a1 t237 x7_4 x11_2 x12_3 t248 (wrap64 (x14_4 + 1)))) = some r := by rw [← hbq39] at H; exact H
                                        have Nbq39 := Aside0.mk hbq39
                                        clear hbq39
                                        by_cases c40 : bq39 = true
                                        · subst c40
                                          rw [if_pos rfl] at H
                                          by_cases c41 : 0 ≤ x14_4
                                          · rw [if_pos c41] at H
                                            have c41b0 : decide (0 ≤ x14_4) = true := decide_eq_true c41
                                            clear c41
                                            by_cases c42 : (rd t248 x14_4) = a1
                                            · rw [if_pos c42] at H
                                              have c42b0 : ((rd t248 x14_4) == a1) = true := beq_iff_eq.mpr c42
                                              have c42b1 : ((rd t248 x14_4) != a1) = false := bne_eq_false_iff_eq.mpr c42
                                              clear c42
                                              have H' := Aside0.mk H
                                              clear H
                                              obtain ⟨Ao43, co43, eo43⟩ := Kd.R_slice HO_13.out
                                              subst eo43
                                              obtain ⟨Ao44, co44, eo44⟩ := Kd.R_slice HO_6.out
                                              subst eo44
                                              have p251 : 0 ≤ (x12_3 : Int) := of_decide_eq_true (by first | (with_reducible assumption) | assumption)
                                              have q251 : x12_3 < (t237.length : Int) := of_decide_eq_true (by first | (with_reducible assumption) | assumption)
                                              obtain ⟨ad251, e251, hx251_0⟩ := Kd.at_bool (Kd.R_reads' HO_6.out).2.2 x12_3 p251 q251
                                              (try rw [← Nbq39.out] at hx251_0)
                                              cases e251
                                              replace p251 := eq_true p251
                                              replace q251 := eq_true q251
                                              have p252 : 0 ≤ (x14_4 : Int) := of_decide_eq_true (by first | (with_reducible assumption) | assumption)
                                              have q252 : x14_4 < (t248.length : Int) := of_decide_eq_true (by first | (with_reducible assumption) | assumption)
                                              obtain ⟨ad252, e252, hx252_0⟩ := Kd.at_int (Kd.R_reads' HO_13.out).2.2 x14_4 p252 q252
                                              cases e252
                                              replace p252 := eq_true p252
                                              replace q252 := eq_true q252
                                              go_wp2
                                              (try simp only [← hl7_4])
                                              go_roundg k4
                                              case measure => have := HK1.out; have := HK2.out; have := HK3.out; have := HK4.out; omega
                                              case rel => exact ⟨(x7_4), (wrap64 (x14_4 + 1)), (by first | rfl | (simp; done) | (simp [*]; done)), H', ⟨by have := HK1.out; have := HK2.out; have := HK3.out; have := HK4.out; omega⟩, ⟨by (try simp only [hl7_2]); (try simp only [hl7_3]); (try simp only [hl7_4]); (with_reducible repeat (first | apply Kd.R_alloc | apply Kd.R_drewN | apply Kd.R_drew)); exact HO_6.out⟩, ⟨by (try simp only [hl7_2]); (try simp only [hl7_3]); (try simp only [hl7_4]); (with_reducible repeat (first | apply Kd.R_alloc | apply Kd.R_drewN | apply Kd.R_drew)); exact HO_7.out⟩, ⟨by (try simp only [hl7_2]); (try simp only [hl7_3]); (try simp only [hl7_4]); (with_reducible repeat (first | apply Kd.R_alloc | apply Kd.R_drewN | apply Kd.R_drew)); exact HO_13.out⟩, ⟨by repeat (first | exact HB.out | apply below_alloc | apply pw_below_drewN | apply below_drew1)⟩⟩
                                            · rw [if_neg c42] at H
                                              have c42b0 : ((rd t248 x14_4) == a1) = false := beq_eq_false_iff_ne.mpr c42
                                              have c42b1 : ((rd t248 x14_4) != a1) = true := bne_iff_ne.mpr c42
                                              by_cases c45 : 0 ≤ (rd t248 x14_4)
                                              · rw [if_pos c45] at H
                                                have c45b0 : decide (0 ≤ (rd t248 x14_4)) = true := decide_eq_true c45
                                                clear c45
                                                by_cases c46 : (rd t248 x14_4) < (x7_4.length : Int)
                                                · rw [if_pos c46] at H
                                                  have c46b0 : decide ((rd t248 x14_4) < (x7_4.length : Int)) = true := decide_eq_true c46
                                                  clear c46
                                                  obtain ⟨bq47, hbq47⟩ : ∃ b_ : Bool, b_ = (rdOf false x7_4 (rd t248 x14_4)) := ⟨_, rfl⟩
                                                  replace H : (if bq47 = true then (if x12_3 < (x7_4.length : Int) then (jacquardref02_Body.l3 k4 l0 a1 t237 (x7_4.set (x12_3 : Int).toNat true) x11_2 x12_3 t248 (wrap64 (x14_4 + 1))) else (none)) else (jacquardref02_Body.l3 k4 l0 a1 t237 x7_4 x11_2 x12_3 t248 (wrap64 (x14_4 + 1)))) = some r := by rw [← hbq47] at H; exact H
                                                  have Nbq47 := Aside0.mk hbq47
                                                  clear hbq47
                                                  by_cases c48 : bq47 = true
                                                  · subst c48
                                                    rw [if_pos rfl] at H
                                                    by_cases c49 : x12_3 < (x7_4.length : Int)
                                                    · rw [if_pos c49] at H
                                                      have c49b0 : decide (x12_3 < (x7_4.length : Int)) = true := decide_eq_true c49
                                                      clear c49
                                                      obtain ⟨y255, hy255⟩ : ∃ y_ : List Bool, y_ = (x7_4.set (x12_3 : Int).toNat true) := ⟨_, rfl⟩
                                                      replace H : (jacquardref02_Body.l3 k4 l0 a1 t237 y255 x11_2 x12_3 t248 (wrap64 (x14_4 + 1))) = some r := by first | (rw [hy255]; with_reducible exact H) | (have H2_ := (Option.bind_some _ _).symm.trans H; rw [hy255]; with_reducible exact H2_) | (have H2_ := (Option.bind_some _ _).symm.trans H; with_reducible exact H2_) | with_reducible exact H | (rw [hy255]; exact H) | exact H
                                                      have Ny255 := Aside0.mk hy255
                                                      clear hy255
                                                      have H' := Aside0.mk H
                                                      clear H
                                                      obtain ⟨Ao51, co51, eo51⟩ := Kd.R_slice HO_13.out
                                                      subst eo51
                                                      obtain ⟨Ao52, co52, eo52⟩ := Kd.R_slice HO_6.out
                                                      subst eo52
                                                      have p251 : 0 ≤ (x12_3 : Int) := of_decide_eq_true (by first | (with_reducible assumption) | assumption)
                                                      have q251 : x12_3 < (t237.length : Int) := of_decide_eq_true (by first | (with_reducible assumption) | assumption)
                                                      obtain ⟨ad251, e251, hx251_0⟩ := Kd.at_bool (Kd.R_reads' HO_6.out).2.2 x12_3 p251 q251
                                                      (try rw [← Nbq39.out] at hx251_0)
                                                      (try rw [← Nbq47.out] at hx251_0)
                                                      cases e251
                                                      replace p251 := eq_true p251
                                                      replace q251 := eq_true q251
                                                      have p252 : 0 ≤ (x14_4 : Int) := of_decide_eq_true (by first | (with_reducible assumption) | assumption)
                                                      have q252 : x14_4 < (t248.length : Int) := of_decide_eq_true (by first | (with_reducible assumption) | assumption)
                                                      obtain ⟨ad252, e252, hx252_0⟩ := Kd.at_int (Kd.R_reads' HO_13.out).2.2 x14_4 p252 q252
                                                      cases e252
                                                      replace p252 := eq_true p252
                                                      replace q252 := eq_true q252
                                                      have p253 : 0 ≤ (x14_4 : Int) := of_decide_eq_true (by first | (with_reducible assumption) | assumption)
                                                      have q253 : x14_4 < (t248.length : Int) := of_decide_eq_true (by first | (with_reducible assumption) | assumption)
                                                      obtain ⟨ad253, e253, hx253_0⟩ := Kd.at_int (Kd.R_reads' HO_13.out).2.2 x14_4 p253 q253
                                                      obtain rfl : ad252 = ad253 := (by injection e253)
                                                      replace p253 := eq_true p253
                                                      replace q253 := eq_true q253
                                                      have p254 : 0 ≤ ((rd t248 x14_4) : Int) := of_decide_eq_true (by first | (with_reducible assumption) | assumption)
                                                      have q254 : (rd t248 x14_4) < (x7_4.length : Int) := of_decide_eq_true (by first | (with_reducible assumption) | assumption)
                                                      obtain ⟨ad254, e254, hx254_0⟩ := Kd.at_bool (Kd.R_reads' HO_7.out).2.2 (rd t248 x14_4) p254 q254
                                                      (try rw [← Nbq39.out] at hx254_0)
                                                      (try rw [← Nbq47.out] at hx254_0)
                                                      obtain rfl : (⟨go29, 0, none⟩ : Addr) = ad254 := (by injection e254)
                                                      (first | simp only [add_plain] at hx254_0 | simp only [add_at] at hx254_0 | simp only [Addr.add, Nat.zero_add] at hx254_0 | skip)
                                                      replace p254 := eq_true p254
                                                      replace q254 := eq_true q254
                                                      have p50 : 0 ≤ (x12_3 : Int) := of_decide_eq_true (by first | (with_reducible assumption) | assumption)
                                                      have q50 : (x12_3 : Int) < ((x7_4.length : Int) : Int) := of_decide_eq_true (by first | (with_reducible assumption) | assumption)
                                                      obtain ⟨hx50_0, hf50_0⟩ := Kd.R_celln false HO_7.out (x12_3 : Int) p50 q50
                                                      replace p50 := eq_true p50
                                                      replace q50 := eq_true q50
                                                      have HP53 := Kd.R_putg HO_7.out (x12_3 : Int) true
                                                      go_wp2_with (first | ((with_reducible refine gate_store (t := 4) (p := 96) rfl ?_); refine store_event (t := 4) (p := 96) (v := ?vo_w54) (w1 := (wr.setCell ⟨go29, (x12_3 : Int).toNat, none⟩ (.bool true))) ?hg ?ho ?hn ?hr ?_; (case ho => rfl); (case hg => rfl); (case hn => rfl); (case hr => first | (go_simp; done) | (go_simp; rfl)); intro w54 hw; have hg : wr.grownBy w54 (some go29) := (by rw [hw]; exact HP53.2); have hp_ : Kd.R Kd.bool 4 w54 w.heap.size (fun k_ => some k_ ≠ (.slice (some ad251) t237.length co52 : Value).ownBlock) (.slice (some ⟨go29, 0, none⟩) x7_4.length co29) y255 := (by rw [hw, Ny255.out]; exact HP53.1); clear HP53; have n0_ := Aside0.mk (Kd.R_after (v := (.slice (some ⟨go29, 0, none⟩) x7_4.length co29)) (v1 := (.slice (some ⟨go29, 0, none⟩) x7_4.length co29)) (ok := (fun _ => True)) (by (with_reducible repeat (first | apply Kd.R_alloc | apply Kd.R_drewN | apply Kd.R_drew)); exact Kd.R_mono HO_6.out (fun _ hk => ⟨trivial, hk⟩)) hg (.inl rfl)); have n1_ := Aside0.mk (hp_); have n2_ := Aside0.mk (Kd.R_over' (v := (.slice (some ⟨go29, 0, none⟩) x7_4.length co29)) (by (with_reducible repeat (first | apply Kd.R_alloc | apply Kd.R_drewN | apply Kd.R_drew)); exact HO_13.out) (Kd.R_typed HO_7.out) (by decide) hg); have n3_ := Aside0.mk ((by rw [hw]; exact below_set (HB.out) GB29.out : Below w.heap.size w w54)); clear HO_6; clear HO_7; clear HO_13; clear HB; have HO_6 := n0_; have HO_7 := n1_; have HO_13 := n2_; have HB := n3_; clear n0_ n1_ n2_ n3_; clear hg hw hp_))
                                                      (try simp only [← hl7_4])
                                                      go_roundg k4
                                                      case measure => have := HK1.out; have := HK2.out; have := HK3.out; have := HK4.out; omega
                                                      case rel => exact ⟨(y255), (wrap64 (x14_4 + 1)), (by first | rfl | (simp; done) | (simp [*]; done)), H', ⟨by have := HK1.out; have := HK2.out; have := HK3.out; have := HK4.out; omega⟩, ⟨by (try simp only [hl7_2]); (try simp only [hl7_3]); (try simp only [hl7_4]); (with_reducible repeat (first | apply Kd.R_alloc | apply Kd.R_drewN | apply Kd.R_drew)); exact Kd.R_mono HO_6.out (fun _ hk => hk.2)⟩, ⟨by (try simp only [hl7_2]); (try simp only [hl7_3]); (try simp only [hl7_4]); (with_reducible repeat (first | apply Kd.R_alloc | apply Kd.R_drewN | apply Kd.R_drew)); exact HO_7.out⟩, ⟨by (try simp only [hl7_2]); (try simp only [hl7_3]); (try simp only [hl7_4]); (with_reducible repeat (first | apply Kd.R_alloc | apply Kd.R_drewN | apply Kd.R_drew)); exact HO_13.out⟩, ⟨by repeat (first | exact HB.out | apply below_alloc | apply pw_below_drewN | apply below_drew1)⟩⟩
                                                    · rw [if_neg c49] at H
                                                      exact absurd H (by simp)
                                                  · replace c48 := Bool.eq_false_iff.mpr c48
                                                    subst c48
                                                    rw [if_neg (show ¬ (false = true) by decide)] at H
                                                    have H' := Aside0.mk H
                                                    clear H
                                                    obtain ⟨Ao55, co55, eo55⟩ := Kd.R_slice HO_13.out
                                                    subst eo55
                                                    obtain ⟨Ao56, co56, eo56⟩ := Kd.R_slice HO_6.out
                                                    subst eo56
                                                    have p251 : 0 ≤ (x12_3 : Int) := of_decide_eq_true (by first | (with_reducible assumption) | assumption)
                                                    have q251 : x12_3 < (t237.length : Int) := of_decide_eq_true (by first | (with_reducible assumption) | assumption)
                                                    obtain ⟨ad251, e251, hx251_0⟩ := Kd.at_bool (Kd.R_reads' HO_6.out).2.2 x12_3 p251 q251
                                                    (try rw [← Nbq39.out] at hx251_0)
                                                    (try rw [← Nbq47.out] at hx251_0)
                                                    cases e251
                                                    replace p251 := eq_true p251
                                                    replace q251 := eq_true q251
                                                    have p252 : 0 ≤ (x14_4 : Int) := of_decide_eq_true (by first | (with_reducible assumption) | assumption)
                                                    have q252 : x14_4 < (t248.length : Int) := of_decide_eq_true (by first | (with_reducible assumption) | assumption)
                                                    obtain ⟨ad252, e252, hx252_0⟩ := Kd.at_int (Kd.R_reads' HO_13.out).2.2 x14_4 p252 q252
                                                    cases e252
                                                    replace p252 := eq_true p252
                                                    replace q252 := eq_true q252
                                                    have p253 : 0 ≤ (x14_4 : Int) := of_decide_eq_true (by first | (with_reducible assumption) | assumption)
                                                    have q253 : x14_4 < (t248.length : Int) := of_decide_eq_true (by first | (with_reducible assumption) | assumption)
                                                    obtain ⟨ad253, e253, hx253_0⟩ := Kd.at_int (Kd.R_reads' HO_13.out).2.2 x14_4 p253 q253
                                                    obtain rfl : ad252 = ad253 := (by injection e253)
                                                    replace p253 := eq_true p253
                                                    replace q253 := eq_true q253
                                                    have p254 : 0 ≤ ((rd t248 x14_4) : Int) := of_decide_eq_true (by first | (with_reducible assumption) | assumption)
                                                    have q254 : (rd t248 x14_4) < (x7_4.length : Int) := of_decide_eq_true (by first | (with_reducible assumption) | assumption)
                                                    obtain ⟨ad254, e254, hx254_0⟩ := Kd.at_bool (Kd.R_reads' HO_7.out).2.2 (rd t248 x14_4) p254 q254
                                                    (try rw [← Nbq39.out] at hx254_0)
                                                    (try rw [← Nbq47.out] at hx254_0)
                                                    obtain rfl : (⟨go29, 0, none⟩ : Addr) = ad254 := (by injection e254)
                                                    (first | simp only [add_plain] at hx254_0 | simp only [add_at] at hx254_0 | simp only [Addr.add, Nat.zero_add] at hx254_0 | skip)
                                                    replace p254 := eq_true p254
                                                    replace q254 := eq_true q254
                                                    go_wp2
                                                    (try simp only [← hl7_4])
                                                    go_roundg k4
                                                    case measure => have := HK1.out; have := HK2.out; have := HK3.out; have := HK4.out; omega
                                                    case rel => exact ⟨(x7_4), (wrap64 (x14_4 + 1)), (by first | rfl | (simp; done) | (simp [*]; done)), H', ⟨by have := HK1.out; have := HK2.out; have := HK3.out; have := HK4.out; omega⟩, ⟨by (try simp only [hl7_2]); (try simp only [hl7_3]); (try simp only [hl7_4]); (with_reducible repeat (first | apply Kd.R_alloc | apply Kd.R_drewN | apply Kd.R_drew)); exact HO_6.out⟩, ⟨by (try simp only [hl7_2]); (try simp only [hl7_3]); (try simp only [hl7_4]); (with_reducible repeat (first | apply Kd.R_alloc | apply Kd.R_drewN | apply Kd.R_drew)); exact HO_7.out⟩, ⟨by (try simp only [hl7_2]); (try simp only [hl7_3]); (try simp only [hl7_4]); (with_reducible repeat (first | apply Kd.R_alloc | apply Kd.R_drewN | apply Kd.R_drew)); exact HO_13.out⟩, ⟨by repeat (first | exact HB.out | apply below_alloc | apply pw_below_drewN | apply below_drew1)⟩⟩
                                                · rw [if_neg c46] at H
                                                  exact absurd H (by simp)
                                              · rw [if_neg c45] at H
                                                exact absurd H (by simp)
                                          · rw [if_neg c41] at H
                                            exact absurd H (by simp)
                                        · replace c40 := Bool.eq_false_iff.mpr c40
                                          subst c40
                                          rw [if_neg (show ¬ (false = true) by decide)] at H
                                          have H' := Aside0.mk H
                                          clear H
                                          obtain ⟨Ao57, co57, eo57⟩ := Kd.R_slice HO_13.out
                                          subst eo57
                                          obtain ⟨Ao58, co58, eo58⟩ := Kd.R_slice HO_6.out
                                          subst eo58
                                          have p251 : 0 ≤ (x12_3 : Int) := of_decide_eq_true (by first | (with_reducible assumption) | assumption)
                                          have q251 : x12_3 < (t237.length : Int) := of_decide_eq_true (by first | (with_reducible assumption) | assumption)
                                          obtain ⟨ad251, e251, hx251_0⟩ := Kd.at_bool (Kd.R_reads' HO_6.out).2.2 x12_3 p251 q251
                                          (try rw [← Nbq39.out] at hx251_0)
                                          cases e251
                                          replace p251 := eq_true p251
                                          replace q251 := eq_true q251
                                          go_wp2
                                          (try simp only [← hl7_4])
                                          go_roundg k4
                                          case measure => have := HK1.out; have := HK2.out; have := HK3.out; have := HK4.out; omega
                                          case rel => exact ⟨(x7_4), (wrap64 (x14_4 + 1)), (by first | rfl | (simp; done) | (simp [*]; done)), H', ⟨by have := HK1.out; have := HK2.out; have := HK3.out; have := HK4.out; omega⟩, ⟨by (try simp only [hl7_2]); (try simp only [hl7_3]); (try simp only [hl7_4]); (with_reducible repeat (first | apply Kd.R_alloc | apply Kd.R_drewN | apply Kd.R_drew)); exact HO_6.out⟩, ⟨by (try simp only [hl7_2]); (try simp only [hl7_3]); (try simp only [hl7_4]); (with_reducible repeat (first | apply Kd.R_alloc | apply Kd.R_drewN | apply Kd.R_drew)); exact HO_7.out⟩, ⟨by (try simp only [hl7_2]); (try simp only [hl7_3]); (try simp only [hl7_4]); (with_reducible repeat (first | apply Kd.R_alloc | apply Kd.R_drewN | apply Kd.R_drew)); exact HO_13.out⟩, ⟨by repeat (first | exact HB.out | apply below_alloc | apply pw_below_drewN | apply below_drew1)⟩⟩
                                      · rw [if_neg c38] at H
                                        exact absurd H (by simp)
                                    · rw [if_neg c37] at H
                                      exact absurd H (by simp)
                                  · rw [if_neg c36] at H
                                    have c36b0 : decide (x14_4 < (t248.length : Int)) = false := decide_eq_false c36
                                    clear c36
                                    have H' := Aside0.mk H
                                    clear H
                                    obtain ⟨Ao59, co59, eo59⟩ := Kd.R_slice HO_13.out
                                    subst eo59
                                    go_wp2
                                    (try simp only [← hl7_3, ← hl7_4])
                                    go_roundg k4
                                    case measure => have := HK1.out; have := HK2.out; have := HK3.out; have := HK4.out; omega
                                    case rel => exact ⟨(x7_4), (wrap64 (x12_3 + 1)), (by first | rfl | (simp; done) | (simp [*]; done)), H', ⟨by have := HK1.out; have := HK2.out; have := HK3.out; have := HK4.out; omega⟩, ⟨by (try simp only [hl7_2]); (try simp only [hl7_3]); (try simp only [hl7_4]); (with_reducible repeat (first | apply Kd.R_alloc | apply Kd.R_drewN | apply Kd.R_drew)); exact HO_6.out⟩, ⟨by (try simp only [hl7_2]); (try simp only [hl7_3]); (try simp only [hl7_4]); (with_reducible repeat (first | apply Kd.R_alloc | apply Kd.R_drewN | apply Kd.R_drew)); exact HO_7.out⟩, ⟨by repeat (first | exact HB.out | apply below_alloc | apply pw_below_drewN | apply below_drew1)⟩⟩
                            · rw [if_neg c33] at H
                              have c33b0 : decide (x12_3 < (l0.length : Int)) = false := decide_eq_false c33
                              clear c33
                              have H' := Aside0.mk H
                              clear H
                              go_wp2
                              (try simp only [← hl7_2, ← hl7_3])
                              go_roundg k3
                              case measure => have := HK1.out; have := HK2.out; have := HK3.out; omega
                              case rel => exact ⟨(x7_3), (wrap64 (x11_2 + 1)), (by first | rfl | (simp; done) | (simp [*]; done)), H', ⟨by have := HK1.out; have := HK2.out; have := HK3.out; omega⟩, ⟨by (try simp only [hl7_2]); (try simp only [hl7_3]); (with_reducible repeat (first | apply Kd.R_alloc | apply Kd.R_drewN | apply Kd.R_drew)); exact HO_6.out⟩, ⟨by (try simp only [hl7_2]); (try simp only [hl7_3]); (with_reducible repeat (first | apply Kd.R_alloc | apply Kd.R_drewN | apply Kd.R_drew)); exact HO_7.out⟩, ⟨by repeat (first | exact HB.out | apply below_alloc | apply pw_below_drewN | apply below_drew1)⟩⟩
                      · rw [if_neg c32] at H
                        have c32b0 : decide (x11_2 < (l0.length : Int)) = false := decide_eq_false c32
                        clear c32
                        have H' := Aside0.mk H
                        clear H
                        go_wp2
                        go_loopg [15, 16] k2 (fun kq v15 v16 w' => ∃ (x15_3 : List Int) (x16_3 : Int), v16 = .int .i64 x16_3 ∧ Aside0 (jacquardref02_Body.l4 kq l0 x7_2 x15_3 x16_3 = some r) ∧ Aside0 (kq ≤ k2) ∧ Aside0 (Kd.R Kd.bool 4 w' w.heap.size (fun _ => True) (.slice (some ⟨go29, 0, none⟩) x7_2.length co29) x7_2) ∧ Aside0 (Kd.R (Kd.int .i64) 3 w' w.heap.size (fun _ => True) v15 x15_3) ∧ Aside0 (Below w.heap.size w w'))
                        case atStart => exact ⟨(([] : List Int)), (0), (by first | rfl | (simp; done) | (simp [*]; done)), H', ⟨Nat.le_refl _⟩, ⟨by (try simp only [hl7_2]); (with_reducible repeat (first | apply Kd.R_alloc | apply Kd.R_drewN | apply Kd.R_drew)); exact Kd.R_mono HO_7.out (fun _ hk => trivial)⟩, ⟨by (try simp only [hl7_2]); first | exact Kd.R_nil _ _ _ _ _ | exact Kd.N_nil _ _ _ _ _ | exact Kd.V_nil _ _ _ _ _ | exact Kd.Q_nil _ _ _ _ _ | exact Kd.S_nil _ _ _ _ _⟩, ⟨by repeat (first | exact HB.out | apply below_alloc | apply pw_below_drewN | apply below_drew1)⟩⟩
                        case round =>
                          clear H'; (try clear c1); (try clear q1); (try clear c2); (try clear p2); (try clear q2); (try clear hx2); (try clear hf2); (try clear c3); (try clear q3); (try clear c4); (try clear q4); (try clear c5); (try clear c5b0); (try clear c5b1); (try clear p5); (try clear q5); (try clear hx5); (try clear hf5); (try clear c6); (try clear c6b0); (try clear c6b1); (try clear p6); (try clear c7); (try clear c11); (try clear c11b0); (try clear c13); (try clear c14); (try clear c14b0); (try clear c15); (try clear c15b0); (try clear c16); (try clear c16b0); (try clear c17); (try clear c17b0); (try clear q18); (try clear c19); (try clear c20); (try clear c20b0); (try clear p21); (try clear q21); (try clear hx21); (try clear hf21); (try clear c24); (try clear p24); (try clear q24); (try clear hx24); (try clear p25); (try clear q25); (try clear hx25); (try clear c26); (try clear c27); (try clear c27b0); (try clear c28); (try clear c28b0); (try clear c29); (try clear p29); (try clear q29); (try clear hx29); (try clear hf29); (try clear c32); (try clear c32b0); (try clear c33); (try clear c33b0); (try clear c36); (try clear c36b0); (try clear c37); (try clear c37b0); (try clear c38); (try clear c38b0); (try clear q39); (try clear c40); (try clear c41); (try clear c41b0); (try clear c42); (try clear c42b0); (try clear c42b1); (try clear c45); (try clear c45b0); (try clear c46); (try clear c46b0); (try clear q47); (try clear c48); (try clear c49); (try clear c49b0); (try clear p50); (try clear q50); (try clear hx50); (try clear hf50); (try clear hx21_0); (try clear hx244_0); (try clear hx245_0); (try clear hx251_0); (try clear hx252_0); (try clear hx253_0); (try clear hx254_0); (try clear hx29_0); (try clear hx50_0); (try clear p2); (try clear p21); (try clear p24); (try clear p244); (try clear p245); (try clear p251); (try clear p252); (try clear p253); (try clear p254); (try clear p29); (try clear p50); (try clear p6); (try clear q1); (try clear q18); (try clear q2); (try clear q21); (try clear q24)
                          (try clear q244); (try clear q245); (try clear q251); (try clear q252); (try clear q253); (try clear q254); (try clear q29); (try clear q50)
                          obtain ⟨x15_3, x16_3, rfl, HA, HK3, HO_7, HO_15, HB⟩ := hrel
                          cases gk with
                          | zero => exact absurd HA.out (by simp [jacquardref02_Body.l4])
                          | succ k3 =>
                            have H := HA.out
                            clear HA
                            simp only [jacquardref02_Body.l4] at H
                            by_cases c60 : x16_3 < (l0.length : Int)
                            · rw [if_pos c60] at H
                              have c60b0 : decide (x16_3 < (l0.length : Int)) = true := decide_eq_true c60
                              clear c60
                              by_cases c61 : 0 ≤ x16_3
                              · rw [if_pos c61] at H
                                have c61b0 : decide (0 ≤ x16_3) = true := decide_eq_true c61
                                clear c61
                                by_cases c62 : x16_3 < (x7_2.length : Int)
                                · rw [if_pos c62] at H
                                  have c62b0 : decide (x16_3 < (x7_2.length : Int)) = true := decide_eq_true c62
                                  clear c62
                                  obtain ⟨bq63, hbq63⟩ : ∃ b_ : Bool, b_ = (rdOf false x7_2 x16_3) := ⟨_, rfl⟩
                                  replace H : (if bq63 = true then (if x15_3.length < 17592186044416 then (jacquardref02_Body.l4 k3 l0 x7_2 (x15_3 ++ [x16_3]) (wrap64 (x16_3 + 1))) else (none)) else (jacquardref02_Body.l4 k3 l0 x7_2 x15_3 (wrap64 (x16_3 + 1)))) = some r := by rw [← hbq63] at H; exact H
                                  have Nbq63 := Aside0.mk hbq63
                                  clear hbq63
                                  by_cases c64 : bq63 = true
                                  · subst c64
                                    rw [if_pos rfl] at H
                                    by_cases c65 : x15_3.length < 17592186044416
                                    · rw [if_pos c65] at H
                                      have LMc65 := Aside0.mk c65
                                      clear c65
                                      obtain ⟨y257, hy257⟩ : ∃ y_ : List Int, y_ = (x15_3 ++ [x16_3]) := ⟨_, rfl⟩
                                      replace H : (jacquardref02_Body.l4 k3 l0 x7_2 y257 (wrap64 (x16_3 + 1))) = some r := by first | (rw [hy257]; with_reducible exact H) | (have H2_ := (Option.bind_some _ _).symm.trans H; rw [hy257]; with_reducible exact H2_) | (have H2_ := (Option.bind_some _ _).symm.trans H; with_reducible exact H2_) | with_reducible exact H | (rw [hy257]; exact H) | exact H
                                      have Ny257 := Aside0.mk hy257
                                      clear hy257
                                      have H' := Aside0.mk H
                                      clear H
                                      have p256 : 0 ≤ (x16_3 : Int) := of_decide_eq_true (by first | (with_reducible assumption) | assumption)
                                      have q256 : x16_3 < (x7_2.length : Int) := of_decide_eq_true (by first | (with_reducible assumption) | assumption)
                                      obtain ⟨ad256, e256, hx256_0⟩ := Kd.at_bool (Kd.R_reads' HO_7.out).2.2 x16_3 p256 q256
                                      (try rw [← Nbq63.out] at hx256_0)
                                      obtain rfl : (⟨go29, 0, none⟩ : Addr) = ad256 := (by injection e256)
                                      (first | simp only [add_plain] at hx256_0 | simp only [add_at] at hx256_0 | simp only [Addr.add, Nat.zero_add] at hx256_0 | skip)
                                      replace p256 := eq_true p256
                                      replace q256 := eq_true q256
                                      go_wp2_with (first | ((with_reducible refine gate_builtin (b := .append) (xs := #[.tmp 107, .tmp 109]) rfl ?_); at_builtin; refine Kd.R_append (Kd.int .i64) (w0 := w) w.heap.size rfl (.tmp 107) (.tmp 109) 23 3 (.int .i64 0) 8 rfl Try.underlying23 info3 rfl (by decide) (by omega) u15 x15_3 x16_3 [.int .i64 x16_3] (fun _ => True) (fun _ => False) rfl rfl ?aP (fun _ hk => hk.elim) ?aF ?aO ?aB ?aS ?aL ?_; (case aP => exact rfl); (case aB => exact (by repeat (first | exact HB.out | apply below_alloc | apply pw_below_drewN | apply below_drew1))); (case aF => exact (fun _ _ => trivial)); (case aO => exact (by (with_reducible repeat (first | apply Kd.R_alloc | apply Kd.R_drewN | apply Kd.R_drew)); exact HO_15.out)); (case aS => exact (below_size (by repeat (first | exact HB.out | apply below_alloc | apply pw_below_drewN | apply below_drew1)))); (case aL => have := LMc65.out; omega); intro v258 w66 ho hb hg hat; rw [← Ny257.out] at ho; have n0_ := Aside0.mk (Kd.R_over' (by (with_reducible repeat (first | apply Kd.R_alloc | apply Kd.R_drewN | apply Kd.R_drew)); exact HO_7.out) (Kd.R_typed (by (with_reducible repeat (first | apply Kd.R_alloc | apply Kd.R_drewN | apply Kd.R_drew)); exact HO_15.out)) (by decide) hg); have n1_ := Aside0.mk (hb); have n2_ := Aside0.mk (ho); clear HO_7; clear HB; clear HO_15; have HO_7 := n0_; have HB := n1_; have HO259 := n2_; clear n0_ n1_ n2_; clear ho hb hg hat))
                                      go_roundg k3
                                      case measure => have := HK1.out; have := HK2.out; have := HK3.out; omega
                                      case rel => exact ⟨(y257), (wrap64 (x16_3 + 1)), (by first | rfl | (simp; done) | (simp [*]; done)), H', ⟨by have := HK1.out; have := HK2.out; have := HK3.out; omega⟩, ⟨by (try simp only [hl7_2]); (with_reducible repeat (first | apply Kd.R_alloc | apply Kd.R_drewN | apply Kd.R_drew)); exact HO_7.out⟩, ⟨by (try simp only [hl7_2]); (with_reducible repeat (first | apply Kd.R_alloc | apply Kd.R_drewN | apply Kd.R_drew)); exact HO259.out⟩, ⟨by repeat (first | exact HB.out | apply below_alloc | apply pw_below_drewN | apply below_drew1)⟩⟩
                                    · rw [if_neg c65] at H
                                      exact absurd H (by simp)
                                  · replace c64 := Bool.eq_false_iff.mpr c64
                                    subst c64
                                    rw [if_neg (show ¬ (false = true) by decide)] at H
                                    have H' := Aside0.mk H
                                    clear H
                                    have p256 : 0 ≤ (x16_3 : Int) := of_decide_eq_true (by first | (with_reducible assumption) | assumption)
                                    have q256 : x16_3 < (x7_2.length : Int) := of_decide_eq_true (by first | (with_reducible assumption) | assumption)
                                    obtain ⟨ad256, e256, hx256_0⟩ := Kd.at_bool (Kd.R_reads' HO_7.out).2.2 x16_3 p256 q256
                                    (try rw [← Nbq63.out] at hx256_0)
                                    obtain rfl : (⟨go29, 0, none⟩ : Addr) = ad256 := (by injection e256)
                                    (first | simp only [add_plain] at hx256_0 | simp only [add_at] at hx256_0 | simp only [Addr.add, Nat.zero_add] at hx256_0 | skip)
                                    replace p256 := eq_true p256
                                    replace q256 := eq_true q256
                                    go_wp2
                                    go_roundg k3
                                    case measure => have := HK1.out; have := HK2.out; have := HK3.out; omega
                                    case rel => exact ⟨(x15_3), (wrap64 (x16_3 + 1)), (by first | rfl | (simp; done) | (simp [*]; done)), H', ⟨by have := HK1.out; have := HK2.out; have := HK3.out; omega⟩, ⟨by (try simp only [hl7_2]); (with_reducible repeat (first | apply Kd.R_alloc | apply Kd.R_drewN | apply Kd.R_drew)); exact HO_7.out⟩, ⟨by (try simp only [hl7_2]); (with_reducible repeat (first | apply Kd.R_alloc | apply Kd.R_drewN | apply Kd.R_drew)); exact HO_15.out⟩, ⟨by repeat (first | exact HB.out | apply below_alloc | apply pw_below_drewN | apply below_drew1)⟩⟩
                                · rw [if_neg c62] at H
                                  exact absurd H (by simp)
                              · rw [if_neg c61] at H
                                exact absurd H (by simp)
                            · rw [if_neg c60] at H
                              have c60b0 : decide (x16_3 < (l0.length : Int)) = false := decide_eq_false c60
                              clear c60
                              obtain rfl := Option.some.inj H
                              go_wp2
                              go_ret
                              exact ⟨_, by first | rfl | (simp [errW_none, errW_some] <;> rfl) | (simp [*, errW_none, errW_some] <;> rfl), by (with_reducible repeat (first | apply Kd.R_alloc | apply Kd.R_drewN | apply Kd.R_drew)); exact HO_15.out, by repeat (first | exact HB.out | apply below_alloc | apply pw_below_drewN | apply below_drew1)⟩
                · rw [if_neg c28] at H
                  exact absurd H (by simp)
              · rw [if_neg c27] at H
                exact absurd H (by simp)
            · replace c26 := Bool.eq_false_iff.mpr c26
              subst c26
              rw [if_neg (show ¬ (false = true) by decide)] at H
              obtain rfl := Option.some.inj H
              go_wp2
              go_ret
              exact ⟨_, by first | rfl | (simp [errW_none, errW_some] <;> rfl) | (simp [*, errW_none, errW_some] <;> rfl), by first | exact Kd.R_nil _ _ _ _ _ | exact Kd.N_nil _ _ _ _ _ | exact Kd.V_nil _ _ _ _ _ | exact Kd.Q_nil _ _ _ _ _ | exact Kd.S_nil _ _ _ _ _, by repeat (first | exact HB.out | apply below_alloc | apply pw_below_drewN | apply below_drew1)⟩
    · rw [if_neg c6] at H
      exact absurd H (by simp)
  · rw [if_neg c5] at H
    exact absurd H (by simp)

end Go.Proofs.Ytnmeomdjhjgnfaa.X
end
section
set_option linter.unusedSimpArgs false
set_option linter.unusedVariables false
namespace Go.Proofs.Ytnmeomdjhjgnfaa.X
open Go.RowKit Go.Proofs.YtnmeomdjhjgnfaaW.PrintWords Go.Proofs.YtnmeomdjhjgnfaaW.PrintLast

/-- The reference's walker: rows are asked of next. -/
def roverL (g : List (List Int)) : Nat → Int → List Bool × List Int → Option (List Bool × List Int)
  | 0, _, _ => none
  | k + 1, a, s => (jacquardref02_next.f k g a).bind fun l => (l.foldlM (fun s b => if s.1.getD b.toNat false = true then some s else roverL g k b s) (s.1.set a.toNat true, s.2)).map fun s => (s.1, s.2 ++ [a])
def jacquardref02_Order.f (k : Nat) (l0 : List (List Int)) : Option (List Int) :=
  if okG l0 = true then (if l0.length = 0 then some [] else (roverL l0 k 0 (List.replicate l0.length false, [])).map fun s => s.2.reverse) else none
theorem roverL_mono (g : List (List Int)) : ∀ k a s, LeO (roverL g k a s) (roverL g (k + 1) a s)
  | 0, _, _ => fun r h => by simp [roverL] at h
  | k + 1, a, s => fun r h => by
    have ih := roverL_mono g k
    have key : ∀ (l : List Int) (s : List Bool × List Int), LeO (l.foldlM (fun s b => if s.1.getD b.toNat false = true then some s else roverL g k b s) s)
        (l.foldlM (fun s b => if s.1.getD b.toNat false = true then some s else roverL g (k + 1) b s) s) := by
      intro l
      induction l with
      | nil => intro s; exact LeO.refl _
      | cons b l ihl =>
        intro s
        simp only [List.foldlM_cons]
        refine LeO.bind ?_ (fun _ => ihl _)
        exact LeO.ite (LeO.refl _) (ih b s)
    rw [roverL] at h ⊢
    exact LeO.bind (jacquardref02_next.mono _ _ _) (fun _ => LeO.map _ (key _ _)) r h
theorem jacquardref02_Order.mono (k : Nat) (l0 : List (List Int)) : LeO (jacquardref02_Order.f k l0) (jacquardref02_Order.f (k + 1) l0) := by
  unfold jacquardref02_Order.f
  exact LeO.ite (LeO.ite (LeO.refl _) (LeO.map _ (roverL_mono _ _ _ _))) (LeO.refl _)

theorem next_in_l0 (g : List (List Int)) (hg : g.length ≤ 1000000) (a : Int) : ∀ (k : Nat) (x5 : List Int) (x6 : Int) (r : List Int), jacquardref02_next.l0 k g a x5 x6 = some r → (∀ b ∈ x5, 0 ≤ b ∧ b < g.length) → 0 ≤ x6 → ∀ b ∈ r, 0 ≤ b ∧ b < (g.length : Int) := by
  intro k
  induction k with
  | zero => intro x5 x6 r h; simp [jacquardref02_next.l0] at h
  | succ k ih =>
    intro x5 x6 r h h5 h6
    rw [jacquardref02_next.l0] at h
    by_cases hlt : x6 < (g.length : Int)
    · rw [if_pos hlt] at h
      obtain ⟨t, _, h⟩ := Option.bind_eq_some_iff.1 h
      have hw : wrap64 (x6 + 1) = x6 + 1 := by unfold wrap64; omega
      rw [hw] at h
      split at h
      · split at h
        · refine ih _ _ r h (fun b hb => ?_) (by omega)
          rcases List.mem_append.1 hb with hb | hb
          · exact h5 b hb
          · rw [List.mem_singleton.1 hb]; omega
        · cases h
      · exact ih _ _ r h h5 (by omega)
    · rw [if_neg hlt] at h
      cases h
      exact h5
theorem next_in (g : List (List Int)) (hg : g.length ≤ 1000000) (a : Int) (k : Nat) (r : List Int) (h : jacquardref02_next.f k g a = some r) : ∀ b ∈ r, 0 ≤ b ∧ b < (g.length : Int) :=
  next_in_l0 g hg a k [] 0 r h (fun b hb => by cases hb) (Int.le_refl 0)
def roverStep (g : List (List Int)) (k : Nat) (s : List Bool × List Int) (b : Int) : Option (List Bool × List Int) :=
  if s.1.getD b.toNat false = true then some s else roverL g k b s
theorem roverL_eq (g : List (List Int)) (k : Nat) (a : Int) (s : List Bool × List Int) :
    roverL g (k + 1) a s = (jacquardref02_next.f k g a).bind fun l => (l.foldlM (roverStep g k) (s.1.set a.toNat true, s.2)).map fun s => (s.1, s.2 ++ [a]) := rfl
theorem rover_good (g : List (List Int)) (hg : g.length ≤ 1000000) : ∀ (k : Nat) (a : Int) (s s' : List Bool × List Int) (c : Nat),
    roverL g k a s = some s' → s.1.length = g.length → 0 ≤ a → a < g.length → s.1.getD a.toNat false = false → s.2.length + c ≤ s.1.count true →
    s'.1.length = g.length ∧ s'.2.length + c ≤ s'.1.count true := by
  intro k
  induction k with
  | zero => intro a s s' c h; simp [roverL] at h
  | succ k ih =>
    have key : ∀ (l : List Int) (s s' : List Bool × List Int) (c : Nat), (∀ b ∈ l, 0 ≤ b ∧ b < (g.length : Int)) → l.foldlM (roverStep g k) s = some s' → s.1.length = g.length → s.2.length + c ≤ s.1.count true →
        s'.1.length = g.length ∧ s'.2.length + c ≤ s'.1.count true := by
      intro l
      induction l with
      | nil => intro s s' c _ h h1 h2; simp only [List.foldlM_nil] at h; cases h; exact ⟨h1, h2⟩
      | cons b l ihl =>
        intro s s' c hl h h1 h2
        rw [List.foldlM_cons] at h
        obtain ⟨s1, hs1, h⟩ := Option.bind_eq_some_iff.1 h
        have hb := hl b (by simp)
        unfold roverStep at hs1
        by_cases ht : s.1.getD b.toNat false = true
        · rw [if_pos ht] at hs1
          cases hs1
          exact ihl s s' c (fun x hx => hl x (by simp [hx])) h h1 h2
        · rw [if_neg ht] at hs1
          obtain ⟨g1, g2⟩ := ih b s s1 c hs1 h1 hb.1 hb.2 (by simpa using ht) h2
          exact ihl s1 s' c (fun x hx => hl x (by simp [hx])) h g1 g2
    intro a s s' c h h1 ha0 ha1 ht h2
    rw [roverL_eq] at h
    obtain ⟨l, hl, h⟩ := Option.bind_eq_some_iff.1 h
    obtain ⟨s1, hs1, rfl⟩ := Option.map_eq_some_iff.1 h
    have hcs := count_set s.1 a.toNat (by omega) ht
    have := key _ _ _ (c + 1) (next_in g hg a k l hl) hs1 (by simpa using h1) (by simp only [hcs]; omega)
    exact ⟨this.1, by simp; omega⟩

/-- What lies in memory while the walker goes; W1: the world when it set out. -/
structure RvInv (W1 : World) (gt bw cT : Nat) (W : World) (there : List Bool) (out : List Int) (vout : Value) : Prop where
  bel : Below W1.heap.size W1 W
  ge : W1.heap.size ≤ gt ∧ W1.heap.size ≤ bw
  hw : W.heap[bw]? = some (.cells #[.slice (some ⟨gt, 0, none⟩) there.length cT, vout] 129 (0, 0))
  T : Kd.R Kd.bool 4 W W1.heap.size (fun _ => True) (.slice (some ⟨gt, 0, none⟩) there.length cT) there
  O : Kd.R (Kd.int .i64) 3 W W1.heap.size (fun _ => True) vout out
theorem RvInv.seen {W1 W : World} {gt bw cT : Nat} {there : List Bool} {out : List Int} {vout : Value} (h : RvInv W1 gt bw cT W there out vout) (i : Nat) (hi : i < there.length) :
    RvInv W1 gt bw cT (W.setCell ⟨gt, i, none⟩ (.bool true)) (there.set i true) out vout := by
  obtain ⟨cg, hcg⟩ := Kd.R_typed h.T gt rfl
  refine ⟨h.bel.setCell (p := ⟨gt, i, none⟩) h.ge.1 _, h.ge, ?_, ?_, Kd.R_set h.O hcg (by decide) i _⟩
  · rw [List.length_set]; exact blk_far h.hw (blk_ne h.hw hcg (by decide)) _
  · have := Kd.R_put h.T (i : Int) true
    rw [List.length_set]
    exact this.1
theorem RvInv.left {W1 W W2 : World} {gt bw cT : Nat} {there : List Bool} {out out2 : List Int} {vout v2 : Value} (h : RvInv W1 gt bw cT W there out vout)
    (hg : W.grownBy W2 vout.ownBlock) (hO : Kd.R (Kd.int .i64) 3 W2 W1.heap.size (fun _ => True) v2 out2) : RvInv W1 gt bw cT (W2.setCell ⟨bw, 1, none⟩ v2) there out2 v2 := by
  have e2 := blk_grown h.hw hg (Kd.R_ne h.O h.hw (by decide))
  have T2 := Kd.R_over' h.T (Kd.R_typed h.O) (by decide) hg
  refine ⟨(h.bel.grown hg h.bel.size (fun k hk => Kd.R_base h.O k hk)).setCell (p := ⟨bw, 1, none⟩) h.ge.2 _, h.ge, ?_, ?_, ?_⟩
  · simpa using blk_set e2 1 v2
  · exact Kd.R_set T2 e2 (by decide) 1 _
  · exact Kd.R_set hO e2 (by decide) 1 _
theorem RvInv.below {W1 W W2 : World} {gt bw cT : Nat} {there : List Bool} {out : List Int} {vout : Value} (h : RvInv W1 gt bw cT W there out vout) (hb : Below W.heap.size W W2) : RvInv W1 gt bw cT W2 there out vout :=
  ⟨h.bel.trans (hb.mono h.bel.size), h.ge, (hb.block _ (blk_lt h.hw)).trans h.hw, Kd.R_below h.T hb, Kd.R_below h.O hb⟩
theorem RvInv.cells {W1 W : World} {gt bw cT : Nat} {there : List Bool} {out : List Int} {vout : Value} (h : RvInv W1 gt bw cT W there out vout) :
    W.cell? ⟨bw, 0, none⟩ = some (.slice (some ⟨gt, 0, none⟩) there.length cT) ∧ W.cell? ⟨bw, 1, none⟩ = some vout ∧ W.frozen? ⟨bw, 1, none⟩ = false :=
  ⟨by simpa using blk_cell h.hw 0, by simpa using blk_cell h.hw 1, blk_frozen h.hw 1⟩

/-- What a walk keeps beside the walker's own. -/
structure RvFr (gt bw : Nat) (W : World) (vout : Value) (W' : World) (vout' : Value) : Prop where
  size : W.heap.size ≤ W'.heap.size
  keep : ∀ k, k < W.heap.size → k ≠ gt → k ≠ bw → some k ≠ vout.ownBlock → W'.heap[k]? = W.heap[k]?
  own : vout'.ownBlock = vout.ownBlock ∨ ∃ k, vout'.ownBlock = some k ∧ W.heap.size ≤ k
theorem RvFr.refl (gt bw : Nat) (W : World) (vout : Value) : RvFr gt bw W vout W vout := ⟨Nat.le_refl _, fun _ _ _ _ _ => rfl, .inl rfl⟩
theorem RvFr.trans {gt bw : Nat} {W X Y : World} {v x y : Value} (h : RvFr gt bw W v X x) (k : RvFr gt bw X x Y y) : RvFr gt bw W v Y y := by
  refine ⟨Nat.le_trans h.size k.size, fun i hi h1 h2 h3 => ?_, ?_⟩
  · refine (k.keep i (Nat.lt_of_lt_of_le hi h.size) h1 h2 (fun e => ?_)).trans (h.keep i hi h1 h2 h3)
    rcases h.own with ho | ⟨j, ho, hj⟩
    · exact h3 (e.trans ho)
    · rw [ho] at e; injection e with e; omega
  · rcases k.own with ho | ⟨j, ho, hj⟩
    · rw [ho]; exact h.own
    · exact .inr ⟨j, ho, Nat.le_trans h.size hj⟩
theorem RvFr.of_below {gt bw : Nat} {W X : World} {v : Value} (h : Below W.heap.size W X) : RvFr gt bw W v X v := ⟨h.size, fun k hk _ _ _ => h.block k hk, .inl rfl⟩
theorem RvFr.set0 {gt bw i : Nat} {W : World} {v u : Value} : RvFr gt bw W v (W.setCell ⟨gt, i, none⟩ u) v := ⟨by simp [World.setCell], fun k _ h1 _ _ => Below.heap_setCell W ⟨gt, i, none⟩ u k h1, .inl rfl⟩
theorem RvFr.put {gt bw i : Nat} {W X : World} {v v' u : Value} (hg : W.grownBy X v.ownBlock) (hat : v'.ownBlock = v.ownBlock ∨ ∃ k, v'.ownBlock = some k ∧ W.heap.size ≤ k) : RvFr gt bw W v (X.setCell ⟨bw, i, none⟩ u) v' :=
  ⟨by have := hg.size; simpa [World.setCell] using this, fun k hk _ h2 h3 => (Below.heap_setCell X ⟨bw, i, none⟩ u k h2).trans (hg.block k hk h3), hat⟩
set_option maxHeartbeats 4000000 in
set_option maxRecDepth 100000 in
theorem rover_calls (W1 : World) (A0 : Option Addr) (c0 : Nat) (g : List (List Int)) (gt bw cT : Nat) (hC : Kd.C (Kd.slice 3 (Kd.int .i64)) W1 A0 g.length g) (hc0 : g.length ≤ c0) (hg : g.length ≤ 1000000) :
    ∀ (k : Nat) (a : Int) (there : List Bool) (out : List Int) (s' : List Bool × List Int) (c : Nat) (W : World) (vout : Value),
    RvInv W1 gt bw cT W there out vout → there.length = g.length → out.length + c ≤ there.count true → 0 ≤ a → a < g.length → there.getD a.toNat false = false → roverL g k a (there, out) = some s' →
    Calls Try.prog 97 #[.pointer (some ⟨bw, 0, none⟩), .slice A0 g.length c0, .int .i64 a] W fun e W' =>
      e = .returned (.tuple #[]) ∧ ∃ vout', RvInv W1 gt bw cT W' s'.1 s'.2 vout' ∧ RvFr gt bw W vout W' vout' := by
  intro k
  induction k with
  | zero => intro a there out s' c W vout _ _ _ _ _ _ h; simp [roverL] at h
  | succ k ih =>
    intro a there out s' c W vout hI hl hcn ha0 ha1 hta h
    have IH := Aside0.mk ih
    clear ih
    rw [roverL_eq] at h
    obtain ⟨l, hnx, h⟩ := Option.bind_eq_some_iff.1 h
    obtain ⟨s1, hs1, rfl⟩ := Option.map_eq_some_iff.1 h
    have HS := Aside0.mk hs1
    have HNX := Aside0.mk hnx
    have HC := Aside0.mk hC
    have HC0 := Aside0.mk hc0
    have HL := Aside0.mk hl
    have HIn := Aside0.mk (next_in g hg a k l hnx)
    have hcs := Aside0.mk (count_set there a.toNat (by omega) hta)
    have HCN := Aside0.mk hcn
    have HI := Aside0.mk hI
    clear h hs1 hcn hl hI hta hC hnx hc0
    obtain ⟨ct, _, _⟩ := HI.out.cells
    obtain ⟨cg, fg⟩ := Kd.R_cell false HI.out.T a ha0 (by have := HL.out; omega)
    have hat : a < there.length := by have := HL.out; omega
    go_enter Try.func97, Try.ntmps97
    go_wp2_with ((with_reducible refine gate_store (t := 4) (p := 13) rfl ?_); refine store_event (t := 4) (p := 13) (v := ?vo) (w1 := W.setCell ⟨gt, a.toNat, none⟩ (.bool true)) ?hg ?ho ?hn ?hr ?_; (case ho => rfl); (case hg => rfl); (case hn => rfl); (case hr => first | (go_simp; done) | (go_simp; rfl)); intro w2 hw; have I2 := Aside0.mk (show RvInv W1 gt bw cT w2 (there.set a.toNat true) out vout from by rw [hw]; exact HI.out.seen a.toNat (by omega)); have F2 := Aside0.mk (show RvFr gt bw W vout w2 vout from by rw [hw]; exact RvFr.set0); clear hw ct cg fg HI)
    refine (jacquardref02_next.calls k A0 c0 g a l _ (Kd.C_below HC.out I2.out.bel) HC0.out HNX.out).mono ?_
    rintro e W3 ⟨vl, rfl, hRl, hB3⟩
    obtain ⟨Al, cl, rfl⟩ := Kd.R_slice hRl
    have HRl := Aside0.mk hRl
    have I3 := Aside0.mk (I2.out.below hB3)
    have F3 := Aside0.mk (F2.out.trans (RvFr.of_below hB3))
    have hgt2 : gt < w2.heap.size := Kd.R_lt I2.out.T gt rfl
    have hbw2 : bw < w2.heap.size := blk_lt I2.out.hw
    have HOW : Aside0 (∀ k, vout.ownBlock = some k → k < w2.heap.size) := ⟨fun k hk => Kd.R_lt I2.out.O k hk⟩
    have hlmax : l.length ≤ 9223372036854775807 := Kd.C_max (Kd.R_reads' hRl).2.2
    clear hRl hB3 I2 F2
    go_wp2
    go_loopg [7] l.length (fun kq v7 w' => ∃ (i : Nat) (t : List Bool) (o : List Int) (vo : Value), v7 = .int .i64 i ∧ Aside0 (kq + i = l.length) ∧ Aside0 (List.foldlM (roverStep g k) (t, o) (l.drop i) = some s1) ∧ Aside0 (t.length = g.length ∧ o.length + (c + 1) ≤ t.count true) ∧ Aside0 (RvInv W1 gt bw cT w' t o vo) ∧ Aside0 (RvFr gt bw W3 vout w' vo))
    case atStart => exact ⟨0, _, _, _, rfl, ⟨rfl⟩, ⟨by simpa using HS.out⟩, ⟨by simpa using HL.out, by have := hcs.out; have := HCN.out; omega⟩, I3, ⟨RvFr.refl _ _ _ _⟩⟩
    case round =>
      obtain ⟨i, t, o, vo, rfl, HK, HF, HG, HI, HFr⟩ := hrel
      clear I3 hcs HCN hat HS
      cases gk with
      | zero =>
        have hi : i = l.length := by have := HK.out; omega
        subst hi
        have he : (t, o) = s1 := by have := HF.out; rw [List.drop_length] at this; simpa using this
        subst he
        have HOL : Aside0 (o.length < 1000001) := ⟨by have h1 := HG.out; have h2 := List.count_le_length (a := true) (l := t); omega⟩
        obtain ⟨cw, cu, fu⟩ := HI.out.cells
        go_wp2_with (first | ((with_reducible refine gate_builtin (b := .append) (xs := #[.tmp 45, .tmp 47]) rfl ?_); at_builtin; refine Kd.R_append (Kd.int .i64) (w0 := W1) W1.heap.size rfl (.tmp 45) (.tmp 47) 23 3 (.int .i64 0) 8 rfl Try.underlying23 info3 rfl (by decide) (by omega) vo o a [.int .i64 a] (fun _ => True) (fun _ => False) rfl rfl ?aP (fun _ hk => hk.elim) ?aF ?aO ?aB ?aS ?aL ?_; (case aP => exact rfl); (case aB => exact HI.out.bel); (case aF => exact (fun _ _ => trivial)); (case aO => exact HI.out.O); (case aS => exact HI.out.bel.size); (case aL => have := HOL.out; omega); intro v154 w7 ho hb hg hat; have HI2 := HI.out; have hu7 := blk_grown HI2.hw hg (Kd.R_ne HI2.O HI2.hw (by decide)); have cu7 : w7.cell? ⟨bw, 1, none⟩ = some vo := (by simpa using blk_cell hu7 1); have fu7 : w7.frozen? ⟨bw, 1, none⟩ = false := blk_frozen hu7 1; have HI3 := Aside0.mk (HI2.left hg ho); have HF4 : Aside0 (RvFr gt bw wr vo (w7.setCell ⟨bw, 1, none⟩ v154) v154) := ⟨RvFr.put hg hat⟩; obtain ⟨A7, n7, c7, e7⟩ : ∃ A n c, v154 = .slice A n c := ⟨_, _, _, (Kd.R_slice ho).choose_spec.choose_spec⟩; clear HI2 hu7 ho hb hg hat cu fu; subst e7) | ((with_reducible refine gate_store (t := 23) (p := 50) rfl ?_); refine store_event (t := 23) (p := 50) (v := ?vo) (w1 := ?w1) ?hg ?ho ?hn ?hr ?_; (case ho => rfl); (case hg => rfl); (case hn => rfl); (case hr => first | (go_simp; done) | (go_simp; rfl)); intro w8 hw; subst hw))
        go_end0
        exact ⟨rfl, _, HI3.out, F3.out.trans (HFr.out.trans HF4.out)⟩
      | succ k1 =>
        have hi : i < l.length := by have := HK.out; omega
        have HRi := Aside0.mk (Kd.R_step (Kd.R_bound HRl.out) (w1 := wr) (fun k hk hlt => HFr.out.keep k hlt (by have := hk.2.1; omega) (by have := hk.2.1; omega) (fun e => by have := hk.2.1; have := HOW.out k e.symm; omega)))
        obtain ⟨ae, rfl, hb0⟩ := Kd.at_int (Kd.R_reads' HRi.out).2.2 (i : Int) (by omega) (by omega)
        simp only [Int.toNat_natCast] at hb0
        obtain ⟨hbn, hbm⟩ := HIn.out (rd l i) (by
          have e : rd l i = l[i] := by simp [rd, hi]
          rw [e]; exact List.getElem_mem _)
        have hbt : rd l i < t.length := by have := HG.out.1; omega
        obtain ⟨ct, _⟩ := Kd.R_cell false HI.out.T (rd l i) hbn hbt
        obtain ⟨cth, _, _⟩ := HI.out.cells
        have HF2 := HF.out
        have ed : l.drop i = rd l i :: l.drop (i + 1) := by
          rw [List.drop_eq_getElem_cons hi]; simp [rd, hi]
        rw [ed, List.foldlM_cons] at HF2
        obtain ⟨s2, hs2, hF2⟩ := Option.bind_eq_some_iff.1 HF2
        have HF3 := Aside0.mk hF2
        clear HF2 HF ed hF2
        unfold roverStep at hs2
        have eqt : t.getD (rd l i).toNat false = rdOf false t (rd l i) := rfl
        cases hv : rdOf false t (rd l i) with
        | true =>
          rw [hv] at ct
          rw [eqt, hv, if_pos rfl] at hs2
          have hs2' := Option.some.inj hs2
          subst hs2'
          clear hv eqt hs2
          go_wp2
          go_quiet (fail)
          go_wp2
          go_roundg k1
          case measure => omega
          case rel => exact ⟨i + 1, t, o, vo, by go_num, ⟨by have := HK.out; omega⟩, HF3, HG, ⟨HI.out.below (pw_below_drewN (Below.refl _ _) _)⟩, ⟨HFr.out.trans (RvFr.of_below (pw_below_drewN (Below.refl _ _) _))⟩⟩
        | false =>
          rw [hv] at ct
          rw [eqt, hv, if_neg (by decide)] at hs2
          have HX := Aside0.mk hs2
          have HTF : Aside0 (t.getD (rd l i).toNat false = false) := ⟨by rw [eqt]; exact hv⟩
          clear hv eqt hs2
          have HG2 := Aside0.mk (rover_good g hg k _ _ _ (c + 1) HX.out HG.out.1 hbn hbm HTF.out HG.out.2)
          go_wp2
          go_quiet (fail)
          go_wp2_with fail
          refine (IH.out (rd l i) t o s2 (c + 1) _ vo (HI.out.below (pw_below_drewN (Below.refl _ _) _)) HG.out.1 HG.out.2 hbn hbm HTF.out HX.out).mono ?_
          rintro e w9 ⟨rfl, v9, hI9, hF9⟩
          have HI9 := Aside0.mk hI9
          have HFr9 := Aside0.mk (HFr.out.trans ((RvFr.of_below (pw_below_drewN (Below.refl _ _) _)).trans hF9))
          clear hI9 hF9 cth ct hb0 HI HRi
          go_wp2
          go_roundg k1
          case measure => omega
          case rel => exact ⟨i + 1, s2.1, s2.2, v9, by go_num, ⟨by have := HK.out; omega⟩, HF3, HG2, HI9, HFr9⟩
set_option maxHeartbeats 4000000 in
set_option maxRecDepth 100000 in
theorem jacquardref02_Order.calls (k : Nat) (A0 : Option Addr) (c0 : Nat) (l0 : List (List Int)) (r : List Int) (w : World) (hr0 : Kd.C (Kd.slice 3 (Kd.int .i64)) w A0 l0.length l0) (hc0 : l0.length ≤ c0) (h : jacquardref02_Order.f k l0 = some r) :
    Calls Try.prog 63 #[.slice A0 l0.length c0] w fun e w' => ∃ v0_ : Value, e = .returned (v0_) ∧ Kd.R (Kd.int .i64) 3 w' w.heap.size (fun _ => True) v0_ r ∧ Below w.heap.size w w' := by
  have hok : okG l0 = true := by
    cases hk : okG l0 with
    | true => rfl
    | false => simp [jacquardref02_Order.f, hk] at h
  have hlen := (okG_len hok).1
  have HR0 := Aside0.mk hr0
  have HC0 := Aside0.mk hc0
  clear hr0 hc0
  unfold jacquardref02_Order.f at h
  rw [if_pos hok] at h
  by_cases hz : l0.length = 0
  · rw [if_pos hz] at h
    have HE := Aside0.mk (Option.some.inj h)
    have hz2 : ((l0.length : Int) == 0) = true := by simp [hz]
    have hz3 : l0 = [] := List.length_eq_zero_iff.1 hz
    clear h hok hz
    subst hz3
    go_enter Try.func63, Try.ntmps63
    go_wp2
    go_ret
    exact ⟨_, rfl, by rw [← HE.out]; exact Kd.R_nil _ _ _ _ _, Below.refl _ _⟩
  · rw [if_neg hz] at h
    obtain ⟨s', hs', hr⟩ := Option.map_eq_some_iff.1 h
    have hz2 : ((l0.length : Int) == 0) = false := by simpa using hz
    have hz4 : 0 < l0.length := by omega
    have HS := Aside0.mk hs'
    have HE := Aside0.mk hr
    clear h hr hs' hok hz
    go_enter Try.func63, Try.ntmps63
    go_wp2_with ((with_reducible refine gate_dst (N := 11) rfl ?_); refine Kd.R_make Kd.bool (w0 := w) w.heap.size 4 rfl (N := 11) rfl 32 _ _ rfl (l0.length : Int) rfl rfl Try.underlying32 (.bool false) 1 info4 rfl (by decide) (by omega) false (ok := fun _ => True) (okp := fun _ => True) rfl (fun _ hk => hk) trivial (by omega) (by omega) (Below.refl _ _) (Nat.le_refl _) ?_; intro v1 w6 hT hB6 hg6 hn6; rw [Int.toNat_natCast] at hT; obtain ⟨gt, cT, e1, hgt, _, _⟩ := Kd.R_form hT (by simpa using hz4); subst e1; rw [List.length_replicate] at hT; have HT := Aside0.mk hT; have HB6 := Aside0.mk hB6; have HG := Aside0.mk hgt; rw [List.length_replicate]; clear hT hB6 hg6 hn6 hgt)
    have hI : RvInv w gt w6.heap.size cT (w6.alloc (.cells #[.slice (some ⟨gt, 0, none⟩) l0.length cT, .slice none 0 0] 129)) (List.replicate l0.length false) [] (.slice none 0 0) := by
      have hs6 := HB6.out.size
      refine ⟨below_alloc HB6.out _, ⟨HG.out, hs6⟩, ?_, ?_, Kd.R_nil _ _ _ _ _⟩
      · rw [List.length_replicate]; exact heap_alloc_new w6 _
      · rw [List.length_replicate]; exact Kd.R_alloc HT.out _
    have HI := Aside0.mk hI
    clear hI
    refine (rover_calls w A0 c0 l0 gt w6.heap.size cT HR0.out HC0.out hlen k 0 (List.replicate l0.length false) [] s' 0 _ _ HI.out (by simp) (by simp) (by omega) (by omega) (by simp [List.getD_eq_getElem?_getD, List.getElem?_replicate, hz4]) HS.out).mono ?_
    rintro e w8 ⟨rfl, vo, hI8, _⟩
    have HI8 := Aside0.mk hI8
    clear hI8
    obtain ⟨_, cu, _⟩ := HI8.out.cells
    have HLn := Aside0.mk (rover_good l0 hlen k 0 _ _ 0 HS.out (by simp) (by omega) (by omega) (by simp [List.getD_eq_getElem?_getD, List.getElem?_replicate, hz4]) (by simp))
    have hl2 : s'.2.length ≤ 1000000 := by
      have h1 := HLn.out
      have h2 := List.count_le_length (a := true) (l := s'.1)
      omega
    obtain ⟨Av, n, cv, rfl⟩ : ∃ A n c, vo = .slice A n c := ⟨_, _, _, (Kd.R_slice HI8.out.O).choose_spec.choose_spec⟩
    have hn : n = s'.2.length := (Kd.R_reads' HI8.out.O).1
    subst hn
    have hsub : wrap64 ((s'.2.length : Int) - 1) = (s'.2.length : Int) - 1 := by unfold wrap64; omega
    go_wp2
    clear cu hsub
    go_loopg [4, 5] s'.2.length (fun kq v4 v5 w' => ∃ m : Nat, v5 = .int .i64 ((s'.2.length : Int) - 1 - m) ∧ Aside0 (kq + m = s'.2.length) ∧ Aside0 (Kd.R (Kd.int .i64) 3 w' w8.heap.size (fun _ => True) v4 (s'.2.reverse.take m)) ∧ Aside0 (Below w8.heap.size w8 w'))
    case atStart => exact ⟨0, by simp, ⟨rfl⟩, ⟨by simpa using Kd.R_nil _ _ _ _ _⟩, ⟨Below.refl _ _⟩⟩
    case round =>
      obtain ⟨m, rfl, HK, HO, HB⟩ := hrel
      cases gk with
      | zero =>
        have hm : m = s'.2.length := by have := HK.out; omega
        subst hm
        have hneg : decide (0 ≤ (s'.2.length : Int) - 1 - (s'.2.length : Int)) = false := decide_eq_false (by omega)
        have HRE : Aside0 (s'.2.reverse.take s'.2.length = r) := ⟨by rw [List.take_of_length_le (by simp)]; exact HE.out⟩
        go_wp2
        go_ret
        exact ⟨_, rfl, by rw [← HRE.out]; exact Kd.R_lower HO.out HI8.out.bel.size, HI8.out.bel.trans (HB.out.mono HI8.out.bel.size)⟩
      | succ k1 =>
        have hm : m < s'.2.length := by have := HK.out; omega
        have hpos : 0 ≤ (s'.2.length : Int) - 1 - m := by omega
        have hlt : (s'.2.length : Int) - 1 - m < s'.2.length := by omega
        obtain ⟨ae, rfl, hb0⟩ := Kd.at_int (Kd.R_reads' HI8.out.O).2.2 ((s'.2.length : Int) - 1 - m) hpos hlt
        replace hb0 := (HB.out.cell (World.block_lt_of_cell? _ _ hb0)).trans hb0
        obtain ⟨_, cu, _⟩ := HI8.out.cells
        replace cu := (HB.out.cell (World.block_lt_of_cell? _ _ cu)).trans cu
        have hposd : decide (0 ≤ (s'.2.length : Int) - 1 - m) = true := decide_eq_true hpos
        have hwr : wrap64 ((s'.2.length : Int) - 1 - m - 1) = (s'.2.length : Int) - 1 - ((m + 1 : Nat) : Int) := by unfold wrap64; omega
        have HF : Aside0 (s'.2.reverse.take (m + 1) = s'.2.reverse.take m ++ [rd s'.2 ((s'.2.length : Int) - 1 - m)]) := ⟨by
          rw [List.take_succ_eq_append_getElem (by simpa using hm), List.getElem_reverse]
          congr 2
          unfold rd
          rw [List.getD_eq_getElem?_getD, List.getElem?_eq_getElem (by omega)]
          simp only [Option.getD_some]
          congr 1
          omega⟩
        have HLE : Aside0 ((s'.2.reverse.take m).length ≤ 1000000) := ⟨by simp; omega⟩
        obtain ⟨x, hx⟩ : ∃ x, (s'.2.length : Int) - 1 - m = x := ⟨_, rfl⟩
        rw [hx] at hpos hlt hb0 hposd hwr HF ⊢
        have HXX := Aside0.mk hx
        clear hx
        go_wp2_with (first | ((with_reducible refine gate_builtin (b := .append) (xs := #[.tmp 27, .tmp 35]) rfl ?_); at_builtin; refine Kd.R_append (Kd.int .i64) (w0 := w8) (W := wr) w8.heap.size rfl (.tmp 27) (.tmp 35) 23 3 (.int .i64 0) 8 rfl Try.underlying23 info3 rfl (by decide) (by omega) u4 (s'.2.reverse.take m) (rd s'.2 x) [.int .i64 (rd s'.2 x)] (fun _ => True) (fun _ => False) rfl rfl ?aP (fun _ hk => hk.elim) ?aF ?aO ?aB ?aS ?aL ?_; (case aP => rfl); (case aF => exact fun _ _ => trivial); (case aO => exact HO.out); (case aB => exact HB.out); (case aS => exact HB.out.size); (case aL => have := HLE.out; omega); intro v36 W9 ho hb hg hat; rw [← HF.out] at ho; have HO9 := Aside0.mk ho; have HB9 := Aside0.mk hb; clear ho hb hg hat HO HB) | fail)
        go_roundg k1
        case measure => omega
        case rel => exact ⟨m + 1, by have := HXX.out; simp; omega, ⟨by have := HK.out; omega⟩, HO9, HB9⟩
theorem eq3 (d : Nat) (w : World) (a c : Int) : (Op.equalIn (d + 1) 3 (.int .i64 a) (.int .i64 c)).run Try.prog w = .ok (a == c) w := by
  have h3 : Try.prog.underlying 3 = some (.int .i64) := by kernel_rfl
  simp [Op.equalIn, run_underlying h3]
theorem part73a (w : World) (a b : Int) : (part 3 #[.int .i64 a, .int .i64 b] 0).run Try.prog w = .ok (.int .i64 a) w := by kernel_rfl
theorem part73b (w : World) (a b : Int) : (part 3 #[.int .i64 a, .int .i64 b] 1).run Try.prog w = .ok (.int .i64 b) w := by kernel_rfl
theorem size3 (w : World) : (sizeOf 3).run Try.prog w = .ok 1 w := by kernel_rfl
theorem eq73 (d : Nat) (w : World) (a b c e : Int) : (Op.equalIn (d + 2) 73 (.agg #[.int .i64 a, .int .i64 b]) (.agg #[.int .i64 c, .int .i64 e])).run Try.prog w = .ok (a == c && b == e) w := by
  have h73 : Try.prog.underlying 73 = some (.array 2 3) := by kernel_rfl
  rw [Op.equalIn]
  simp only [Sem.run_bind, run_underlying h73, Result.andThen_ok, size3]
  simp only [Std.Legacy.Range.forIn_eq_forIn_range', Std.Legacy.Range.size]
  by_cases h1 : a = c <;> by_cases h2 : b = e <;> simp [List.range'_succ, part73a, part73b, eq3, h1, h2]
theorem neq73 (w : World) (a b c e : Int) : (binOp .neq 73 (.agg #[.int .i64 a, .int .i64 b]) (.agg #[.int .i64 c, .int .i64 e])).run Try.prog w = .ok (.bool (!(a == c && b == e))) w := by
  simp only [binOp]
  simp [Op.equal, Op.maxDepth, eq73 9998 w a b c e]

def pr (s : S73) : Int × Int := (s.f0, s.f1)
theorem pairs_at (l0 l1 : List S73) (hl : l0.length = l1.length) : (l0.map pr = l1.map pr) ↔ ∀ i : Nat, i < l0.length → (rd_T73 l0 i).f0 = (rd_T73 l1 i).f0 ∧ (rd_T73 l0 i).f1 = (rd_T73 l1 i).f1 := by
  constructor
  · intro h i hi
    have := congrArg (fun l => l[i]?) h
    have hi1 : i < l1.length := hl ▸ hi
    simp only [List.getElem?_map, List.getElem?_eq_getElem hi, List.getElem?_eq_getElem hi1, Option.map_some, pr, Option.some.injEq, Prod.mk.injEq] at this
    simpa [rd_T73, List.getD_eq_getElem?_getD, hi, hi1] using this
  · intro h
    refine List.ext_getElem (by simpa using hl) ?_
    intro i h0 h1
    simp only [List.length_map] at h0 h1
    have := h i h0
    simp [rd_T73, List.getD_eq_getElem?_getD, h0, h1] at this
    simp [pr, this.1, this.2]
set_option maxHeartbeats 4000000 in
set_option maxRecDepth 100000 in
theorem jacquardref02_Pairs.calls (A0 : Option Addr) (c0 : Nat) (l0 : List S73) (A1 : Option Addr) (c1 : Nat) (l1 : List S73) (r : Bool) (w : World) (hr0 : Kd.C k73 w A0 l0.length l0) (hc0 : l0.length ≤ c0) (hr1 : Kd.C k73 w A1 l1.length l1) (hc1 : l1.length ≤ c1) (h : jacquardref02_Pairs.f l0 l1 = some r) :
    Calls Try.prog 61 #[.slice A0 l0.length c0, .slice A1 l1.length c1] w fun e w' => e = .returned (.bool r) ∧ Drawn0 w w' := by
  have HR0 := Aside0.mk hr0
  have HR1 := Aside0.mk hr1
  have HF : Aside0 (r = decide (l0.map pr = l1.map pr)) := ⟨by unfold jacquardref02_Pairs.f at h; exact (Option.some.inj h).symm⟩
  have hm0 : l0.length ≤ 9223372036854775807 := Kd.C_max hr0
  clear hr0 hr1 h hc0 hc1
  have hu73 := Try.underlying73
  have hneq := fun w a b c e => neq73 w a b c e
  by_cases hl : l0.length = l1.length
  · have HL := Aside0.mk hl
    clear hl
    have e1 : ((l0.length : Int) == (l1.length : Int)) = true := by rw [HL.out]; simp
    have e2 : ((l0.length : Int) != (l1.length : Int)) = false := by rw [HL.out]; simp
    go_enter Try.func61, Try.ntmps61
    go_wp2
    go_loopg [5] (l0.length) (fun kq v5 w' => ∃ i : Nat, v5 = .int .i64 i ∧ Aside0 (kq + i = l0.length) ∧ Aside0 (∀ j : Nat, j < i → (rd_T73 l0 j).f0 = (rd_T73 l1 j).f0 ∧ (rd_T73 l0 j).f1 = (rd_T73 l1 j).f1) ∧ Aside0 (Drawn0 w w'))
    case atStart => exact ⟨0, rfl, ⟨rfl⟩, ⟨fun j hj => by omega⟩, ⟨Drawn0.refl w⟩⟩
    case round =>
      obtain ⟨i, rfl, HI, HA, HD⟩ := hrel
      clear e1 e2
      cases gk with
      | zero =>
        have hi : i = l0.length := by have := HI.out; omega
        subst hi
        have HR : Aside0 (r = true) := ⟨by rw [HF.out]; exact decide_eq_true ((pairs_at l0 l1 HL.out).2 HA.out)⟩
        go_wp2
        go_ret
        exact ⟨by rw [HR.out]; rfl, HD.out⟩
      | succ k1 =>
        have hi : i < l0.length := by have := HI.out; omega
        obtain ⟨ad, rfl, h00, h01⟩ := at_T73 HR0.out (i : Int) (by omega) (by omega)
        obtain ⟨ae, rfl, h10, h11⟩ := at_T73 HR1.out (i : Int) (by omega) (by have := HL.out; omega)
        replace h00 := (HD.out.below.cell (World.block_lt_of_cell? w _ h00)).trans h00
        replace h01 := (HD.out.below.cell (World.block_lt_of_cell? w _ h01)).trans h01
        replace h10 := (HD.out.below.cell (World.block_lt_of_cell? w _ h10)).trans h10
        replace h11 := (HD.out.below.cell (World.block_lt_of_cell? w _ h11)).trans h11
        have hi1 : i < l1.length := by have := HL.out; omega
        simp only [Int.toNat_natCast] at h00 h01 h10 h11
        by_cases q0 : (rd_T73 l0 i).f0 = (rd_T73 l1 i).f0
        · by_cases q1 : (rd_T73 l0 i).f1 = (rd_T73 l1 i).f1
          · have b0 : ((rd_T73 l0 i).f0 == (rd_T73 l1 i).f0) = true := by simpa using q0
            have b1 : ((rd_T73 l0 i).f1 == (rd_T73 l1 i).f1) = true := by simpa using q1
            have HA2 : Aside0 (∀ j : Nat, j < i + 1 → (rd_T73 l0 j).f0 = (rd_T73 l1 j).f0 ∧ (rd_T73 l0 j).f1 = (rd_T73 l1 j).f1) := ⟨fun j hj => by
              by_cases hji : j = i
              · rw [hji]; exact ⟨q0, q1⟩
              · exact HA.out j (by omega)⟩
            clear q0 q1 HA
            go_wp2
            go_quiet (fail)
            go_wp2
            go_roundg k1
            case measure => omega
            case rel => exact ⟨i + 1, by go_num, ⟨by have := HI.out; omega⟩, HA2, ⟨HD.out.step _⟩⟩
          · have HR : Aside0 (r = false) := ⟨by rw [HF.out]; exact decide_eq_false (fun e => q1 ((pairs_at l0 l1 HL.out).1 e i hi).2)⟩
            have b1 : ((rd_T73 l0 i).f1 == (rd_T73 l1 i).f1) = false := by simpa using q1
            have b0 : ((rd_T73 l0 i).f0 == (rd_T73 l1 i).f0) = true := by simpa using q0
            clear q0 q1
            go_wp2
            go_quiet (fail)
            go_wp2
            go_ret
            exact ⟨by rw [HR.out]; rfl, HD.out.step _⟩
        · have HR : Aside0 (r = false) := ⟨by rw [HF.out]; exact decide_eq_false (fun e => q0 ((pairs_at l0 l1 HL.out).1 e i hi).1)⟩
          have b0 : ((rd_T73 l0 i).f0 == (rd_T73 l1 i).f0) = false := by simpa using q0
          clear q0
          go_wp2
          go_quiet (fail)
          go_wp2
          go_ret
          exact ⟨by rw [HR.out]; rfl, HD.out.step _⟩
  · have HR : Aside0 (r = false) := ⟨by rw [HF.out]; exact decide_eq_false (fun e => hl (by simpa using congrArg List.length e))⟩
    have e1 : ((l0.length : Int) == (l1.length : Int)) = false := by simpa using (fun e => hl (by omega) : ¬ (l0.length : Int) = l1.length)
    have e2 : ((l0.length : Int) != (l1.length : Int)) = true := by simpa using (fun e => hl (by omega) : ¬ (l0.length : Int) = l1.length)
    go_enter Try.func61, Try.ntmps61
    go_wp2
    go_ret
    exact ⟨by rw [HR.out]; rfl, Drawn0.refl w⟩
end Go.Proofs.Ytnmeomdjhjgnfaa.X
end
section
set_option linter.unusedSimpArgs false
namespace Go.Proofs.Ytnmeomdjhjgnfaa.X
open Go.RowKit Go.Shelf Go.Proofs.YtnmeomdjhjgnfaaW.PrintWords Go.Proofs.YtnmeomdjhjgnfaaW.PrintLast
set_option linter.unusedVariables false
attribute [local go_sem] Oper.semAt_some

/-- What a box's row owns. -/
def BxM (bx : Nat) (W : World) (k : Nat) : Prop := ∃ v, W.cell? ⟨bx, 0, none⟩ = some v ∧ v.ownBlock = some k
theorem BxM.told {bx B : Nat} (h : bx < B) : Told B (BxM bx) := by
  rintro W W' hb k ⟨v, hc, hk⟩
  exact ⟨v, (World.cell?_of_block (a := ⟨bx, 0, none⟩) (hb _ h)).symm.trans hc, hk⟩
theorem KeepsFrom.of_below {B : Nat} {W W' : World} (h : Below W.heap.size W W') : KeepsFrom B W W' :=
  ⟨h.size, fun k o _ hk _ => (h.block k (Array.getElem?_eq_some_iff.1 hk).1).trans hk⟩
theorem EdKp.of_below {B : Nat} {M : World → Nat → Prop} {W W' : World} (hM : Told B M) (hB : B ≤ W.heap.size) (h : Below W.heap.size W W') : EdKp B M W W' :=
  ⟨h.size, fun k c t f _ _ hk => (h.block k (Array.getElem?_eq_some_iff.1 hk).1).trans hk, fun k hk => .inl (hM _ _ (fun b hb => h.block b (by omega)) k hk)⟩
/-- A round that appends to the box's row. -/
theorem BxM.round {B bx : Nat} {W W7 : World} {v18 v21 : Value} {e : TypeId} {cells : Array Value} (hgc : W.heap[bx]? = some (.cells cells e (0, 0))) (hB : bx < B)
    (hc : W.cell? ⟨bx, 0, none⟩ = some v18) (hne : v18.ownBlock ≠ some bx) (ht : ∀ k, v18.ownBlock = some k → ∃ c q, W.heap[k]? = some (.cells c q (0, 0)))
    (hg7 : W.grownBy W7 v18.ownBlock) (hat : v21.ownBlock = v18.ownBlock ∨ ∃ k, v21.ownBlock = some k ∧ W.heap.size ≤ k) :
    KeepsFrom B W (W7.setCell ⟨bx, 0, none⟩ v21) ∧ EdKp B (BxM bx) W (W7.setCell ⟨bx, 0, none⟩ v21) := by
  have h := PrM.round (b := 0) (n := 1) hgc hB (by omega) hc hne ht hg7 hat
  refine ⟨h.1, h.2.size, fun k c t f hBk hM hk => h.2.same k c t f hBk (fun h2 => hM ?_) hk, fun k hk => ?_⟩
  · obtain ⟨ad, i, v, ead, hi, hv, hk⟩ := h2
    injection ead with ead
    subst ead
    obtain rfl : i = 0 := by omega
    exact ⟨v, hv, hk⟩
  · obtain ⟨v, hv, hk⟩ := hk
    refine (h.2.mine k ⟨_, 0, v, rfl, by omega, hv, hk⟩).imp (fun h2 => ?_) id
    obtain ⟨ad, i, v, ead, hi, hv, hk⟩ := h2
    injection ead with ead
    subst ead
    obtain rfl : i = 0 := by omega
    exact ⟨v, hv, hk⟩
theorem R_nocells {α : Type} {d : Kd α} {e base : Nat} {ok : Nat → Prop} {W W' : World} {v : Value} {xs : List α} {row : Option Nat} (h : d.R e W base ok v xs) (hg : W.grownBy W' row)
    (hr : ∀ r, row = some r → ∃ o : Obj, W.heap[r]? = some o ∧ o.isCells = false) : d.R e W' base ok v xs := by
  refine Kd.R_mono (Kd.R_step (Kd.R_bound h) (fun k hk hlt => hg.block k hlt (fun he => ?_))) (fun _ hk => hk.1)
  obtain ⟨_, _, _, q, _, cells, hc⟩ := hk
  obtain ⟨o, ho, hn⟩ := hr k he.symm
  rw [hc] at ho; cases ho; cases hn

theorem heap_box {W : World} {B : Nat} {v : Value} {t : TypeId} (h : W.heap[B]? = some (.cells #[v] t (0, 0))) (u : Value) : (W.setCell ⟨B, 0, none⟩ u).heap[B]? = some (.cells #[u] t (0, 0)) := by
  simp [World.setCell, Array.getElem?_modify, h]
def crB (rows preds : List (List Int)) (e : Int × Int) : Bool := decide (1 < (rows.getD e.1.toNat []).length) && decide (1 < (preds.getD e.2.toNat []).length)
def crL (rows preds : List (List Int)) (es : List (Int × Int)) : List S73 := (es.filter (crB rows preds)).map fun e => ⟨e.1, e.2⟩
structure CrIn (w : World) (b3 : Nat) (n c9 c11 : Nat) (A9 A11 : Option Addr) (rows preds : List (List Int)) (bl : Nat) (out : List S73) (W : World) : Prop where
  cell3 : W.cell? ⟨b3, 0, none⟩ = some (.slice A9 n c9)
  cell4 : W.cell? ⟨b3 + 1, 0, none⟩ = some (.slice A11 n c11)
  own3 : Kd.S (Kd.slice 3 (Kd.int .i64)) 23 W w.heap.size (fun k => k < b3) (.slice A9 n c9) rows
  own4 : Kd.S (Kd.slice 3 (Kd.int .i64)) 23 W w.heap.size (fun k => k < b3) (.slice A11 n c11) preds
  out5 : ∃ v, W.heap[b3 + 2]? = some (.cells #[v] 74 (0, 0)) ∧ Kd.R k73 73 W w.heap.size (fun k => bl ≤ k) v out
  below : Below w.heap.size w W
  far : bl ≤ W.heap.size
theorem CrIn.kept {w : World} {b3 n c9 c11 bl : Nat} {A9 A11 : Option Addr} {rows preds : List (List Int)} {out : List S73} {W W' : World} {row : Option Nat} (h : CrIn w b3 n c9 c11 A9 A11 rows preds bl out W) (hg : W.grownBy W' row)
    (hr : ∀ r, row = some r → w.heap.size ≤ r ∧ ∃ o : Obj, W.heap[r]? = some o ∧ o.isCells = false) : CrIn w b3 n c9 c11 A9 A11 rows preds bl out W' := by
  obtain ⟨v, hv, hR⟩ := h.out5
  refine ⟨cell_kept h.cell3 hg (fun r e => (hr r e).2), cell_kept h.cell4 hg (fun r e => (hr r e).2), S_nocells h.own3 hg (fun r e => (hr r e).2), S_nocells h.own4 hg (fun r e => (hr r e).2), ⟨v, ?_, R_nocells hR hg (fun r e => (hr r e).2)⟩, h.below.grown hg h.below.size (fun k e => (hr k e).1), Nat.le_trans h.far hg.size⟩
  exact (grownBy_keeps_cells hg (fun r e => (hr r e).2) hv rfl).trans hv
theorem preds_fold_length (es : List (Int × Int)) : ∀ rows : List (List Int), (es.foldl predStep rows).length = rows.length := by
  induction es with
  | nil => intro rows; rfl
  | cons e es ih => intro rows; rw [List.foldl_cons, ih]; simp [predStep]
theorem predsL_length (g : List (List Int)) : (predsL g).length = g.length := by unfold predsL; rw [preds_fold_length]; simp
set_option maxHeartbeats 4000000 in
set_option maxRecDepth 100000 in
theorem graph_Critical.calls (A0 : Option Addr) (c0 : Nat) (l0 : List (List Int)) (r : List S73) (w : World) (hr0 : Kd.C (Kd.slice 3 (Kd.int .i64)) w A0 l0.length l0) (hc0 : l0.length ≤ c0) (h : graph_Critical.f l0 = some r) :
    Calls Try.prog 48 #[.slice A0 l0.length c0] w fun e w' => ∃ v0_ : Value, e = .returned (v0_) ∧ Kd.R k73 73 w' w.heap.size (fun _ => True) v0_ r ∧ Below w.heap.size w w' := by
  unfold graph_Critical.f at h
  split at h
  case isFalse => cases h
  rename_i hok
  injection h with h
  have hlen := (okG_len hok).1
  have HR := Aside0.mk hr0
  have HC0 := Aside0.mk hc0
  have HOK := Aside0.mk hok
  have HE := Aside0.mk h
  clear hr0 hc0 hok h
  refine (callsIn_wide (n := 6)).1 ?_
  refine callsIn_of_wp_marks Try.func48 rfl trivial ?_ rfl
  simp only [Try.ntmps48, List.size_toArray, List.length_cons, List.length_nil, Nat.reduceAdd, Nat.reduceSub, Array.replicate_succ, Array.replicate_zero, List.push_toArray, List.append_toArray, List.nil_append, List.cons_append]
  refine wpIn_seq (wpIn_wide.2 ?_)
  go_wp2
  refine wpIn_seq (wpIn_wide.2 ?_)
  go_wp2_with fail
  refine (graph_clean.calls (l0.length + 1) A0 c0 l0 (cleanL l0) _ HR.out HC0.out (clean_some l0 HOK.out)).mono ?_
  rintro e W2 ⟨v9, rfl, hS9, hB2⟩
  obtain ⟨A9, c9, rfl, _, _⟩ := Kd.S_reads hS9
  rw [cleanL_length] at hS9 ⊢
  have H9 := Aside0.mk hS9
  have HB2 := Aside0.mk hB2
  clear hS9 hB2
  go_wp2_with fail
  refine (graph_Preds.calls A0 c0 l0 (predsL l0) _ (Kd.C_below HR.out HB2.out) HC0.out (by unfold graph_Preds.f; rw [if_pos HOK.out])).mono ?_
  rintro e W4 ⟨v11, rfl, hS11, hB4⟩
  obtain ⟨A11, c11, rfl, _, _⟩ := Kd.S_reads hS11
  rw [predsL_length] at hS11 ⊢
  have H11 := Aside0.mk (Kd.S_lower hS11 HB2.out.size)
  have H92 := Aside0.mk (Kd.S_below H9.out hB4)
  have HB4 := Aside0.mk (below_step HB2.out hB4)
  clear hS11 hB4 H9
  go_wp2_with fail
  refine wpIn_seq (wpIn_wide.2 ?_)
  go_wp2
  refine wpIn_seq (wpIn_seq ?_)
  gi_wp2
  refine ⟨trivial, ?_⟩
  refine (callsIn_wide.2 (edges_calls A0 l0.length c0 _)).mono ?_
  rintro e w' ⟨rfl, rfl⟩
  gi_wp2
  have c3 := cell_new_c' W4 (.slice A9 l0.length c9) 22
  have c4 := cell_new_c' (W4.alloc (.cells #[.slice A9 l0.length c9] 22)) (.slice A11 l0.length c11) 22
  have c5 := World.alloc_heap_new ((W4.alloc (.cells #[.slice A9 l0.length c9] 22)).alloc (.cells #[.slice A11 l0.length c11] 22)) (.cells #[.slice none 0 0] 74)
  have c6 := cell_new_c' (((W4.alloc (.cells #[.slice A9 l0.length c9] 22)).alloc (.cells #[.slice A11 l0.length c11] 22)).alloc (.cells #[.slice none 0 0] 74)) (.slice A0 l0.length c0) 22
  have hB5 : Below W4.heap.size W4 ((((W4.alloc (.cells #[.slice A9 l0.length c9] 22)).alloc (.cells #[.slice A11 l0.length c11] 22)).alloc (.cells #[.slice none 0 0] 74)).alloc (.cells #[.slice A0 l0.length c0] 22)) := below_alloc (below_alloc (below_alloc (below_alloc (Below.refl _ _) _) _) _) _
  simp only [World.size_alloc] at c4 c5 c6
  obtain ⟨wL, hwL⟩ : ∃ wL, ((((W4.alloc (.cells #[.slice A9 l0.length c9] 22)).alloc (.cells #[.slice A11 l0.length c11] 22)).alloc (.cells #[.slice none 0 0] 74)).alloc (.cells #[.slice A0 l0.length c0] 22)) = wL := ⟨_, rfl⟩
  have hsz : wL.heap.size = W4.heap.size + 4 := by rw [← hwL]; simp
  have HI0 : Aside0 (CrIn w W4.heap.size l0.length c9 c11 A9 A11 (cleanL l0) (predsL l0) wL.heap.size [] wL) := ⟨by
    have k5 : wL.heap[W4.heap.size + 2]? = some (.cells #[.slice none 0 0] 74 (0, 0)) := by
      rw [← hwL]
      exact (below_alloc (Below.refl _ _) _ : Below _ _ _).block _ (by simp) |>.trans c5
    refine ⟨?_, ?_, Kd.S_below (Kd.S_mono (Kd.S_bound H92.out) (fun k hk => hk.2.2.1)) ?_, Kd.S_below (Kd.S_mono (Kd.S_bound H11.out) (fun k hk => hk.2.2.1)) ?_, ⟨_, k5, Kd.R_nil _ _ _ _ _⟩, ?_, Nat.le_refl _⟩
    · rw [← hwL]; exact cell_alloc' _ (cell_alloc' _ (cell_alloc' _ c3.1))
    · rw [← hwL]; exact cell_alloc' _ (cell_alloc' _ c4.1)
    · rw [← hwL]; exact hB5
    · rw [← hwL]; exact hB5
    · rw [← hwL]; exact HB4.out.trans (hB5.mono HB4.out.size)⟩
  have hMW : ∀ k, BxM (W4.heap.size + 2) wL k → k < wL.heap.size := by
    rintro k ⟨v, hv, hk⟩
    obtain ⟨v2, h2, h3⟩ := HI0.out.out5
    have h4 := (cell_of_box' h2).1
    rw [h4] at hv
    injection hv with hv
    subst hv
    exact Kd.R_lt h3 k hk
  have hMd : Told wL.heap.size (BxM (W4.heap.size + 2)) := BxM.told (by omega)
  rw [hwL] at c6 hB5 ⊢
  refine wpIn_rangeFunc_ownG rfl (by omega) (gf := 104) (lb := #[.pointer (some ⟨W4.heap.size + 1 + 1 + 1, 0, none⟩)]) rfl trivial (enters_of Try.func104 (by kernel_rfl) rfl)
    (edges_stops 5 (by omega) (W4.heap.size + 1 + 1 + 1) A0 c0 l0 HOK.out (BxM (W4.heap.size + 2)) wL hMd hMW (Kd.C_below HR.out (HB4.out.trans (hB5.mono HB4.out.size))) HC0.out c6.1) EdKp.trans (EdKp.put hMd) (Below.refl _ _) (fun _ => rfl)
    (fun pre W => CrIn w W4.heap.size l0.length c9 c11 A9 A11 (cleanL l0) (predsL l0) wL.heap.size (crL (cleanL l0) (predsL l0) (pre.map Subtype.val)) W)
    (fun _ _ _ => False)
    (fun s A B row hs hg hr => hs.kept hg (fun r e => ⟨by have := (hr r e).1; have := HB4.out.size; omega, (hr r e).2⟩))
    (fun _ _ _ _ _ hs _ _ => hs)
    HI0.out
    (fun x => { tmps := #[Value.slice A0 l0.length c0, undef, Value.slice none 0 0,
          Value.pointer (some { block := W4.heap.size, off := 0 }),
          Value.pointer (some { block := W4.heap.size + 1, off := 0 }),
          Value.pointer (some { block := W4.heap.size + 1 + 1, off := 0 }), .int .i64 x.1.1, .int .i64 x.1.2, Value.slice A0 l0.length c0,
          Value.slice A9 l0.length c9, Value.slice A0 l0.length c0, Value.slice A11 l0.length c11,
          Value.slice A0 l0.length c0,
          Value.func (Fn.func 104) #[] #[Value.pointer (some { block := W4.heap.size + 1 + 1 + 1, off := 0 })], .int .i64 x.1.1, .int .i64 x.1.2,
          undef, undef, undef, undef, undef, undef, undef, undef, undef, undef, undef, undef, undef,
          undef, undef, undef, undef, undef, undef, undef, undef], defers := [] }) ?assign ?body ?done ?stop
  case assign =>
    intro l x W K hK
    simp only [edEnc]
    gi_wp2
    exact hK
  case body =>
    rintro l pre ⟨⟨a, b⟩, ha0, ha1, hb0, hb1⟩ W hI hlt
    clear hMd hMW hB5 c3 c4 c5 c6 HI0 hwL H11 H92
    simp only at ha0 ha1 hb0 hb1
    obtain ⟨out, hout⟩ : ∃ out, crL (cleanL l0) (predsL l0) (pre.map Subtype.val) = out := ⟨_, rfl⟩
    rw [hout] at hI
    have HOL : Aside0 (out.length ≤ 1000000000000) := ⟨by
      have h1 : out.length ≤ pre.length := by
        rw [← hout]; unfold crL; rw [List.length_map]; exact Nat.le_trans (List.length_filter_le _ _) (by simp)
      have h2 := edgesL_length l0
      have h3 : l0.length * l0.length ≤ 1000000 * 1000000 := Nat.mul_le_mul hlen hlen
      omega⟩
    have hfin : ∀ W', CrIn w W4.heap.size l0.length c9 c11 A9 A11 (cleanL l0) (predsL l0) wL.heap.size (if crB (cleanL l0) (predsL l0) (a, b) = true then out ++ [⟨a, b⟩] else out) W' →
        CrIn w W4.heap.size l0.length c9 c11 A9 A11 (cleanL l0) (predsL l0) wL.heap.size (crL (cleanL l0) (predsL l0) ((pre ++ [(⟨(a, b), by omega⟩ : Ed l0.length)]).map Subtype.val)) W' := by
      intro W' h'
      have e : crL (cleanL l0) (predsL l0) ((pre ++ [(⟨(a, b), by omega⟩ : Ed l0.length)]).map Subtype.val) = if crB (cleanL l0) (predsL l0) (a, b) = true then out ++ [⟨a, b⟩] else out := by
        rw [List.map_append, ← hout]
        unfold crL
        rw [List.filter_append, List.map_append]
        simp only [List.map_cons, List.map_nil, List.filter_cons, List.filter_nil]
        split <;> simp
      rw [e]
      exact h'
    have HFIN := Aside0.mk hfin
    have HIN := Aside0.mk hI
    clear hfin hout
    obtain ⟨hcell3, hcell4, hown3, hown4, ⟨v, h5, hRv⟩, hbel, hfar⟩ := hI
    obtain ⟨i, rfl⟩ := Int.eq_ofNat_of_zero_le ha0
    obtain ⟨j, rfl⟩ := Int.eq_ofNat_of_zero_le hb0
    obtain ⟨ad3, _, _, ear, _⟩ := at_L1 (Kd.S_reads' hown3).2.2 (i : Int) (by omega) (by have := cleanL_length l0; omega)
    subst ear
    obtain ⟨ad4, _, _, ear, _⟩ := at_L1 (Kd.S_reads' hown4).2.2 (j : Int) (by omega) (by have := predsL_length l0; omega)
    subst ear
    obtain ⟨Ar3, cr3, hx3, _⟩ := row_own (Kd.S_mono (ok' := fun _ => True) hown3 (fun _ _ => trivial)) i (by omega)
    obtain ⟨Ar4, cr4, hx4, _⟩ := row_own (Kd.S_mono (ok' := fun _ => True) hown4 (fun _ _ => trivial)) j (by omega)
    obtain ⟨hc5, hf5⟩ := cell_of_box' h5
    obtain ⟨Av, cv, rfl⟩ := Kd.R_slice hRv
    have HRv := Aside0.mk hRv
    have HBEL := Aside0.mk hbel
    have H5 := Aside0.mk h5
    have HO3 := Aside0.mk hown3
    have HO4 := Aside0.mk hown4
    clear hRv hbel h5 hown3 hown4
    obtain ⟨n3, hn3⟩ : ∃ n3, (rd_L1 (cleanL l0) i).length = n3 := ⟨_, rfl⟩
    obtain ⟨n4, hn4⟩ : ∃ n4, (rd_L1 (predsL l0) j).length = n4 := ⟨_, rfl⟩
    rw [hn3] at hx3
    rw [hn4] at hx4
    have HCR : Aside0 (crB (cleanL l0) (predsL l0) ((i : Int), (j : Int)) = (decide (1 < n3) && decide (1 < n4))) := ⟨by
      rw [← hn3, ← hn4]; rfl⟩
    clear hn3 hn4
    by_cases h3 : 1 < n3
    · have k3 : decide ((1 : Int) < (n3 : Int)) = true := decide_eq_true (by omega)
      by_cases h4 : 1 < n4
      · have k4 : decide ((1 : Int) < (n4 : Int)) = true := decide_eq_true (by omega)
        refine wpIn_block ?_
        refine wpIn_seq (wpIn_list_plain (by kernel_rfl) (fun ⟨_, _, h'⟩ => h') ?_)
        go_wp2
        refine wpIn_cond_true rfl ?_
        refine wpIn_list_plain (by kernel_rfl) (fun ⟨_, _, h'⟩ => h') ?_
        go_wp2_with (first | ((with_reducible refine gate_builtin (b := .append) (xs := #[.tmp 30, .tmp 34]) rfl ?_); at_builtin; refine Kd.R_append k73 (w0 := w) (W := W) w.heap.size rfl (.tmp 30) (.tmp 34) 74 73 (.agg #[(.int .i64 0), (.int .i64 0)]) 16 rfl Try.underlying74 info73 rfl (by decide) (by omega) (.slice Av out.length cv) out (⟨i, j⟩ : S73) [.int .i64 i, .int .i64 j] (fun k => wL.heap.size ≤ k) (fun _ => False) rfl rfl ?aP (fun _ hk => hk.elim) ?aF ?aO ?aB ?aS ?aL ?_; (case aP => exact k73_mkM _ _ _ (⟨i, j⟩ : S73)); (case aF => intro k hk; omega); (case aO => exact HRv.out); (case aB => exact HBEL.out); (case aS => exact HBEL.out.size); (case aL => have := HOL.out; omega); intro v35 W7 ho hb hg hat; obtain ⟨A35, n35, c35, rfl⟩ : ∃ A n c, v35 = .slice A n c := ⟨_, _, _, (Kd.R_slice ho).choose_spec.choose_spec⟩; have hA : ∀ k, (Value.slice Av out.length cv).ownBlock = some k → wL.heap.size ≤ k := HRv.out.1; have h57 := (hg.block (W4.heap.size + 2) (blk_lt H5.out) (fun h => by have := hA _ h.symm; omega)).trans H5.out; obtain ⟨hc57, hf57⟩ := cell_of_box' h57) | fail)
        have e : crB (cleanL l0) (predsL l0) ((i : Int), (j : Int)) = true := by rw [HCR.out]; simp [h3, h4]
        have hround := BxM.round (B := wL.heap.size) (bx := W4.heap.size + 2) (v21 := .slice A35 n35 c35) H5.out (by omega) hc5 (fun h => by have := hA _ h; omega) (fun k hk => ⟨_, _, (Kd.R_typed HRv.out k hk).choose_spec⟩) hg hat
        have hF := HFIN.out (W7.setCell ⟨W4.heap.size + 2, 0, none⟩ (.slice A35 n35 c35))
        rw [e, if_pos rfl] at hF
        have hg8 := grownBy_setCell_b W7 (W4.heap.size + 2) 0 (.slice A35 n35 c35)
        have hg78 : ∀ k, k < W4.heap.size + 2 → (W7.setCell ⟨W4.heap.size + 2, 0, none⟩ (.slice A35 n35 c35)).heap[k]? = W.heap[k]? := fun k hk =>
          (hg8.block k (by have := hg.size; omega) (by intro h; injection h with h; omega)).trans (hg.block k (by omega) (fun h => by have := hA _ h.symm; omega))
        refine ⟨hround.1, hround.2, hF ⟨(World.cell?_of_block (hg78 _ (by simp))).trans hcell3, (World.cell?_of_block (hg78 _ (by simp))).trans hcell4, Kd.S_step HO3.out (fun k hk _ => hg78 k (by omega)), Kd.S_step HO4.out (fun k hk _ => hg78 k (by omega)), ⟨.slice A35 n35 c35, ?_, ?_⟩, hb.grown hg8 hb.size (fun k e => by cases e; have := HB4.out.size; omega), by have := hg8.size; have := hg.size; omega⟩⟩
        · exact heap_box h57 _
        · exact Kd.R_mono (Kd.R_step (Kd.R_bound ho) (fun k hk hlt => hg8.block k hlt (fun h => by injection h with h; omega))) (fun _ hk => hk.1)
      · have k4 : decide ((1 : Int) < (n4 : Int)) = false := decide_eq_false (by omega)
        gi_wp2
        have e : crB (cleanL l0) (predsL l0) ((i : Int), (j : Int)) = false := by rw [HCR.out]; simp [h4]
        have hF := HFIN.out W
        rw [e] at hF
        exact ⟨KeepsFrom.refl _ _, EdKp.refl _ _ _, hF HIN.out⟩
    · have k3 : decide ((1 : Int) < (n3 : Int)) = false := decide_eq_false (by omega)
      gi_wp2
      have e : crB (cleanL l0) (predsL l0) ((i : Int), (j : Int)) = false := by rw [HCR.out]; simp [h3]
      have hF := HFIN.out W
      rw [e] at hF
      exact ⟨KeepsFrom.refl _ _, EdKp.refl _ _ _, hF HIN.out⟩
  case done =>
    rintro D ys W hD hys hI hK
    have hr : crL (cleanL l0) (predsL l0) (ys.map Subtype.val) = r := by rw [hys]; exact HE.out
    rw [hr] at hI
    obtain ⟨v, h5, hRv⟩ := hI.out5
    obtain ⟨hc5, hf5⟩ := cell_of_box' h5
    obtain ⟨Av, cv, rfl⟩ := Kd.R_slice hRv
    gi_wp2
    refine ⟨by simp, .inl ⟨_, _, rfl, run_takeDeferred hK, ?_⟩⟩
    refine ⟨_, results_tmp rfl _ _ _, _, rfl, ?_, ?_⟩
    · exact Kd.R_mono (R_nocells hRv (grownBy_putObj' _ D _) (fun r e => by cases e; exact ⟨_, hK, rfl⟩)) (fun _ _ => trivial)
    · exact hI.below.grown (grownBy_putObj' _ D _) hI.below.size (fun k e => by cases e; have := HB4.out.size; omega)
  case stop =>
    rintro D c pre W _ _ h _
    exact h.elim
end Go.Proofs.Ytnmeomdjhjgnfaa.X
/-! A range over graph.edges whose body appends to one boxed row: what stays, what a round does. -/
namespace Go.Proofs.Ytnmeomdjhjgnfaa.X
open Go.RowKit Go.Shelf Go.Proofs.YtnmeomdjhjgnfaaW.PrintWords Go.Proofs.YtnmeomdjhjgnfaaW.PrintLast
set_option linter.unusedVariables false
variable {α : Type} {d : Kd α} {e t : TypeId} {wL W W' W7 : World} {bx : Nat} {out : List α}

structure OutIn (wL : World) (bx : Nat) (d : Kd α) (e t : TypeId) (out : List α) (W : World) : Prop where
  stay : Below bx wL W
  box : ∃ v, W.heap[bx]? = some (.cells #[v] t (0, 0)) ∧ d.R e W wL.heap.size (fun _ => True) v out
  far : wL.heap.size ≤ W.heap.size
theorem OutIn.kept (h : OutIn wL bx d e t out W) {row : Option Nat} (hg : W.grownBy W' row) (hr : ∀ r, row = some r → wL.heap.size ≤ r ∧ ∃ o : Obj, W.heap[r]? = some o ∧ o.isCells = false) (hbx : bx < wL.heap.size) : OutIn wL bx d e t out W' := by
  obtain ⟨v, hv, hR⟩ := h.box
  refine ⟨h.stay.grown hg (by have := h.far; omega) (fun k e => by have := (hr k e).1; omega), ⟨v, ?_, R_nocells hR hg (fun r e => (hr r e).2)⟩, Nat.le_trans h.far hg.size⟩
  exact (grownBy_keeps_cells hg (fun r e => (hr r e).2) hv rfl).trans hv
theorem OutIn.call (h : OutIn wL bx d e t out W) (hb : Below W.heap.size W W') (hbx : bx < wL.heap.size) : KeepsFrom wL.heap.size W W' ∧ EdKp wL.heap.size (BxM bx) W W' ∧ OutIn wL bx d e t out W' := by
  obtain ⟨v, hv, hR⟩ := h.box
  have hf := h.far
  refine ⟨KeepsFrom.of_below hb, EdKp.of_below (BxM.told hbx) h.far hb, h.stay.trans (hb.mono (by omega)), ⟨v, ?_, Kd.R_below hR hb⟩, Nat.le_trans hf hb.size⟩
  exact (hb.block bx (by omega)).trans hv
theorem OutIn.append (h : OutIn wL bx d e t out W) (hbx : bx < wL.heap.size) {v18 v21 : Value} {x : α} (hv : W.heap[bx]? = some (.cells #[v18] t (0, 0))) (hR : d.R e W wL.heap.size (fun _ => True) v18 out)
    (hR7 : d.R e W7 wL.heap.size (fun _ => True) v21 (out ++ [x])) (hg : W.grownBy W7 v18.ownBlock) (hat : v21.ownBlock = v18.ownBlock ∨ ∃ k, v21.ownBlock = some k ∧ W.heap.size ≤ k) :
    KeepsFrom wL.heap.size W (W7.setCell ⟨bx, 0, none⟩ v21) ∧ EdKp wL.heap.size (BxM bx) W (W7.setCell ⟨bx, 0, none⟩ v21) ∧ OutIn wL bx d e t (out ++ [x]) (W7.setCell ⟨bx, 0, none⟩ v21) := by
  have hf := h.far
  have hA : ∀ k, v18.ownBlock = some k → wL.heap.size ≤ k := Kd.R_base hR
  have hround := BxM.round (B := wL.heap.size) (v21 := v21) hv hbx (cell_of_box' hv).1 (fun h => by have := hA _ h; omega) (fun k hk => ⟨_, _, (Kd.R_typed hR k hk).choose_spec⟩) hg hat
  have hg8 := grownBy_setCell_b W7 bx 0 v21
  have h57 := (hg.block bx (blk_lt hv) (fun h => by have := hA _ h.symm; omega)).trans hv
  have hs := hg.size
  have hs8 := hg8.size
  refine ⟨hround.1, hround.2, ?_, ⟨v21, heap_box h57 _, Kd.R_mono (Kd.R_step (Kd.R_bound hR7) (fun k hk hlt => hg8.block k hlt (fun h => by injection h with h; have := hk.2.1; omega))) (fun _ _ => trivial)⟩, by omega⟩
  exact (h.stay.grown hg (by omega) (fun k e => by have := hA k e; omega)).grown hg8 (by omega) (fun k e => by injection e with e; omega)
/-- The box as the loop begins. -/
theorem OutIn.start (hv : wL.heap[bx]? = some (.cells #[.slice none 0 0] t (0, 0))) : OutIn wL bx d e t [] wL := ⟨Below.refl _ _, ⟨_, hv, Kd.R_nil _ _ _ _ _⟩, Nat.le_refl _⟩
theorem OutIn.names (h : OutIn wL bx d e t out wL) : ∀ k, BxM bx wL k → k < wL.heap.size := by
  rintro k ⟨v, hv, hk⟩
  obtain ⟨v2, h2, h3⟩ := h.box
  rw [(cell_of_box' h2).1] at hv
  injection hv with hv
  subst hv
  exact Kd.R_lt h3 k hk
end Go.Proofs.Ytnmeomdjhjgnfaa.X
end
section
set_option linter.unusedSimpArgs false
namespace Go.Proofs.Ytnmeomdjhjgnfaa.X
open Go.RowKit Go.Proofs.YtnmeomdjhjgnfaaW.PrintWords Go.Proofs.YtnmeomdjhjgnfaaW.PrintLast
set_option linter.unusedVariables false

theorem cell_new1 (W : World) (v : Value) (t : TypeId) : (W.alloc (.cells #[v] t)).cell? ⟨W.heap.size, 0, none⟩ = some v :=
  Go.Proofs.YtnmeomdjhjgnfaaW.PrintWords.blk_cell (heap_alloc_new W (.cells #[v] t)) 0

set_option maxHeartbeats 1000000 in
/-- The closure 'is': whether a number is one of the captured row's places. -/
theorem dom_is (g : Nat) (A0 : Option Addr) (c0 : Nat) (l0 : List Int) (x : Int) (w : World) (hc : w.cell? ⟨g, 0, none⟩ = some (.slice A0 l0.length c0)) :
    Calls Try.prog 74 #[.int .i64 x, .pointer (some ⟨g, 0, none⟩)] w fun e w' => e = .returned (.bool (isB l0 x)) ∧ w = w' := by
  by_cases h0 : 0 ≤ x
  · by_cases h1 : x < l0.length
    · have e1 : isB l0 x = true := by simp [isB, h0, h1]
      rw [e1]
      go_enter Try.func74, Try.ntmps74
      go_wp2
      go_ret
      exact ⟨rfl, rfl⟩
    · have e1 : isB l0 x = false := by simp [isB, h1]
      rw [e1]
      have h2 : decide (x < (l0.length : Int)) = false := by simpa using h1
      go_enter Try.func74, Try.ntmps74
      go_wp2
      go_ret
      exact ⟨by first | rfl | simp_all, rfl⟩
  · have e1 : isB l0 x = false := by simp [isB, h0]
    rw [e1]
    have h2 : decide (0 ≤ x) = false := by simpa using h0
    go_enter Try.func74, Try.ntmps74
    go_wp2
    go_ret
    exact ⟨by first | rfl | simp_all, rfl⟩
theorem dom_yes (g : Nat) (A0 : Option Addr) (c0 : Nat) (l0 : List Int) (x : Int) (w : World) (hc : w.cell? ⟨g, 0, none⟩ = some (.slice A0 l0.length c0)) (hx : isB l0 x = true) :
    Calls Try.prog 74 #[.int .i64 x, .pointer (some ⟨g, 0, none⟩)] w fun e w' => e = .returned (.bool true) ∧ w = w' := hx ▸ dom_is g A0 c0 l0 x w hc
theorem dom_no (g : Nat) (A0 : Option Addr) (c0 : Nat) (l0 : List Int) (x : Int) (w : World) (hc : w.cell? ⟨g, 0, none⟩ = some (.slice A0 l0.length c0)) (hx : isB l0 x = false) :
    Calls Try.prog 74 #[.int .i64 x, .pointer (some ⟨g, 0, none⟩)] w fun e w' => e = .returned (.bool false) ∧ w = w' := hx ▸ dom_is g A0 c0 l0 x w hc

set_option maxHeartbeats 4000000 in
set_option maxRecDepth 100000 in
theorem graph_Dominates.calls (A0 : Option Addr) (c0 : Nat) (l0 : List Int) (a1 a2 : Int) (r : Bool) (w : World) (hr0 : Kd.C (Kd.int .i64) w A0 l0.length l0) (hc0 : l0.length ≤ c0) (h : graph_Dominates.f l0 a1 a2 = some r) :
    Calls Try.prog 32 #[.slice A0 l0.length c0, .int .i64 a1, .int .i64 a2] w fun e w' => e = .returned (.bool r) ∧ Below w.heap.size w w' := by
  have HR0 := Aside0.mk hr0
  clear hr0 hc0
  have hlen : l0.length ≤ 1000000 := by
    by_cases hl : l0.length ≤ 1000000
    · exact hl
    · simp [graph_Dominates.f, hl] at h
  have HF : Aside0 (domL l0 a1 a2 = r) := ⟨by simpa [graph_Dominates.f, hlen] using h⟩
  clear h
  have hcell : (w.alloc (.cells #[.slice A0 l0.length c0] 23)).cell? ⟨w.heap.size, 0, none⟩ = some (.slice A0 l0.length c0) := Go.Proofs.Ytnmeomdjhjgnfaa.X.cell_new1 w _ 23
  have HB : Aside0 (Below w.heap.size w (w.alloc (.cells #[.slice A0 l0.length c0] 23))) := ⟨(Below.refl _ w).alloc (Nat.le_refl _) _⟩
  cases e1 : isB l0 a1 with
  | false =>
    have E1 := Aside0.mk e1
    have HR : Aside0 (r = false) := ⟨by rw [← HF.out]; simp [domL, e1]⟩
    clear e1
    go_enter Try.func32, Try.ntmps32
    go_wp2_with (go_at_call 74; refine (dom_no _ A0 c0 l0 _ _ hcell E1.out).mono ?_; rintro e w' ⟨rfl, rfl⟩)
    go_ret
    exact ⟨by rw [HR.out]; rfl, HB.out⟩
  | true =>
    have E1 := Aside0.mk e1
    clear e1
    cases e2 : isB l0 a2 with
    | false =>
      have E2 := Aside0.mk e2
      have HR : Aside0 (r = false) := ⟨by rw [← HF.out]; simp [domL, e2]⟩
      clear e2
      go_enter Try.func32, Try.ntmps32
      go_wp2_with fail
      refine (dom_yes _ A0 c0 l0 _ _ hcell E1.out).mono ?_
      rintro e w' ⟨rfl, rfl⟩
      go_wp2_with fail
      refine (dom_no _ A0 c0 l0 _ _ hcell E2.out).mono ?_
      rintro e w' ⟨rfl, rfl⟩
      go_wp2_with fail
      go_ret
      exact ⟨by rw [HR.out]; rfl, HB.out⟩
    | true =>
      have E2 := Aside0.mk e2
      have HL : Aside0 (domLoop l0 a1 (l0.length + 1) a2 = r) := ⟨by rw [← HF.out]; simp [domL, E1.out, e2]⟩
      clear e2 HF
      go_enter Try.func32, Try.ntmps32
      go_wp2_with fail
      refine (dom_yes _ A0 c0 l0 _ _ hcell E1.out).mono ?_
      rintro e w' ⟨rfl, rfl⟩
      go_wp2_with fail
      refine (dom_yes _ A0 c0 l0 _ _ hcell E2.out).mono ?_
      rintro e w' ⟨rfl, rfl⟩
      go_wp2_with fail
      go_loopg [2, 22] (l0.length + 1) (fun kq v2 v22 w' => ∃ (b : Int) (i : Nat), v2 = .int .i64 b ∧ v22 = .int .i64 i ∧ Aside0 (domLoop l0 a1 kq b = r) ∧ Aside0 (kq + i = l0.length + 1) ∧ Aside0 (w' = w.alloc (.cells #[.slice A0 l0.length c0] 23)))
      case atStart => exact ⟨a2, 0, rfl, rfl, HL, ⟨rfl⟩, ⟨rfl⟩⟩
      case round =>
        obtain ⟨b, i, rfl, rfl, HA, HI, HW⟩ := hrel
        obtain rfl := HW.out
        clear HW HL E2
        cases gk with
        | zero =>
          have hi : i = l0.length + 1 := by have := HI.out; omega
          subst hi
          have HR : Aside0 (r = false) := ⟨by rw [← HA.out]; simp [domLoop]⟩
          go_wp2
          go_ret
          exact ⟨by rw [HR.out]; rfl, HB.out⟩
        | succ k1 =>
          have hi : i < l0.length + 1 := by have := HI.out; omega
          have H := HA.out
          clear HA
          rw [domLoop] at H
          by_cases hab : a1 = b
          · rw [if_pos hab] at H
            have HR : Aside0 (r = true) := ⟨H.symm⟩
            subst hab
            clear H
            go_wp2
            go_ret
            exact ⟨by rw [HR.out]; rfl, HB.out⟩
          · rw [if_neg hab] at H
            have hab2 : (a1 == b) = false := by simpa using hab
            clear hab
            cases e3 : isB l0 b with
            | false =>
              have E3 := Aside0.mk e3
              rw [e3] at H
              have HR : Aside0 (r = false) := ⟨by simpa using H.symm⟩
              clear H e3
              go_wp2_with (go_at_call 74; refine (dom_no _ A0 c0 l0 _ _ hcell E3.out).mono ?_; rintro e w' ⟨rfl, rfl⟩)
              go_ret
              exact ⟨by rw [HR.out]; rfl, HB.out⟩
            | true =>
              have E3 := Aside0.mk e3
              rw [e3] at H
              have HL : Aside0 (domLoop l0 a1 k1 (rd l0 b) = r) := ⟨by simpa using H⟩
              have hb : 0 ≤ b ∧ b < l0.length := by simpa [isB] using e3
              obtain ⟨hb0, hb1⟩ := hb
              clear H e3
              obtain ⟨ad, rfl, hcx⟩ := Kd.at_int HR0.out b hb0 hb1
              replace hcx := (HB.out.cell (World.block_lt_of_cell? w _ hcx)).trans hcx
              go_wp2_with (go_at_call 74; refine (dom_yes _ (some ad) c0 l0 _ _ hcell E3.out).mono ?_; rintro e w' ⟨rfl, rfl⟩)
              go_roundg k1
              case measure => omega
              case rel => exact ⟨_, i + 1, rfl, by go_num, HL, ⟨by have := HI.out; omega⟩, ⟨rfl⟩⟩
def headL (g : List (List Int)) (d : List Int) : List Int := keptL (((edgesL g).filter fun e => backL d e.1 e.2).map (·.2)) g.length
def graph_Headers.f (k : Nat) (l0 : List (List Int)) : Option (List Int) :=
  if okG l0 = true then (graph_Idom.f k l0).bind fun d => if d.length = l0.length ∧ (edgesL l0).length ≤ 100000000 then some (headL l0 d) else none else none
def redL (g : List (List Int)) (d o : List Int) : Bool :=
  (edgesL g).all fun e => !(decide (0 < numL o e.1) && (decide (numL o e.2 ≤ numL o e.1) && !backL d e.1 e.2))
def graph_Reducible.f (k : Nat) (l0 : List (List Int)) : Option Bool :=
  if okG l0 = true then (graph_Idom.f k l0).bind fun d => (graph_Order.f k l0).bind fun o => if d.length = l0.length ∧ o.length ≤ 1000000 ∧ (∀ b ∈ o, 0 ≤ b ∧ b < l0.length) then some (redL l0 d o) else none else none
def openL (g : List (List Int)) (d : List Int) (h : Int) : List Int := ((edgesL g).filter fun e => e.2 == h && backL d e.1 e.2).map (·.1)
def graph_Body.f (k : Nat) (l0 : List (List Int)) (a1 : Int) : Option (List Int) :=
  if okG l0 = true then (graph_Idom.f k l0).bind fun d => (graph_Order.f k l0).bind fun o => if d.length = l0.length ∧ (edgesL l0).length ≤ 100000000 ∧ o.length ≤ 1000000 ∧ (∀ b ∈ o, 0 ≤ b ∧ b < l0.length) ∧ -1 ≤ a1 ∧ a1 ≤ l0.length then
    (if openL l0 d a1 = [] then some [] else (bodyLoop (predsL l0) k (openL l0 d a1) [a1]).map fun s => isort (o.filter fun b => s.contains b)) else none else none
theorem graph_Headers.mono (k : Nat) (l0 : List (List Int)) : LeO (graph_Headers.f k l0) (graph_Headers.f (k + 1) l0) := by
  unfold graph_Headers.f
  exact LeO.ite (LeO.bind (graph_Idom.mono _ _) (fun _ => LeO.refl _)) (LeO.refl _)
theorem graph_Reducible.mono (k : Nat) (l0 : List (List Int)) : LeO (graph_Reducible.f k l0) (graph_Reducible.f (k + 1) l0) := by
  unfold graph_Reducible.f
  exact LeO.ite (LeO.bind (graph_Idom.mono _ _) (fun _ => LeO.bind (graph_Order.mono _ _) (fun _ => LeO.refl _))) (LeO.refl _)
theorem graph_Body.mono (k : Nat) (l0 : List (List Int)) (a1 : Int) : LeO (graph_Body.f k l0 a1) (graph_Body.f (k + 1) l0 a1) := by
  unfold graph_Body.f
  exact LeO.ite (LeO.bind (graph_Idom.mono _ _) (fun _ => LeO.bind (graph_Order.mono _ _) (fun _ => LeO.ite (LeO.ite (LeO.refl _) (LeO.map _ (bodyLoop_mono _ _ _ _))) (LeO.refl _)))) (LeO.refl _)
end Go.Proofs.Ytnmeomdjhjgnfaa.X
end
section
set_option linter.unusedSimpArgs false
namespace Go.Proofs.Ytnmeomdjhjgnfaa.X
open Go.RowKit Go.Shelf Go.Proofs.YtnmeomdjhjgnfaaW.PrintWords Go.Proofs.YtnmeomdjhjgnfaaW.PrintLast
set_option linter.unusedVariables false

set_option maxHeartbeats 2000000 in
set_option maxRecDepth 100000 in
theorem back1_calls (bk : Nat) (Ad : Option Addr) (cd : Nat) (d : List Int) (a b : Int) (w : World) (hbx : w.cell? ⟨bk, 0, none⟩ = some (.slice Ad d.length cd)) (hR : Kd.C (Kd.int .i64) w Ad d.length d) (hc : d.length ≤ cd) (hlen : d.length ≤ 1000000) (ha0 : 0 ≤ a) (ha1 : a < d.length) :
    Calls Try.prog 103 #[.int .i64 a, .int .i64 b, .pointer (some ⟨bk, 0, none⟩)] w fun e w' => e = .returned (.bool (backL d a b)) ∧ Below w.heap.size w w' := by
  obtain ⟨ad, rfl, hcx⟩ := Kd.at_int hR a ha0 ha1
  have HR := Aside0.mk hR
  have HC := Aside0.mk hc
  have HD : Aside0 (graph_Dominates.f d b a = some (domL d b a)) := ⟨by unfold graph_Dominates.f; rw [if_pos hlen]⟩
  clear hR hc hlen
  go_enter Try.func103, Try.ntmps103
  by_cases h0 : a = 0
  · subst h0
    go_wp2_with fail
    refine (graph_Dominates.calls (some ad) cd d b 0 (domL d b 0) w HR.out HC.out HD.out).mono ?_
    rintro e w' ⟨rfl, hB⟩
    cases hd : domL d b 0 with
    | true =>
      go_wp2
      go_ret
      exact ⟨by rw [show backL d 0 b = true from by simp [backL, hd]]; rfl, hB⟩
    | false =>
      go_wp2
      go_ret
      exact ⟨by rw [show backL d 0 b = false from by simp [backL, hd]]; rfl, hB⟩
  · have h0' : (a == 0) = false := by simpa using h0
    by_cases h1 : 0 ≤ rd d a
    · have h1' : decide (0 ≤ rd d a) = true := decide_eq_true h1
      go_wp2_with fail
      refine (graph_Dominates.calls (some ad) cd d b a (domL d b a) w HR.out HC.out HD.out).mono ?_
      rintro e w' ⟨rfl, hB⟩
      cases hd : domL d b a with
      | true =>
        go_wp2
        go_ret
        exact ⟨by rw [show backL d a b = true from by simp [backL, hd, h1]]; rfl, hB⟩
      | false =>
        go_wp2
        go_ret
        exact ⟨by rw [show backL d a b = false from by simp [backL, hd]]; rfl, hB⟩
    · have h1' : decide (0 ≤ rd d a) = false := decide_eq_false h1
      go_wp2
      go_ret
      exact ⟨by rw [show backL d a b = false from by simp [backL, h0', h1']]; rfl, Below.refl _ _⟩

set_option maxHeartbeats 2000000 in
set_option maxRecDepth 100000 in
theorem back_calls (k : Nat) (A0 : Option Addr) (c0 : Nat) (l0 : List (List Int)) (d : List Int) (w : World) (hr0 : Kd.C (Kd.slice 3 (Kd.int .i64)) w A0 l0.length l0) (hc0 : l0.length ≤ c0) (h : graph_Idom.f k l0 = some d) :
    Calls Try.prog 83 #[.slice A0 l0.length c0] w fun e w' => ∃ (bk : Nat) (Ad : Option Addr) (cd : Nat), e = .returned (.func (.func 103) #[] #[.pointer (some ⟨bk, 0, none⟩)]) ∧ w.heap.size ≤ bk ∧ w'.heap[bk]? = some (.cells #[.slice Ad d.length cd] 23 (0, 0)) ∧
      Kd.R (Kd.int .i64) 3 w' w.heap.size (fun k => k < bk) (.slice Ad d.length cd) d ∧ Below w.heap.size w w' := by
  have HR := Aside0.mk hr0
  have HC0 := Aside0.mk hc0
  have H := Aside0.mk h
  clear hr0 hc0 h
  go_enter Try.func83, Try.ntmps83
  go_wp2_with fail
  refine (graph_Idom.calls k A0 c0 l0 d w HR.out HC0.out H.out).mono ?_
  rintro e w4 ⟨v0, rfl, ho, hB⟩
  obtain ⟨Ad, cd, rfl⟩ := Kd.R_slice ho
  go_wp2
  go_ret
  refine ⟨w4.heap.size, Ad, cd, rfl, hB.size, World.alloc_heap_new _ _, Kd.R_alloc (Kd.R_mono (Kd.R_bound ho) (fun k hk => hk.2.2.1)) _, below_alloc hB _⟩
end Go.Proofs.Ytnmeomdjhjgnfaa.X
end
section
set_option linter.unusedSimpArgs false
namespace Go.Proofs.Ytnmeomdjhjgnfaa.X
open Go.RowKit Go.Shelf Go.Proofs.YtnmeomdjhjgnfaaW.PrintWords Go.Proofs.YtnmeomdjhjgnfaaW.PrintLast
set_option linter.unusedVariables false
attribute [local go_sem] Oper.semAt_some

def hdL (d : List Int) (es : List (Int × Int)) : List Int := (es.filter fun e => backL d e.1 e.2).map (·.2)
theorem hdL_snoc (d : List Int) (es : List (Int × Int)) (a b : Int) : hdL d (es ++ [(a, b)]) = if backL d a b = true then hdL d es ++ [b] else hdL d es := by
  unfold hdL
  rw [List.filter_append, List.map_append]
  simp only [List.filter_cons, List.filter_nil]
  split <;> simp
theorem edgesFrom_in (n : Nat) : ∀ (rows : List (List Int)) (i : Nat), i + rows.length ≤ n → (∀ r ∈ rows, ∀ b ∈ r, 0 ≤ b ∧ b < n) → ∀ e ∈ edgesFrom i rows, (0 ≤ e.1 ∧ e.1 < n) ∧ 0 ≤ e.2 ∧ e.2 < n
  | [], _, _, _, e, he => by simp [edgesFrom] at he
  | r :: rows, i, hi, h, e, he => by
    simp only [edgesFrom, List.mem_append, List.mem_map] at he
    simp only [List.length_cons] at hi
    rcases he with ⟨b, hb, rfl⟩ | he
    · exact ⟨by constructor <;> simp <;> omega, h r List.mem_cons_self b hb⟩
    · exact edgesFrom_in n rows (i + 1) (by omega) (fun r hr => h r (List.mem_cons_of_mem _ hr)) e he
theorem edgesL_in (g : List (List Int)) (e : Int × Int) (he : e ∈ edgesL g) : (0 ≤ e.1 ∧ e.1 < g.length) ∧ 0 ≤ e.2 ∧ e.2 < g.length :=
  edgesFrom_in g.length (cleanL g) 0 (by rw [cleanL_length]; omega) (cleanL_in g) e he
/-- Sorting and making compact a row within bounds is what kept tells. -/
theorem kept_all (l : List Int) (n : Int) (h : ∀ x ∈ l, 0 ≤ x ∧ x < n) : Lib.compact (isort l) = keptL l n := by
  exact kept_of l l n (fun x => ⟨fun hx => ⟨hx, h x hx⟩, fun hx => hx.1⟩)
theorem hdL_length (d : List Int) (es : List (Int × Int)) : (hdL d es).length ≤ es.length := by
  unfold hdL; rw [List.length_map]; exact List.length_filter_le _ _
set_option maxHeartbeats 4000000 in
set_option maxRecDepth 100000 in
theorem graph_Headers.calls (k : Nat) (A0 : Option Addr) (c0 : Nat) (l0 : List (List Int)) (r : List Int) (w : World) (hr0 : Kd.C (Kd.slice 3 (Kd.int .i64)) w A0 l0.length l0) (hc0 : l0.length ≤ c0) (h : graph_Headers.f k l0 = some r) :
    Calls Try.prog 38 #[.slice A0 l0.length c0] w fun e w' => ∃ v0_ : Value, e = .returned (v0_) ∧ Kd.R (Kd.int .i64) 3 w' w.heap.size (fun _ => True) v0_ r ∧ Below w.heap.size w w' := by
  unfold graph_Headers.f at h
  split at h
  case isFalse => cases h
  rename_i hok
  obtain ⟨d, hd, h⟩ := Option.bind_eq_some_iff.1 h
  split at h
  case isFalse => cases h
  rename_i hdl
  obtain ⟨hdl, hel⟩ := hdl
  injection h with h
  have hlen := (okG_len hok).1
  have HR := Aside0.mk hr0
  have HC0 := Aside0.mk hc0
  have HOK := Aside0.mk hok
  have HE := Aside0.mk h
  have HD := Aside0.mk hd
  have HEL := Aside0.mk hel
  have HDL := Aside0.mk hdl
  clear hr0 hc0 hok h hd hel hdl
  refine (callsIn_wide (n := 6)).1 ?_
  refine callsIn_of_wp_marks Try.func38 rfl trivial ?_ rfl
  simp only [Try.ntmps38, List.size_toArray, List.length_cons, List.length_nil, Nat.reduceAdd, Nat.reduceSub, Array.replicate_succ, Array.replicate_zero, List.push_toArray, List.append_toArray, List.nil_append, List.cons_append]
  refine wpIn_seq (wpIn_wide.2 ?_)
  go_wp2
  refine wpIn_seq (wpIn_wide.2 ?_)
  go_wp2_with fail
  refine (back_calls k A0 c0 l0 d _ HR.out HC0.out HD.out).mono ?_
  rintro e W2 ⟨bk, Ad, cd, rfl, hbk, hbx, hRd, hB2⟩
  have HBX := Aside0.mk hbx
  have HRd := Aside0.mk hRd
  have HB2 := Aside0.mk hB2
  have hbk2 := blk_lt hbx
  clear hbx hRd hB2
  go_wp2
  refine wpIn_seq (wpIn_wide.2 ?_)
  go_wp2
  refine wpIn_seq (wpIn_seq ?_)
  gi_wp2
  refine ⟨trivial, ?_⟩
  refine (callsIn_wide.2 (edges_calls A0 l0.length c0 _)).mono ?_
  rintro e w' ⟨rfl, rfl⟩
  gi_wp2
  have c3 := cell_new_c' W2 (.func (.func 103) #[] #[.pointer (some ⟨bk, 0, none⟩)]) 53
  have c4 := World.alloc_heap_new (W2.alloc (.cells #[.func (.func 103) #[] #[.pointer (some ⟨bk, 0, none⟩)]] 53)) (.cells #[.slice none 0 0] 23)
  have c6 := cell_new_c' ((W2.alloc (.cells #[.func (.func 103) #[] #[.pointer (some ⟨bk, 0, none⟩)]] 53)).alloc (.cells #[.slice none 0 0] 23)) (.slice A0 l0.length c0) 22
  have hB5 : Below W2.heap.size W2 (((W2.alloc (.cells #[.func (.func 103) #[] #[.pointer (some ⟨bk, 0, none⟩)]] 53)).alloc (.cells #[.slice none 0 0] 23)).alloc (.cells #[.slice A0 l0.length c0] 22)) := below_alloc (below_alloc (below_alloc (Below.refl _ _) _) _) _
  simp only [World.size_alloc] at c4 c6
  obtain ⟨wL, hwL⟩ : ∃ wL, (((W2.alloc (.cells #[.func (.func 103) #[] #[.pointer (some ⟨bk, 0, none⟩)]] 53)).alloc (.cells #[.slice none 0 0] 23)).alloc (.cells #[.slice A0 l0.length c0] 22)) = wL := ⟨_, rfl⟩
  have hsz : wL.heap.size = W2.heap.size + 3 := by rw [← hwL]; simp
  have k5 : wL.heap[W2.heap.size + 1]? = some (.cells #[.slice none 0 0] 23 (0, 0)) := by
    rw [← hwL]
    exact (below_alloc (Below.refl _ _) _ : Below _ _ _).block _ (by simp) |>.trans c4
  have k3 : wL.cell? ⟨W2.heap.size, 0, none⟩ = some (.func (.func 103) #[] #[.pointer (some ⟨bk, 0, none⟩)]) := by rw [← hwL]; exact cell_alloc' _ (cell_alloc' _ c3.1)
  have K3 := Aside0.mk k3
  have HI0 := Aside0.mk (OutIn.start (d := Kd.int .i64) (e := 3) k5)
  have hMW := HI0.out.names
  have hMd : Told wL.heap.size (BxM (W2.heap.size + 1)) := BxM.told (by omega)
  rw [hwL] at c6 hB5 ⊢
  have HB5 := Aside0.mk hB5
  have HBL := Aside0.mk (HB2.out.trans (hB5.mono HB2.out.size))
  refine wpIn_rangeFunc_ownG rfl (by omega) (gf := 104) (lb := #[.pointer (some ⟨W2.heap.size + 1 + 1, 0, none⟩)]) rfl trivial (enters_of Try.func104 (by kernel_rfl) rfl)
    (edges_stops 5 (by omega) (W2.heap.size + 1 + 1) A0 c0 l0 HOK.out (BxM (W2.heap.size + 1)) wL hMd hMW (Kd.C_below HR.out HBL.out) HC0.out c6.1) EdKp.trans (EdKp.put hMd) (Below.refl _ _) (fun _ => rfl)
    (fun pre W => OutIn wL (W2.heap.size + 1) (Kd.int .i64) 3 23 (hdL d (pre.map Subtype.val)) W)
    (fun _ _ _ => False)
    (fun s A B row hs hg hr => hs.kept hg hr (by omega))
    (fun _ _ _ _ _ hs _ _ => hs)
    HI0.out
    (fun x => { tmps := #[Value.slice A0 l0.length c0, undef, Value.slice none 0 0,
          Value.pointer (some { block := W2.heap.size, off := 0 }),
          Value.pointer (some { block := W2.heap.size + 1, off := 0 }), .int .i64 x.1.1, .int .i64 x.1.2, Value.slice A0 l0.length c0,
          Value.func (Fn.func 103) #[] #[Value.pointer (some { block := bk, off := 0 })], Value.slice A0 l0.length c0,
          Value.func (Fn.func 104) #[] #[Value.pointer (some { block := W2.heap.size + 1 + 1, off := 0 })], .int .i64 x.1.1, .int .i64 x.1.2,
          undef, undef, undef, undef, undef, undef, undef, undef, undef, undef, undef, undef], defers := [] }) ?assign ?body ?done ?stop
  case assign =>
    intro l x W K hK
    simp only [edEnc]
    gi_wp2
    exact hK
  case body =>
    rintro l pre ⟨⟨a, b⟩, ha0, ha1, hb0, hb1⟩ W hI hlt
    have HSZ := Aside0.mk hsz
    clear hMd hMW hB5 c3 c4 c6 HI0 hwL k5 k3 hsz
    simp only at ha0 ha1 hb0 hb1
    obtain ⟨out, hout⟩ : ∃ out, hdL d (pre.map Subtype.val) = out := ⟨_, rfl⟩
    rw [hout] at hI
    have HOL : Aside0 (out.length ≤ 1000000000000) := ⟨by
      have h1 := hdL_length d (pre.map Subtype.val)
      rw [hout, List.length_map] at h1
      have h2 := HEL.out
      omega⟩
    have hsnoc : hdL d ((pre ++ [(⟨(a, b), by omega⟩ : Ed l0.length)]).map Subtype.val) = if backL d a b = true then out ++ [b] else out := by
      rw [List.map_append, ← hout]
      exact hdL_snoc _ _ _ _
    have HSN := Aside0.mk hsnoc
    have HIN := Aside0.mk hI
    clear hsnoc hout
    have hf := hI.far
    have hBW : Below W2.heap.size W2 W := HB5.out.trans (hI.stay.mono (by have := HSZ.out; omega))
    have hc3 : W.cell? ⟨W2.heap.size, 0, none⟩ = some (.func (.func 103) #[] #[.pointer (some ⟨bk, 0, none⟩)]) := (hI.stay.cell (p := ⟨W2.heap.size, 0, none⟩) (by simp)).trans K3.out
    have hcon := back1_calls bk Ad cd d a b W ((hBW.cell (p := ⟨bk, 0, none⟩) hbk2).trans (cell_of_box' HBX.out).1) (Kd.C_below (Kd.R_reads' HRd.out).2.2 hBW) (Kd.R_reads' HRd.out).2.1 (by have := HDL.out; omega) ha0 (by have := HDL.out; omega)
    have HCON := Aside0.mk hcon
    clear hcon hI hBW
    cases hback : backL d a b with
    | false =>
      have HSN2 := HSN.out
      rw [hback] at HSN2 HCON
      have HSN3 := Aside0.mk HSN2
      clear HSN2
      gi_wp2
      refine ⟨trivial, ?_⟩
      refine (CallsIn.inRound l (callsIn_wide.2 HCON.out)).mono ?_
      rintro e W' ⟨rfl, hB⟩
      gi_wp2
      have hr := HIN.out.call hB (by have := HSZ.out; omega)
      refine ⟨hr.1, hr.2.1, ?_⟩
      show OutIn _ _ _ _ _ (hdL d _) _
      rw [HSN3.out]
      exact hr.2.2
    | true =>
      have HSN2 := HSN.out
      rw [hback] at HSN2 HCON
      have HSN3 := Aside0.mk HSN2
      clear HSN2
      refine wpIn_block ?_
      refine wpIn_seq ?_
      refine wpIn_mono (Q := Exit.then (fun a' w' => Below W.heap.size W w' ∧ a' = { tmps := #[Value.slice A0 l0.length c0, undef, Value.slice none 0 0,
          Value.pointer (some { block := W2.heap.size, off := 0 }),
          Value.pointer (some { block := W2.heap.size + 1, off := 0 }), .int .i64 a, .int .i64 b, Value.slice A0 l0.length c0,
          Value.func (Fn.func 103) #[] #[Value.pointer (some { block := bk, off := 0 })], Value.slice A0 l0.length c0,
          Value.func (Fn.func 104) #[] #[Value.pointer (some { block := W2.heap.size + 1 + 1, off := 0 })], .int .i64 a, .int .i64 b,
          Value.func (Fn.func 103) #[] #[Value.pointer (some { block := bk, off := 0 })], .int .i64 a, .int .i64 b, .bool true, undef, undef, undef, undef, undef, undef, undef, undef], defers := [] }) (fun _ _ _ => False)) ?first ?rest
      case first =>
        gi_wp2
        refine ⟨trivial, ?_⟩
        refine (CallsIn.inRound l (callsIn_wide.2 HCON.out)).mono ?_
        rintro e W' ⟨rfl, hB⟩
        gi_wp2
        exact ⟨hB, trivial⟩
      case rest =>
        intro e a' W' h'
        cases e <;> first | exact h'.elim | skip
        obtain ⟨hB, rfl⟩ := h'
        obtain ⟨hk1, hk2, hI2⟩ := HIN.out.call hB (by have := HSZ.out; omega)
        obtain ⟨v, h5, hRv⟩ := hI2.box
        obtain ⟨hc5, hf5⟩ := cell_of_box' h5
        obtain ⟨Av, cv, rfl⟩ := Kd.R_slice hRv
        have HRv := Aside0.mk hRv
        have H5 := Aside0.mk h5
        have HK := Aside0.mk (And.intro hk1 hk2)
        have HI2 := Aside0.mk hI2
        have hf2 := hI2.far
        clear hRv h5 hk1 hk2 hI2
        refine wpIn_cond_true rfl ?_
        refine wpIn_list_plain (by kernel_rfl) (fun ⟨_, _, h'⟩ => h') ?_
        go_wp2_with (first | ((with_reducible refine gate_builtin (b := .append) (xs := #[.tmp 17, .tmp 19]) rfl ?_); at_builtin; refine Kd.R_append (Kd.int .i64) (w0 := W') (W := W') wL.heap.size rfl (.tmp 17) (.tmp 19) 23 3 (.int .i64 0) 8 rfl Try.underlying23 info3 rfl (by decide) (by omega) (.slice Av out.length cv) out b [.int .i64 b] (fun _ => True) (fun _ => False) rfl rfl ?aP (fun _ hk => hk.elim) ?aF ?aO ?aB ?aS ?aL ?_; (case aP => rfl); (case aF => exact fun _ _ => trivial); (case aO => exact HRv.out); (case aB => exact Below.refl _ _); (case aS => exact hf2); (case aL => have := HOL.out; omega); intro v20 W7 ho hb hg hat; obtain ⟨A20, n20, c20, rfl⟩ : ∃ A n c, v20 = .slice A n c := ⟨_, _, _, (Kd.R_slice ho).choose_spec.choose_spec⟩; obtain ⟨hc57, hf57⟩ := cell_of_box' ((hg.block (W2.heap.size + 1) (blk_lt H5.out) (fun h => by have := Kd.R_base HRv.out _ h.symm; have := HSZ.out; omega)).trans H5.out)) | fail)
        obtain ⟨hr1, hr2, hr3⟩ := HI2.out.append (by have := HSZ.out; omega) H5.out HRv.out ho hg hat
        refine ⟨HK.out.1.trans hr1, HK.out.2.trans hr2, ?_⟩
        show OutIn _ _ _ _ _ (hdL d _) _
        rw [HSN3.out]
        exact hr3
  case done =>
    rintro D ys W hD hys hI hK
    obtain ⟨out, hout⟩ : ∃ out, hdL d (ys.map Subtype.val) = out := ⟨_, rfl⟩
    have HOL : Aside0 (out.length ≤ 100000000) := ⟨by
      have h1 := hdL_length d (ys.map Subtype.val)
      rw [hout, hys] at h1
      have h2 := HEL.out
      omega⟩
    have HFR : Aside0 (Lib.compact (isort out) = r) := ⟨by
      rw [hys] at hout
      rw [← hout, ← HE.out]
      exact kept_all _ _ (fun x hx => by
        obtain ⟨e, he, rfl⟩ := List.mem_map.1 hx
        exact (edgesL_in l0 e (List.mem_filter.1 he).1).2)⟩
    rw [hout] at hI
    have hbW : Below w.heap.size w W := HBL.out.trans (hI.stay.mono (by have := HB2.out.size; omega))
    obtain ⟨v, h5, hRv⟩ := hI.box
    obtain ⟨hc5, hf5⟩ := cell_of_box' h5
    have HRv := Aside0.mk hRv
    have HBW := Aside0.mk hbW
    have hf := hI.far
    obtain ⟨Av, cv, rfl⟩ := Kd.R_slice hRv
    have HI := Aside0.mk hI
    have H5 := Aside0.mk h5
    clear hRv hbW hI h5 hout
    refine wpIn_seq (wpIn_wide.2 ?_)
    go_wp2_with fail
    refine (sort_R HRv.out HOL.out).mono ?_
    rintro e W1 ⟨rfl, hs1, hg1⟩
    have h51 := (hg1.block (W2.heap.size + 1) (blk_lt H5.out) (fun h => by have := Kd.R_base HRv.out _ h.symm; omega)).trans H5.out
    obtain ⟨hc51, hf51⟩ := cell_of_box' h51
    have HB1 := Aside0.mk (HBW.out.grown hg1 HBW.out.size (fun k hk => by have := Kd.R_base HRv.out k hk; have := HB2.out.size; omega))
    have HS1 := Aside0.mk hs1
    have HK1 : Aside0 (W1.heap[D]? = some (.deferred (some []))) := ⟨(hg1.block D (Array.getElem?_eq_some_iff.1 hK).1 (fun h => by
      obtain ⟨c, hc⟩ := Kd.R_typed HRv.out D h.symm
      rw [hc] at hK; cases hK)).trans hK⟩
    clear hs1 hg1 h51
    go_wp2
    refine wpIn_seq (wpIn_wide.2 ?_)
    go_wp2_with fail
    refine (compact_R HS1.out (by rw [isort_length]; exact HOL.out)).mono ?_
    rintro e W3 ⟨v', rfl, hs2, hg2⟩
    have HB3 := Aside0.mk (HB1.out.grown hg2 HB1.out.size (fun k hk => by have := Kd.R_base HS1.out k hk; have := HB2.out.size; omega))
    have HS3 := Aside0.mk hs2
    have HK3 : Aside0 (W3.heap[D]? = some (.deferred (some []))) := ⟨(hg2.block D (Array.getElem?_eq_some_iff.1 HK1.out).1 (fun h => by
      obtain ⟨c, hc⟩ := Kd.R_typed HS1.out D h.symm
      have := HK1.out
      rw [hc] at this; cases this)).trans HK1.out⟩
    clear hs2 hg2
    go_wp2
    gi_wp2
    refine ⟨by simp, .inl ⟨_, _, rfl, run_takeDeferred HK3.out, ?_⟩⟩
    refine ⟨_, results_tmp rfl _ _ _, _, rfl, ?_, ?_⟩
    · have h2 := HS3.out
      rw [HFR.out] at h2
      exact Kd.R_mono (Kd.R_lower (R_nocells h2 (grownBy_putObj' _ D _) (fun r e => by cases e; exact ⟨_, HK3.out, rfl⟩)) HBL.out.size) (fun _ _ => trivial)
    · exact HB3.out.grown (grownBy_putObj' _ D _) HB3.out.size (fun k e => by cases e; have := HBL.out.size; omega)
  case stop =>
    rintro D c pre W _ _ h _
    exact h.elim
end Go.Proofs.Ytnmeomdjhjgnfaa.X
end
section
set_option linter.unusedSimpArgs false
/-! A map of the call's own from whole numbers, read as a plain function. -/
namespace Go.Proofs.Ytnmeomdjhjgnfaa.X
open Go.RowKit Go.Maps Go.Proofs.YtnmeomdjhjgnfaaW.PrintWords Go.Proofs.YtnmeomdjhjgnfaaW.PrintLast
set_option linter.unusedVariables false
set_option maxRecDepth 100000

theorem u117 : Try.prog.underlying 117 = some (.map 3 3) := by kernel_rfl
theorem u55 : Try.prog.underlying 55 = some (.map 3 4) := by kernel_rfl
theorem key3 : Keyed Try.prog 3 := int_keyed Try.underlying3
theorem zero3' (w : World) : (zeroValue 3).run Try.prog w = .ok (.int .i64 0) w := by kernel_rfl
theorem zero4' (w : World) : (zeroValue 4).run Try.prog w = .ok (.bool false) w := by kernel_rfl
def wf64 (x : Int) : Prop := (Lit.int .i64 x).wf = true
theorem wf64_of {x : Int} (h0 : -9223372036854775808 ≤ x) (h1 : x ≤ 9223372036854775807) : wf64 x := by
  have e1 : IntKind.i64.min = -9223372036854775808 := by decide
  have e2 : IntKind.i64.max = 9223372036854775807 := by decide
  simp [wf64, Lit.wf, e1, e2]; omega

structure MI (w : World) (b n : Nat) (f : Int → Int) : Prop where
  own : ∃ D : DataW Unit, w.ownsMap Try.prog 3 (plainElem Try.prog 3) b n D ∧ ∀ x, wf64 x → D.atKey (.int .i64 x) (.lit (.int .i64 0)) = .lit (.int .i64 (f x))
theorem MI.made (w : World) : MI (w.alloc (.map #[] 0)) w.heap.size 0 (fun _ => 0) := ⟨_, World.ownsMap_made _ _ _ _, fun _ _ => rfl⟩
theorem MI.kept {w w' : World} {b n : Nat} {f : Int → Int} {row : Option Nat} (h : MI w b n f) (hg : w.grownBy w' row) (hne : some b ≠ row) : MI w' b n f := by
  obtain ⟨D, hD, hf⟩ := h.own
  exact ⟨D, hD.kept hg hne, hf⟩
theorem MI.below {w w' : World} {b n : Nat} {f : Int → Int} (h : MI w b n f) (hb : Below w.heap.size w w') : MI w' b n f := by
  obtain ⟨D, ⟨es, clock, hb', F, hs, hD⟩, hf⟩ := h.own
  exact ⟨D, ⟨es, clock, (hb.block b (Array.getElem?_eq_some_iff.1 hb').1).trans hb', F, hs, hD⟩, hf⟩
theorem MI.isMap {w : World} {b n : Nat} {f : Int → Int} (h : MI w b n f) : ∃ es clock, w.heap[b]? = some (.map es clock) := by
  obtain ⟨D, ⟨es, clock, hb', _⟩, _⟩ := h.own
  exact ⟨es, clock, hb'⟩
theorem MI.look {w : World} {b n : Nat} {f : Int → Int} (h : MI w b n f) {x : Int} (hx : wf64 x) : (Instr.lookup 117 (.map (some b)) (.int .i64 x) false).run Try.prog w = .ok (.int .i64 (f x)) w := by
  obtain ⟨D, hD, hf⟩ := h.own
  obtain ⟨c, hrun, hat, _⟩ := hD.lookup_int key3 u117 Try.underlying3 (zero3' w) (keyOf_int_mk Try.underlying3 hx)
  rw [hf x hx] at hat
  injection hat with hat
  injection hat with _ hat
  rw [hat]
  exact hrun
theorem MI.put {w : World} {b n : Nat} {f : Int → Int} (h : MI w b n f) {x v : Int} (hx : wf64 x) (hv : wf64 v) (hn : n < maxLen) :
    ∃ w', (Instr.mapUpdate 117 (.map (some b)) (.int .i64 x) (.int .i64 v)).run Try.prog w = .ok () w' ∧ MI w' b (n + 1) (fun y => if y = x then v else f y) ∧ w.grownBy w' (some b) := by
  obtain ⟨D, hD, hf⟩ := h.own
  obtain ⟨w', hrun, h1, h2⟩ := hD.update key3 u117 hn (keyOf_int_mk Try.underlying3 hx) (plainElem_int Try.underlying3 hv)
  refine ⟨w', hrun, ⟨_, h1, fun y hy => ?_⟩, h2⟩
  split
  · rename_i e
    subst e
    obtain ⟨es, clock, _, _, _, rfl⟩ := hD
    exact atKey_put_same ⟨_, rfl⟩ (key3.key (keyOf_int_mk Try.underlying3 hy)) _ _
  · rename_i e
    rw [atKey_put_other (by intro he; injection he with _ he; exact e he)]
    exact hf y hy

structure MB (w : World) (b n : Nat) (f : Int → Bool) : Prop where
  own : ∃ D : DataW Unit, w.ownsMap Try.prog 3 (plainElem Try.prog 4) b n D ∧ ∀ x, wf64 x → D.atKey (.int .i64 x) (.lit (.bool false)) = .lit (.bool (f x))
theorem MB.made (w : World) : MB (w.alloc (.map #[] 0)) w.heap.size 0 (fun _ => false) := ⟨_, World.ownsMap_made _ _ _ _, fun _ _ => rfl⟩
theorem MB.kept {w w' : World} {b n : Nat} {f : Int → Bool} {row : Option Nat} (h : MB w b n f) (hg : w.grownBy w' row) (hne : some b ≠ row) : MB w' b n f := by
  obtain ⟨D, hD, hf⟩ := h.own
  exact ⟨D, hD.kept hg hne, hf⟩
theorem MB.below {w w' : World} {b n : Nat} {f : Int → Bool} (h : MB w b n f) (hb : Below w.heap.size w w') : MB w' b n f := by
  obtain ⟨D, ⟨es, clock, hb', F, hs, hD⟩, hf⟩ := h.own
  exact ⟨D, ⟨es, clock, (hb.block b (Array.getElem?_eq_some_iff.1 hb').1).trans hb', F, hs, hD⟩, hf⟩
theorem MB.isMap {w : World} {b n : Nat} {f : Int → Bool} (h : MB w b n f) : ∃ es clock, w.heap[b]? = some (.map es clock) := by
  obtain ⟨D, ⟨es, clock, hb', _⟩, _⟩ := h.own
  exact ⟨es, clock, hb'⟩
theorem MB.look {w : World} {b n : Nat} {f : Int → Bool} (h : MB w b n f) {x : Int} (hx : wf64 x) : (Instr.lookup 55 (.map (some b)) (.int .i64 x) false).run Try.prog w = .ok (.bool (f x)) w := by
  obtain ⟨D, hD, hf⟩ := h.own
  obtain ⟨v, ps, hrun, hv⟩ := hD.lookup key3 u55 (zero4' w) (plainElem_bool Try.underlying4 false) (keyOf_int_mk Try.underlying3 hx)
  rw [hf x hx] at hv
  have : v = .bool (f x) := by
    unfold plainElem at hv
    simp only [Try.underlying4] at hv
    cases v <;> simp_all
  rw [← this]
  exact hrun
theorem MB.put {w : World} {b n : Nat} {f : Int → Bool} (h : MB w b n f) {x : Int} (v : Bool) (hx : wf64 x) (hn : n < maxLen) :
    ∃ w', (Instr.mapUpdate 55 (.map (some b)) (.int .i64 x) (.bool v)).run Try.prog w = .ok () w' ∧ MB w' b (n + 1) (fun y => if y = x then v else f y) ∧ w.grownBy w' (some b) := by
  obtain ⟨D, hD, hf⟩ := h.own
  obtain ⟨w', hrun, h1, h2⟩ := hD.update key3 u55 hn (keyOf_int_mk Try.underlying3 hx) (plainElem_bool Try.underlying4 v)
  refine ⟨w', hrun, ⟨_, h1, fun y hy => ?_⟩, h2⟩
  split
  · rename_i e
    subst e
    obtain ⟨es, clock, _, _, _, rfl⟩ := hD
    exact atKey_put_same ⟨_, rfl⟩ (key3.key (keyOf_int_mk Try.underlying3 hy)) _ _
  · rename_i e
    rw [atKey_put_other (by intro he; injection he with _ he; exact e he)]
    exact hf y hy
end Go.Proofs.Ytnmeomdjhjgnfaa.X
namespace Go.Proofs.Ytnmeomdjhjgnfaa.X
open Go.RowKit Go.Shelf Go.Proofs.YtnmeomdjhjgnfaaW.PrintWords Go.Proofs.YtnmeomdjhjgnfaaW.PrintLast
set_option linter.unusedVariables false
attribute [local go_sem] Oper.semAt_some

theorem numL_snoc (o : List Int) (b x : Int) : numL (o ++ [b]) x = if x = b then (o.length : Int) + 1 else numL o x := by
  unfold numL
  rw [List.reverse_append]
  simp only [List.reverse_cons, List.reverse_nil, List.nil_append, List.cons_append, numR, List.length_reverse]
  by_cases h : b = x
  · subst h; simp
  · rw [if_neg h, if_neg (fun e => h e.symm)]
theorem results_cell_bool {fn : Func} {p : Tmp} (h : fn.results = #[.cell p 4]) (tmps : Array Value) (w : World) (a : Addr) (b : Bool) (hp : tmps.getD p undef = .pointer (some a)) (hc : w.cell? a = some (.bool b)) :
    (results fn tmps).run Try.prog w = .ok (.bool b) w := by
  have hp' : tmps[p]?.getD undef = .pointer (some a) := by simpa using hp
  simp only [results, h]
  go_simp
def badE (d o : List Int) (e : Int × Int) : Bool := decide (0 < numL o e.1) && (decide (numL o e.2 ≤ numL o e.1) && !backL d e.1 e.2)
set_option maxHeartbeats 4000000 in
set_option maxRecDepth 100000 in
theorem graph_Reducible.calls (k : Nat) (A0 : Option Addr) (c0 : Nat) (l0 : List (List Int)) (r : Bool) (w : World) (hr0 : Kd.C (Kd.slice 3 (Kd.int .i64)) w A0 l0.length l0) (hc0 : l0.length ≤ c0) (h : graph_Reducible.f k l0 = some r) :
    Calls Try.prog 49 #[.slice A0 l0.length c0] w fun e w' => e = .returned (.bool r) ∧ Below w.heap.size w w' := by
  unfold graph_Reducible.f at h
  split at h
  case isFalse => cases h
  rename_i hok
  obtain ⟨d, hd, h⟩ := Option.bind_eq_some_iff.1 h
  obtain ⟨o, ho, h⟩ := Option.bind_eq_some_iff.1 h
  split at h
  case isFalse => cases h
  rename_i hdl
  obtain ⟨hdl, hol, hob⟩ := hdl
  injection h with h
  have hlen := (okG_len hok).1
  have HR := Aside0.mk hr0
  have HC0 := Aside0.mk hc0
  have HOK := Aside0.mk hok
  have HE := Aside0.mk h
  have HD := Aside0.mk hd
  have HO := Aside0.mk ho
  have HDL := Aside0.mk hdl
  have HOL := Aside0.mk hol
  have HOB := Aside0.mk hob
  clear hr0 hc0 hok h hd ho hdl hol hob
  have hmm := @run_makeMap Try.prog
  refine (callsIn_wide (n := 6)).1 ?_
  refine callsIn_of_wp_marks Try.func49 rfl trivial ?_ rfl
  simp only [Try.ntmps49, List.size_toArray, List.length_cons, List.length_nil, Nat.reduceAdd, Nat.reduceSub, Array.replicate_succ, Array.replicate_zero, List.push_toArray, List.append_toArray, List.nil_append, List.cons_append]
  refine wpIn_seq (wpIn_wide.2 ?_)
  go_wp2
  have hb0 : Below w.heap.size w (w.alloc (.cells #[.bool false] 4)) := below_alloc (Below.refl _ _) _
  have hcr := World.alloc_heap_new w (.cells #[.bool false] 4)
  obtain ⟨W1, hW1⟩ : ∃ W1, w.alloc (.cells #[.bool false] 4) = W1 := ⟨_, rfl⟩
  have hs1 : W1.heap.size = w.heap.size + 1 := by rw [← hW1]; simp
  rw [hW1] at hb0 hcr ⊢
  have HCR := Aside0.mk hcr
  have HB1 := Aside0.mk hb0
  have HS1 := Aside0.mk hs1
  clear hb0 hcr hs1 hW1
  refine wpIn_seq (wpIn_wide.2 ?_)
  go_wp2_with fail
  refine (back_calls k A0 c0 l0 d _ (Kd.C_below HR.out HB1.out) HC0.out HD.out).mono ?_
  rintro e W2 ⟨bk, Ad, cd, rfl, hbk, hbx, hRd, hB2⟩
  have HBX := Aside0.mk hbx
  have HRd := Aside0.mk hRd
  have HB2 := Aside0.mk hB2
  have hbk2 := blk_lt hbx
  clear hbx hRd hB2
  go_wp2
  refine wpIn_seq (wpIn_wide.2 ?_)
  go_wp2
  refine wpIn_seq (wpIn_wide.2 ?_)
  have hB3 : Below W2.heap.size W2 (((W2.alloc (.cells #[.func (.func 103) #[] #[.pointer (some ⟨bk, 0, none⟩)]] 53)).alloc (.map #[] 0)).alloc (.cells #[.map (some (W2.heap.size + 1))] 117)) := below_alloc (below_alloc (below_alloc (Below.refl _ _) _) _) _
  have c3 := cell_alloc' (.cells #[.map (some (W2.heap.size + 1))] 117) (cell_alloc' (.map #[] 0) (cell_new_c' W2 (.func (.func 103) #[] #[.pointer (some ⟨bk, 0, none⟩)]) 53).1)
  have c4 := (cell_new_c' ((W2.alloc (.cells #[.func (.func 103) #[] #[.pointer (some ⟨bk, 0, none⟩)]] 53)).alloc (.map #[] 0)) (.map (some (W2.heap.size + 1))) 117).1
  have hM3 := (MI.made (W2.alloc (.cells #[.func (.func 103) #[] #[.pointer (some ⟨bk, 0, none⟩)]] 53))).below (below_alloc (Below.refl _ _) (.cells #[.map (some (W2.heap.size + 1))] 117))
  have hs3 : ((((W2.alloc (.cells #[.func (.func 103) #[] #[.pointer (some ⟨bk, 0, none⟩)]] 53)).alloc (.map #[] 0)).alloc (.cells #[.map (some (W2.heap.size + 1))] 117))).heap.size = W2.heap.size + 3 := by simp
  simp only [World.size_alloc] at c4 hM3
  obtain ⟨W3, hW3⟩ : ∃ W3, (((W2.alloc (.cells #[.func (.func 103) #[] #[.pointer (some ⟨bk, 0, none⟩)]] 53)).alloc (.map #[] 0)).alloc (.cells #[.map (some (W2.heap.size + 1))] 117)) = W3 := ⟨_, rfl⟩
  rw [hW3] at hB3 c3 c4 hM3 hs3 ⊢
  have C3 := Aside0.mk c3
  have C4 := Aside0.mk c4
  have HM3 := Aside0.mk hM3
  have HB3 := Aside0.mk hB3
  have HS3 := Aside0.mk hs3
  clear hW3 c3 c4 hM3 hB3 hs3
  have HB03 := Aside0.mk (HB1.out.trans ((HB2.out.trans (HB3.out.mono HB2.out.size)).mono HB1.out.size))
  go_wp2_with fail
  refine (graph_Order.calls k A0 c0 l0 o _ (Kd.C_below HR.out HB03.out) HC0.out HO.out).mono ?_
  rintro e W4 ⟨v13, rfl, hRo, hB4⟩
  obtain ⟨Ao, co, rfl⟩ := Kd.R_slice hRo
  have HRo := Aside0.mk (Kd.R_reads' hRo).2.2
  have C34 := Aside0.mk ((hB4.cell (World.block_lt_of_cell? _ _ C3.out)).trans C3.out)
  have C44 := Aside0.mk ((hB4.cell (World.block_lt_of_cell? _ _ C4.out)).trans C4.out)
  have HM4 := Aside0.mk (HM3.out.below hB4)
  have HB4 := Aside0.mk hB4
  clear hRo hB4
  go_wp2
  go_loopg [15] o.length (fun kq v15 W' => ∃ i : Nat, v15 = .int .i64 i ∧ Aside0 (kq + i = o.length) ∧ Aside0 (MI W' (W2.heap.size + 1) i (numL (o.take i))) ∧ Aside0 (W4.grownBy W' (some (W2.heap.size + 1))))
  case atStart => exact ⟨0, rfl, ⟨rfl⟩, ⟨HM4.out⟩, ⟨⟨rfl, rfl, rfl, Nat.le_refl _, fun _ _ _ => rfl⟩⟩⟩
  case round =>
    obtain ⟨i, rfl, HI, HM, HG⟩ := hrel
    cases gk with
    | zero =>
      have hi : i = o.length := by have := HI.out; omega
      subst hi
      rw [List.take_length] at HM
      obtain ⟨es4, ck4, hmap4⟩ := HM4.out.isMap
      have hnc : ∀ r, some (W2.heap.size + 1) = some r → ∃ o : Obj, W4.heap[r]? = some o ∧ o.isCells = false := fun r e => by injection e with e; subst e; exact ⟨_, hmap4, rfl⟩
      have hs4 := HB4.out.size
      have hs3 := HS3.out
      have hs2 := HB2.out.size
      have hs1 := HS1.out
      have hK3 := cell_kept C34.out HG.out hnc
      have hK4 := cell_kept C44.out HG.out hnc
      have hB05 : Below w.heap.size w wr := (HB03.out.trans (HB4.out.mono (HB03.out.size))).grown HG.out (by omega) (fun k e => by injection e with e; omega)
      have hB15 : Below W1.heap.size W1 wr := ((HB2.out.trans (HB3.out.mono HB2.out.size)).trans (HB4.out.mono (by omega))).grown HG.out (by omega) (fun k e => by injection e with e; omega)
      have hB25 : Below (W2.heap.size) W2 wr := (HB3.out.trans (HB4.out.mono (by omega))).grown HG.out (by omega) (fun k e => by injection e with e; omega)
      have KR := Aside0.mk ((hB15.block _ (Array.getElem?_eq_some_iff.1 HCR.out).1).trans HCR.out)
      have KX := Aside0.mk ((hB25.block bk hbk2).trans HBX.out)
      have KD := Aside0.mk (Kd.C_below (Kd.R_reads' HRd.out).2.2 hB25)
      have KDc := Aside0.mk ((Kd.R_reads' HRd.out).2.1)
      have K3 := Aside0.mk hK3
      have K4 := Aside0.mk hK4
      have HB5 := Aside0.mk hB05
      have hws : w.heap.size < wr.heap.size := (Array.getElem?_eq_some_iff.1 KR.out).1
      clear hK3 hK4 hB05 hB15 hB25 hs4 hs3 hs2 hs1 hnc hmap4 HG HB4 HM4 C34 C44 HRo HB03 HB3 HM3 C3 C4 HCR HB2 HRd HBX HS3
      go_wp2
      refine wpIn_seq (wpIn_seq ?_)
      gi_wp2
      refine ⟨trivial, ?_⟩
      refine (callsIn_wide.2 (edges_calls A0 l0.length c0 _)).mono ?_
      rintro e w' ⟨rfl, rfl⟩
      gi_wp2
      have c6 := cell_new_c' wr (.slice A0 l0.length c0) 22
      have hB6 : Below wr.heap.size wr (wr.alloc (.cells #[.slice A0 l0.length c0] 22)) := below_alloc (Below.refl _ _) _
      have hs6 : (wr.alloc (.cells #[.slice A0 l0.length c0] 22)).heap.size = wr.heap.size + 1 := by simp
      obtain ⟨wL, hwL⟩ : ∃ wL, wr.alloc (.cells #[.slice A0 l0.length c0] 22) = wL := ⟨_, rfl⟩
      rw [hwL] at c6 hB6 hs6 ⊢
      have HB6 := Aside0.mk hB6
      have HS6 := Aside0.mk hs6
      clear hB6 hs6 hwL
      refine wpIn_rangeFunc_ownG rfl (by omega) (gf := 104) (lb := #[.pointer (some ⟨wr.heap.size, 0, none⟩)]) rfl trivial (enters_of Try.func104 (by kernel_rfl) rfl)
        (edges_stops 5 (by omega) wr.heap.size A0 c0 l0 HOK.out (fun _ _ => False) wL (fun _ _ _ _ h => h.elim) (fun _ h => h.elim) (Kd.C_below HR.out (HB5.out.trans (HB6.out.mono HB5.out.size))) HC0.out c6.1) EdKp.trans (EdKp.put (fun _ _ _ _ h => h.elim)) (Below.refl _ _) (fun _ => rfl)
        (fun pre W => Below wL.heap.size wL W ∧ ∀ e ∈ pre.map Subtype.val, badE d o e = false)
        (fun c pre W => (c = .ret ∧ ∃ e ∈ pre.map Subtype.val, badE d o e = true) ∧ (W.cell? ⟨w.heap.size, 0, none⟩ = some (.bool false) ∧ Below w.heap.size w W))
        (OwnFrom.and (ownFrom_below (Nat.le_refl _) (Nat.le_refl _)) (ownFrom_pure _ _))
        (fun c s A B row hs hg hr => ⟨hs.1, cell_kept hs.2.1 hg (fun r e => (hr r e).2), hs.2.2.grown hg hs.2.2.size (fun k e => by have := (hr k e).1; have := HS6.out; omega)⟩)
        ⟨Below.refl _ _, by simp⟩
        (fun x => { tmps := #[Value.slice A0 l0.length c0, undef, Value.pointer (some { block := w.heap.size, off := 0 }),
          Value.pointer (some { block := W2.heap.size, off := 0 }),
          Value.pointer (some { block := W2.heap.size + 1 + 1, off := 0 }), u5, u6, .int .i64 x.1.1, .int .i64 x.1.2,
          Value.slice A0 l0.length c0, Value.func (Fn.func 103) #[] #[Value.pointer (some { block := bk, off := 0 })],
          Value.map (some (W2.heap.size + 1)), Value.slice A0 l0.length c0, Value.slice Ao o.length co,
          Value.int IntKind.i64 ↑o.length, Value.int IntKind.i64 ↑o.length, Value.bool false, u17, u18, u19, u20, u21,
          u22, u23, u24, Value.slice A0 l0.length c0,
          Value.func (Fn.func 104) #[] #[Value.pointer (some { block := wr.heap.size, off := 0 })], .int .i64 x.1.1, .int .i64 x.1.2, undef, undef, undef, undef, undef, undef, undef, undef, undef, undef, undef, undef, undef, undef, undef, undef, undef, undef, undef, undef], defers := [] }) ?assign ?body ?done ?stop
      case assign =>
        intro l x W K hK
        simp only [edEnc]
        gi_wp2
        exact hK
      case body =>
        rintro l pre ⟨⟨a, b⟩, ha0, ha1, hb0, hb1⟩ W ⟨hB, hall⟩ hlt
        simp only at ha0 ha1 hb0 hb1
        have hbW1 : Below wr.heap.size wr W := HB6.out.trans (hB.mono HB6.out.size)
        have hc3 := (hbW1.cell (World.block_lt_of_cell? _ _ K3.out)).trans K3.out
        have hc4 := (hbW1.cell (World.block_lt_of_cell? _ _ K4.out)).trans K4.out
        have hMW := HM.out.below hbW1
        have hla := hMW.look (x := a) (wf64_of (by omega) (by omega))
        have hlb := hMW.look (x := b) (wf64_of (by omega) (by omega))
        have hhr := (hbW1.block _ hws).trans KR.out
        have hcon := back1_calls bk Ad cd d a b W ((hbW1.cell (p := ⟨bk, 0, none⟩) (Array.getElem?_eq_some_iff.1 KX.out).1).trans (cell_of_box' KX.out).1) (Kd.C_below KD.out hbW1) KDc.out (by have := HDL.out; omega) ha0 (by have := HDL.out; omega)
        have HCON := Aside0.mk hcon
        have HHR := Aside0.mk hhr
        have HALL := Aside0.mk hall
        have HB := Aside0.mk hB
        have HBWW : Aside0 (Below w.heap.size w W) := ⟨HB5.out.trans (hbW1.mono HB5.out.size)⟩
        have HFW : Aside0 (wL.heap.size ≤ W.heap.size) := ⟨hB.size⟩
        have hgood : badE d o (a, b) = false → ∀ e ∈ (pre ++ [(⟨(a, b), by omega⟩ : Ed l0.length)]).map Subtype.val, badE d o e = false := by
          intro hb e he
          rw [List.map_append, List.mem_append] at he
          rcases he with he | he
          · exact HALL.out e he
          · simp only [List.map_cons, List.map_nil, List.mem_singleton] at he
            rw [he]; exact hb
        have HGOOD := Aside0.mk hgood
        clear hcon hhr hall hB hbW1 hMW hgood
        by_cases h1 : 0 < numL o a
        · have k1 : decide (0 < numL o a) = true := decide_eq_true h1
          by_cases h2 : numL o b ≤ numL o a
          · have k2 : decide (numL o b ≤ numL o a) = true := decide_eq_true h2
            cases hback : backL d a b with
            | true =>
              rw [hback] at HCON
              gi_wp2
              refine ⟨trivial, ?_⟩
              refine (CallsIn.inRound l (callsIn_wide.2 HCON.out)).mono ?_
              rintro e W' ⟨rfl, hBW'⟩
              gi_wp2
              have hbe : badE d o (a, b) = false := by simp [badE, hback]
              exact ⟨KeepsFrom.of_below hBW', EdKp.of_below (fun _ _ _ _ h => h.elim) HFW.out hBW', HB.out.trans (hBW'.mono HFW.out), HGOOD.out hbe⟩
            | false =>
              rw [hback] at HCON
              gi_wp2
              refine ⟨trivial, ?_⟩
              refine (CallsIn.inRound l (callsIn_wide.2 HCON.out)).mono ?_
              rintro e W' ⟨rfl, hBW'⟩
              have hhr' := (hBW'.block _ (Array.getElem?_eq_some_iff.1 HHR.out).1).trans HHR.out
              obtain ⟨hcr, hfr⟩ := cell_of_box' hhr'
              gi_wp2
              have hbe : badE d o (a, b) = true := by simp [badE, hback, h1, h2]
              have hg8 := grownBy_setCell_b W' w.heap.size 0 (.bool false)
              refine ⟨(KeepsFrom.of_below hBW').trans (KeepsFrom.of_grownBy hg8 (fun j e => by injection e with e; have := HS6.out; omega)), ⟨rfl, (a, b), by simp, hbe⟩, World.cell?_setCell_same _ _ _ hcr, ?_⟩
              exact (HBWW.out.trans (hBW'.mono HBWW.out.size)).grown hg8 (by have := HBWW.out.size; have := hBW'.size; omega) (fun k e => by injection e with e; omega)
          · have k2 : decide (numL o b ≤ numL o a) = false := decide_eq_false h2
            gi_wp2
            refine ⟨fun f h => (by cases h), ?_⟩
            gi_wp2
            have hbe : badE d o (a, b) = false := by simp [badE, k2]
            exact ⟨KeepsFrom.refl _ _, EdKp.refl _ _ _, HB.out, HGOOD.out hbe⟩
        · have k1 : decide (0 < numL o a) = false := decide_eq_false h1
          gi_wp2
          refine ⟨fun f h => (by cases h), ?_⟩
          gi_wp2
          have hbe : badE d o (a, b) = false := by simp [badE, k1]
          exact ⟨KeepsFrom.refl _ _, EdKp.refl _ _ _, HB.out, HGOOD.out hbe⟩
      case done =>
        rintro D ys W hD hys ⟨hB, hall⟩ hK
        have hr : r = true := by
          rw [← HE.out]
          unfold redL
          rw [List.all_eq_true]
          intro e he
          rw [← hys] at he
          have h1 := hall e he
          unfold badE at h1
          rw [h1]; rfl
        subst hr
        have hh1 : W.heap[w.heap.size]? = some (.cells #[.bool false] 4 (0, 0)) := ((HB6.out.trans (hB.mono HB6.out.size)).block w.heap.size hws).trans KR.out
        obtain ⟨hc1, hf1⟩ := cell_of_box' hh1
        have hbW : Below w.heap.size w W := (HB5.out.trans (HB6.out.mono HB5.out.size)).trans (hB.mono (by have := HS6.out; omega))
        gi_wp2
        refine ⟨by simp, .inl ⟨_, _, rfl, run_takeDeferred ((Below.heap_setCell _ _ _ D (by have := HS6.out; simp only; omega)).trans hK), ?_⟩⟩
        refine ⟨_, results_cell_bool rfl _ _ ⟨w.heap.size, 0, none⟩ true rfl ?_, rfl, ?_⟩
        · exact cell_kept (World.cell?_setCell_same _ _ _ hc1) (grownBy_putObj' _ D _) (fun r e => by cases e; exact ⟨_, (Below.heap_setCell _ _ _ D (by have := HS6.out; simp only; omega)).trans hK, rfl⟩)
        · exact (hbW.grown (grownBy_setCell_b W w.heap.size 0 (.bool true)) hbW.size (fun k e => by injection e with e; omega)).grown (grownBy_putObj' _ D _) (by have := hbW.size; simp [World.setCell]; omega) (fun k e => by cases e; have := HS6.out; omega)
      case stop =>
        rintro D c pre W hD hpre ⟨⟨rfl, hbad⟩, hc1, hbW⟩ hK
        have hr : r = false := by
          rw [← HE.out]
          unfold redL
          rw [List.all_eq_false]
          obtain ⟨e, he, hb⟩ := hbad
          refine ⟨e, hpre.subset he, ?_⟩
          unfold badE at hb
          rw [hb]; simp
        subst hr
        gi_wp2
        refine ⟨by simp, .inl ⟨_, _, rfl, run_takeDeferred hK, ?_⟩⟩
        refine ⟨_, results_cell_bool rfl _ _ ⟨w.heap.size, 0, none⟩ false rfl ?_, rfl, ?_⟩
        · exact cell_kept hc1 (grownBy_putObj' _ D _) (fun r e => by cases e; exact ⟨_, hK, rfl⟩)
        · exact hbW.grown (grownBy_putObj' _ D _) hbW.size (fun k e => by cases e; have := HS6.out; omega)
    | succ k1 =>
      have hi : i < o.length := by have := HI.out; omega
      obtain ⟨ad, eao, hc⟩ := Kd.at_int HRo.out (i : Int) (by omega) (by omega)
      subst eao
      simp only [Int.toNat_natCast] at hc
      obtain ⟨es4, ck4, hmap4⟩ := HM4.out.isMap
      have hnc : ∀ r, some (W2.heap.size + 1) = some r → ∃ o : Obj, W4.heap[r]? = some o ∧ o.isCells = false := fun r e => by injection e with e; subst e; exact ⟨_, hmap4, rfl⟩
      have hcw : wr.cell? (ad.add i) = some (.int .i64 (rd o i)) := cell_kept hc HG.out hnc
      have hcb : wr.cell? ⟨W2.heap.size + 1 + 1, 0, none⟩ = some (.map (some (W2.heap.size + 1))) := cell_kept C44.out HG.out hnc
      have hmem : rd o i ∈ o := by
        have e : rd o i = o[i] := by simp [rd, hi]
        rw [e]; exact List.getElem_mem _
      have hbo := HOB.out _ hmem
      have hol := HOL.out
      have hwf : wf64 (rd o i) := wf64_of (by omega) (by omega)
      have hwi : wrap64 ((i : Int) + 1) = (i : Int) + 1 := by unfold wrap64; omega
      obtain ⟨W', hrun, hM', hg'⟩ := HM.out.put (v := (i : Int) + 1) hwf (wf64_of (by omega) (by omega)) (by unfold maxLen; omega)
      have HM' : Aside0 (MI W' (W2.heap.size + 1) (i + 1) (numL (o.take (i + 1)))) := ⟨by
        have e : numL (o.take (i + 1)) = fun y => if y = rd o i then (i : Int) + 1 else numL (o.take i) y := by
          funext y
          rw [take_snoc_rd o i hi, numL_snoc, List.length_take, Nat.min_eq_left (by omega)]
        rw [e]; exact hM'⟩
      have HG' := Aside0.mk (HG.out.trans hg')
      clear hM' hg' hnc hmap4 hc hbo hmem
      go_wp2
      go_roundg k1
      case measure => omega
      case rel => exact ⟨i + 1, by go_num, ⟨by have := HI.out; omega⟩, HM', HG'⟩
end Go.Proofs.Ytnmeomdjhjgnfaa.X
end
section
set_option linter.unusedSimpArgs false
namespace Go.Proofs.Ytnmeomdjhjgnfaa.X
open Go.RowKit Go.Shelf Go.Proofs.YtnmeomdjhjgnfaaW.PrintWords Go.Proofs.YtnmeomdjhjgnfaaW.PrintLast
set_option linter.unusedVariables false
attribute [local go_sem] Oper.semAt_some

def opL (d : List Int) (h : Int) (es : List (Int × Int)) : List Int := (es.filter fun e => e.2 == h && backL d e.1 e.2).map (·.1)
theorem opL_snoc (d : List Int) (h : Int) (es : List (Int × Int)) (a b : Int) : opL d h (es ++ [(a, b)]) = if (b == h && backL d a b) = true then opL d h es ++ [a] else opL d h es := by
  unfold opL
  rw [List.filter_append, List.map_append]
  simp only [List.filter_cons, List.filter_nil]
  split <;> simp
theorem opL_length (d : List Int) (h : Int) (es : List (Int × Int)) : (opL d h es).length ≤ es.length := by
  unfold opL; rw [List.length_map]; exact List.length_filter_le _ _

/-- The code's end is a return. -/
def onlyRet (Q : Exit → Act → World → Prop) : Exit → Act → World → Prop
  | .ret, a, w => Q .ret a w
  | _, _, _ => False
theorem wpIn_onlyRet {F : Fence} {n : Nat} {P : Program} {c : Code} {Q : Exit → Act → World → Prop} {a : Act} {w : World} (h : c.wpIn F n P (onlyRet Q) a w) : c.wpIn F n P Q a w :=
  wpIn_mono h (fun e a w h => by cases e <;> first | exact h | exact h.elim)
theorem preds_in_fold (n : Nat) (es : List (Int × Int)) : ∀ rows : List (List Int), (∀ r ∈ rows, ∀ x ∈ r, 0 ≤ x ∧ x < (n : Int)) → (∀ e ∈ es, 0 ≤ e.1 ∧ e.1 < n) → ∀ r ∈ es.foldl predStep rows, ∀ x ∈ r, 0 ≤ x ∧ x < n := by
  induction es with
  | nil => intro rows h _; exact h
  | cons e es ih =>
    intro rows h he
    refine ih _ (fun r hr x hx => ?_) (fun e' h' => he e' (List.mem_cons_of_mem _ h'))
    rcases List.mem_or_eq_of_mem_set hr with hr | rfl
    · exact h r hr x hx
    · rcases List.mem_append.1 hx with hx | hx
      · rcases getD_mem rows e.2.toNat with h2 | h2
        · rw [h2] at hx; cases hx
        · exact h _ h2 x hx
      · rw [List.mem_singleton.1 hx]; exact he e List.mem_cons_self
theorem predsL_in (g : List (List Int)) : ∀ r ∈ predsL g, ∀ x ∈ r, 0 ≤ x ∧ x < g.length :=
  preds_in_fold g.length (edgesL g) _ (fun r hr x hx => by rw [List.eq_of_mem_replicate hr] at hx; cases hx) (fun e he => (edgesL_in g e he).1)
theorem getD_mem' (l : List (List Int)) (i : Nat) : ∀ x ∈ l.getD i [], l.getD i [] ∈ l := by
  intro x hx
  rcases getD_mem l i with h | h
  · rw [h] at hx; cases hx
  · exact h
theorem MB.same {w w' : World} {b n : Nat} {f : Int → Bool} (h : MB w b n f) (he : w'.heap[b]? = w.heap[b]?) : MB w' b n f := by
  obtain ⟨D, ⟨es, clock, hb', F, hs, hD⟩, hf⟩ := h.own
  exact ⟨D, ⟨es, clock, he.trans hb', F, hs, hD⟩, hf⟩
/-- Memory while the loop's blocks are gathered. -/
structure BdIn (w wL : World) (b9 bm D : Nat) (o s : List Int) (W : World) : Prop where
  box : ∃ v, W.heap[b9]? = some (.cells #[v] 23 (0, 0)) ∧ (Kd.int .i64).R 3 W wL.heap.size (fun _ => True) v o
  map : MB W bm s.length (fun x => s.contains x)
  stay : ∀ k, k < b9 → k ≠ bm → W.heap[k]? = wL.heap[k]?
  below : Below w.heap.size w W
  defer : W.heap[D]? = some (.deferred (some []))
  far : wL.heap.size ≤ W.heap.size
theorem bd_store {w wL W : World} {b9 bm D : Nat} {o' s : List Int} {v v' : Value} (hv : W.heap[b9]? = some (.cells #[v] 23 (0, 0))) (hmap : MB W bm s.length (fun x => s.contains x)) (hstay : ∀ k, k < b9 → k ≠ bm → W.heap[k]? = wL.heap[k]?) (hbelow : Below w.heap.size w W)
    (hdefer : W.heap[D]? = some (.deferred (some []))) (hf : wL.heap.size ≤ W.heap.size) (hw : w.heap.size ≤ bm) (h1 : bm < b9) (h2 : b9 < wL.heap.size) (h3 : wL.heap.size ≤ D) (hR : (Kd.int .i64).R 3 W wL.heap.size (fun _ => True) v' o') :
    BdIn w wL b9 bm D o' s (W.setCell ⟨b9, 0, none⟩ v') := by
  have hg := grownBy_setCell_b W b9 0 v'
  have hne : ∀ k, k < W.heap.size → k ≠ b9 → (W.setCell ⟨b9, 0, none⟩ v').heap[k]? = W.heap[k]? := fun k hk hn => hg.block k hk (by intro e; injection e with e; exact hn e)
  refine ⟨⟨v', heap_box hv _, Kd.R_mono (Kd.R_step (Kd.R_bound hR) (fun k hk hlt => hne k hlt (by have := hk.2.1; omega))) (fun _ _ => trivial)⟩, hmap.same (hne bm (by omega) (by omega)), fun k hk hn => (hne k (by omega) (by omega)).trans (hstay k hk hn),
    hbelow.grown hg hbelow.size (fun k e => by injection e with e; omega), (hne D (Array.getElem?_eq_some_iff.1 hdefer).1 (by omega)).trans hdefer, Nat.le_trans hf hg.size⟩
theorem BdIn.pop {w wL W : World} {b9 bm D : Nat} {o o' s : List Int} {v' : Value} (h : BdIn w wL b9 bm D o s W) (hw : w.heap.size ≤ bm) (h1 : bm < b9) (h2 : b9 < wL.heap.size) (h3 : wL.heap.size ≤ D) (hR : (Kd.int .i64).R 3 W wL.heap.size (fun _ => True) v' o') :
    BdIn w wL b9 bm D o' s (W.setCell ⟨b9, 0, none⟩ v') := by
  obtain ⟨v, hv, _⟩ := h.box
  exact bd_store hv h.map h.stay h.below h.defer h.far hw h1 h2 h3 hR
theorem BdIn.put {w wL W W' : World} {b9 bm D : Nat} {o s s' : List Int} (h : BdIn w wL b9 bm D o s W) (hw : w.heap.size ≤ bm) (h1 : bm < b9) (h2 : b9 < wL.heap.size) (h3 : wL.heap.size ≤ D) (hg : W.grownBy W' (some bm)) (hM : MB W' bm s'.length (fun x => s'.contains x)) :
    BdIn w wL b9 bm D o s' W' := by
  obtain ⟨v, hv, hR⟩ := h.box
  have hne : ∀ k, k < W.heap.size → k ≠ bm → W'.heap[k]? = W.heap[k]? := fun k hk hn => hg.block k hk (by intro e; injection e with e; exact hn e)
  have hf := h.far
  refine ⟨⟨v, (hne b9 (by omega) (by omega)).trans hv, Kd.R_mono (Kd.R_step (Kd.R_bound hR) (fun k hk hlt => hne k hlt (by have := hk.2.1; omega))) (fun _ _ => trivial)⟩, hM, fun k hk hn => (hne k (by omega) hn).trans (h.stay k hk hn),
    h.below.grown hg h.below.size (fun k e => by injection e with e; omega), (hne D (Array.getElem?_eq_some_iff.1 h.defer).1 (by omega)).trans h.defer, Nat.le_trans h.far hg.size⟩
theorem BdIn.grow {w wL W W' : World} {b9 bm D : Nat} {o s : List Int} {v : Value} (h : BdIn w wL b9 bm D o s W) (h1 : bm < b9) (h2 : b9 < wL.heap.size) (hw : w.heap.size ≤ wL.heap.size)
    (hv : W.heap[b9]? = some (.cells #[v] 23 (0, 0))) (hR : (Kd.int .i64).R 3 W wL.heap.size (fun _ => True) v o) (hg : W.grownBy W' v.ownBlock) :
    W'.heap[b9]? = some (.cells #[v] 23 (0, 0)) ∧ MB W' bm s.length (fun x => s.contains x) ∧ (∀ k, k < b9 → k ≠ bm → W'.heap[k]? = wL.heap[k]?) ∧ Below w.heap.size w W' ∧ W'.heap[D]? = some (.deferred (some [])) ∧ wL.heap.size ≤ W'.heap.size := by
  have hb := Kd.R_base hR
  have hf := h.far
  have hne : ∀ k, k < wL.heap.size → W'.heap[k]? = W.heap[k]? := fun k hk => hg.block k (by omega) (fun e => by have := hb k e.symm; omega)
  refine ⟨(hne b9 h2).trans hv, h.map.same (hne bm (by omega)), fun k hk hn => (hne k (by omega)).trans (h.stay k hk hn), h.below.grown hg h.below.size (fun k e => by have := hb k e; omega), ?_, Nat.le_trans hf hg.size⟩
  refine (hg.block D (Array.getElem?_eq_some_iff.1 h.defer).1 (fun e => ?_)).trans h.defer
  obtain ⟨c, hc⟩ := Kd.R_typed hR D e.symm
  have := h.defer
  rw [hc] at this
  cases this
theorem BdIn.app {w wL W W' : World} {b9 bm D : Nat} {o o' s : List Int} {v v' : Value} (h : BdIn w wL b9 bm D o s W) (hw : w.heap.size ≤ bm) (h1 : bm < b9) (h2 : b9 < wL.heap.size) (h3 : wL.heap.size ≤ D)
    (hv : W.heap[b9]? = some (.cells #[v] 23 (0, 0))) (hR : (Kd.int .i64).R 3 W wL.heap.size (fun _ => True) v o) (hg : W.grownBy W' v.ownBlock) (hR' : (Kd.int .i64).R 3 W' wL.heap.size (fun _ => True) v' o') :
    BdIn w wL b9 bm D o' s (W'.setCell ⟨b9, 0, none⟩ v') := by
  obtain ⟨k1, k2, k3, k4, k5, k6⟩ := h.grow h1 h2 (by omega) hv hR hg
  exact bd_store k1 k2 k3 k4 k5 k6 hw h1 h2 h3 hR'
set_option maxHeartbeats 8000000 in
set_option maxRecDepth 100000 in
theorem graph_Body.calls (k : Nat) (A0 : Option Addr) (c0 : Nat) (l0 : List (List Int)) (a1 : Int) (r : List Int) (w : World) (hr0 : Kd.C (Kd.slice 3 (Kd.int .i64)) w A0 l0.length l0) (hc0 : l0.length ≤ c0) (h : graph_Body.f k l0 a1 = some r) :
    Calls Try.prog 39 #[.slice A0 l0.length c0, .int .i64 a1] w fun e w' => ∃ v0_ : Value, e = .returned (v0_) ∧ Kd.R (Kd.int .i64) 3 w' w.heap.size (fun _ => True) v0_ r ∧ Below w.heap.size w w' := by
  unfold graph_Body.f at h
  split at h
  case isFalse => cases h
  rename_i hok
  obtain ⟨d, hd, h⟩ := Option.bind_eq_some_iff.1 h
  obtain ⟨o, ho, h⟩ := Option.bind_eq_some_iff.1 h
  split at h
  case isFalse => cases h
  rename_i hdl
  obtain ⟨hdl, hel, hol, hob, ha0, ha1⟩ := hdl
  have hlen := (okG_len hok).1
  have HR := Aside0.mk hr0
  have HC0 := Aside0.mk hc0
  have HOK := Aside0.mk hok
  have HE := Aside0.mk h
  have HD := Aside0.mk hd
  have HO := Aside0.mk ho
  have HDL := Aside0.mk hdl
  have HEL := Aside0.mk hel
  have HOL := Aside0.mk hol
  have HOB := Aside0.mk hob
  clear hr0 hc0 hok h hd ho hdl hol hob hel
  have hmm := @run_makeMap Try.prog
  refine (callsIn_wide (n := 6)).1 ?_
  refine callsIn_of_wp_marks Try.func39 rfl trivial ?_ rfl
  simp only [Try.ntmps39, List.size_toArray, List.length_cons, List.length_nil, Nat.reduceAdd, Nat.reduceSub, Array.replicate_succ, Array.replicate_zero, List.push_toArray, List.append_toArray, List.nil_append, List.cons_append]
  refine wpIn_seq (wpIn_wide.2 ?_)
  go_wp2
  have hb0 : Below w.heap.size w (w.alloc (.cells #[.int .i64 a1] 3)) := below_alloc (Below.refl _ _) _
  have hcr := cell_new_c' w (.int .i64 a1) 3
  obtain ⟨W1, hW1⟩ : ∃ W1, w.alloc (.cells #[.int .i64 a1] 3) = W1 := ⟨_, rfl⟩
  have hs1 : W1.heap.size = w.heap.size + 1 := by rw [← hW1]; simp
  rw [hW1] at hb0 hcr ⊢
  have HCR := Aside0.mk hcr.1
  have HB1 := Aside0.mk hb0
  have HS1 := Aside0.mk hs1
  clear hb0 hcr hs1 hW1
  refine wpIn_seq (wpIn_wide.2 ?_)
  go_wp2_with fail
  refine (back_calls k A0 c0 l0 d _ (Kd.C_below HR.out HB1.out) HC0.out HD.out).mono ?_
  rintro e W2 ⟨bk, Ad, cd, rfl, hbk, hbx, hRd, hB2⟩
  have HBX := Aside0.mk hbx
  have HRd := Aside0.mk (Kd.R_reads' hRd)
  have HB2 := Aside0.mk (HB1.out.trans (hB2.mono HB1.out.size))
  have HCR2 := Aside0.mk ((hB2.cell (World.block_lt_of_cell? _ _ HCR.out)).trans HCR.out)
  have hbk2 := blk_lt hbx
  clear hbx hRd hB2 HCR HB1 HS1
  go_wp2
  have hb3 : Below W2.heap.size W2 (W2.alloc (.cells #[.func (.func 103) #[] #[.pointer (some ⟨bk, 0, none⟩)]] 53)) := below_alloc (Below.refl _ _) _
  have hc3 := cell_new_c' W2 (.func (.func 103) #[] #[.pointer (some ⟨bk, 0, none⟩)]) 53
  obtain ⟨W3, hW3⟩ : ∃ W3, W2.alloc (.cells #[.func (.func 103) #[] #[.pointer (some ⟨bk, 0, none⟩)]] 53) = W3 := ⟨_, rfl⟩
  have hs3 : W3.heap.size = W2.heap.size + 1 := by rw [← hW3]; simp
  rw [hW3] at hb3 hc3 ⊢
  have HC3 := Aside0.mk hc3.1
  have HB3 := Aside0.mk hb3
  have HS3 := Aside0.mk hs3
  have HB03 := Aside0.mk (HB2.out.trans (hb3.mono HB2.out.size))
  clear hb3 hc3 hs3 hW3
  refine wpIn_seq (wpIn_wide.2 ?_)
  go_wp2_with fail
  refine (graph_Preds.calls A0 c0 l0 (predsL l0) _ (Kd.C_below HR.out HB03.out) HC0.out (by unfold graph_Preds.f; rw [if_pos HOK.out])).mono ?_
  rintro e W4 ⟨v17, rfl, hS17, hB4⟩
  obtain ⟨Ap, cp, rfl, _, _⟩ := Kd.S_reads hS17
  rw [predsL_length] at hS17 ⊢
  have HP4 := Aside0.mk hS17
  have HB4 := Aside0.mk hB4
  clear hS17 hB4
  go_wp2
  refine wpIn_seq (wpIn_wide.2 ?_)
  go_wp2_with fail
  refine (graph_Order.calls k A0 c0 l0 o _ (Kd.C_below HR.out (HB03.out.trans (HB4.out.mono HB03.out.size))) HC0.out HO.out).mono ?_
  rintro e W5 ⟨v21, rfl, hRo, hB5⟩
  obtain ⟨Ao, co, rfl⟩ := Kd.R_slice hRo
  have HO5 := Aside0.mk (Kd.R_reads' hRo)
  have HB35 := Aside0.mk (HB4.out.trans (hB5.mono HB4.out.size))
  have HP5 := Aside0.mk (Kd.S_mono (ok' := fun k => k < W4.heap.size) (Kd.S_bound (Kd.S_below (Kd.S_mono (ok' := fun k => k < W4.heap.size) (Kd.S_bound HP4.out) (fun k hk => hk.2.2.1)) hB5)) (fun k hk => hk.1))
  have hs45 := hB5.size
  clear hRo hB5 HP4
  go_wp2
  have hHM := World.alloc_heap_new W5 (.map #[] 0)
  obtain ⟨W6, hrun6, hM6, hg6⟩ := (MB.made W5).put (x := a1) true (wf64_of (by omega) (by omega)) (by unfold maxLen; omega)
  have hc6 : (W5.alloc (.map #[] 0)).cell? ⟨w.heap.size, 0, none⟩ = some (.int .i64 a1) := cell_alloc' _ ((HB35.out.cell (World.block_lt_of_cell? _ _ ((HB3.out.cell (World.block_lt_of_cell? _ _ HCR2.out)).trans HCR2.out))).trans ((HB3.out.cell (World.block_lt_of_cell? _ _ HCR2.out)).trans HCR2.out))
  have hs56 : W5.heap.size + 1 ≤ W6.heap.size := by have := hg6.size; simpa using this
  have HB56 : Aside0 (Below W5.heap.size W5 W6) := ⟨(below_alloc (Below.refl _ _) _).grown hg6 (by simp) (fun k e => by injection e with e; omega)⟩
  have HM6 := Aside0.mk hM6
  clear hM6 hg6 hHM
  refine wpIn_seq (wpIn_wide.2 ?_)
  go_wp2
  have hM6 := HM6.out.below (below_alloc (Below.refl _ W6) (.cells #[.slice none 0 0] 23))
  have k9 := World.alloc_heap_new W6 (.cells #[.slice none 0 0] 23)
  have hB67 : Below W6.heap.size W6 (W6.alloc (.cells #[.slice none 0 0] 23)) := below_alloc (Below.refl _ _) _
  refine wpIn_seq (wpIn_wide.2 ?_)
  go_wp2
  obtain ⟨W7, hW7⟩ : ∃ W7, W6.alloc (.cells #[.slice none 0 0] 23) = W7 := ⟨_, rfl⟩
  have hs67 : W7.heap.size = W6.heap.size + 1 := by rw [← hW7]; simp
  rw [hW7] at hM6 k9 hB67 ⊢
  have hfn : (fun y : Int => if y = a1 then true else false) = fun y => [a1].contains y := by
    funext y
    by_cases hy : y = a1 <;> simp [hy]
  rw [hfn] at hM6
  have hB57 : Below W5.heap.size W5 W7 := HB56.out.trans (hB67.mono (by omega))
  have hB37 : Below W3.heap.size W3 W7 := HB35.out.trans (hB57.mono (by have := HB35.out.size; omega))
  have hB27 : Below W2.heap.size W2 W7 := HB3.out.trans (hB37.mono (by have := HB3.out.size; omega))
  have hB07 : Below w.heap.size w W7 := HB2.out.trans (hB27.mono (by have := HB2.out.size; omega))
  have K1 := Aside0.mk ((hB27.cell (World.block_lt_of_cell? _ _ HCR2.out)).trans HCR2.out)
  have K3 := Aside0.mk ((hB37.cell (World.block_lt_of_cell? _ _ HC3.out)).trans HC3.out)
  have KX := Aside0.mk ((hB27.block bk hbk2).trans HBX.out)
  have KD := Aside0.mk HRd.out.2.2
  have HB27 := Aside0.mk hB27
  have KDc := Aside0.mk HRd.out.2.1
  have KP := HP5
  have KO := Aside0.mk HO5.out.2.2
  have HB57 := Aside0.mk hB57
  have KOc := Aside0.mk HO5.out.2.1
  have KM := Aside0.mk hM6
  have K9 := Aside0.mk k9
  have HB7 := Aside0.mk hB07
  have HW := Aside0.mk (show w.heap.size ≤ W2.heap.size ∧ W2.heap.size < W3.heap.size ∧ W3.heap.size ≤ W4.heap.size ∧ W4.heap.size ≤ W5.heap.size ∧ W5.heap.size < W6.heap.size ∧ W7.heap.size = W6.heap.size + 1 from ⟨HB2.out.size, by have := HS3.out; omega, HB4.out.size, hs45, hs56, hs67⟩)
  clear hM6 k9 hB67 hW7 hs67 hfn hB57 hB37 hB27 hB07 HM6 HB56 hs56 hc6 hrun6 HO5 hs45 HP5 HB35 HB4 HB03 HS3 HB3 HC3 HCR2 HB2 HBX HRd hmm
  refine wpIn_seq (wpIn_seq ?_)
  gi_wp2
  refine ⟨trivial, ?_⟩
  refine (callsIn_wide.2 (edges_calls A0 l0.length c0 _)).mono ?_
  rintro e w' ⟨rfl, rfl⟩
  gi_wp2
  have c10 := cell_new_c' W7 (.slice A0 l0.length c0) 22
  have hBL : Below W7.heap.size W7 (W7.alloc (.cells #[.slice A0 l0.length c0] 22)) := below_alloc (Below.refl _ _) _
  have hsL : (W7.alloc (.cells #[.slice A0 l0.length c0] 22)).heap.size = W7.heap.size + 1 := by simp
  obtain ⟨wL, hwL⟩ : ∃ wL, W7.alloc (.cells #[.slice A0 l0.length c0] 22) = wL := ⟨_, rfl⟩
  rw [hwL] at c10 hBL hsL ⊢
  have k9L : wL.heap[W6.heap.size]? = some (.cells #[.slice none 0 0] 23 (0, 0)) := (hBL.block _ (blk_lt K9.out)).trans K9.out
  have HI0 := Aside0.mk (OutIn.start (d := Kd.int .i64) (e := 3) k9L)
  have hMW := HI0.out.names
  have hbL : W6.heap.size < wL.heap.size := by have := HW.out.2.2.2.2.2; omega
  have hMd : Told wL.heap.size (BxM W6.heap.size) := BxM.told hbL
  have HBL := Aside0.mk hBL
  have HSL := Aside0.mk hsL
  clear hBL hsL hwL k9L
  refine wpIn_rangeFunc_ownG rfl (by omega) (gf := 104) (lb := #[.pointer (some ⟨W7.heap.size, 0, none⟩)]) rfl trivial (enters_of Try.func104 (by kernel_rfl) rfl)
    (edges_stops 5 (by omega) W7.heap.size A0 c0 l0 HOK.out (BxM W6.heap.size) wL hMd hMW (Kd.C_below HR.out (HB7.out.trans (HBL.out.mono HB7.out.size))) HC0.out c10.1) EdKp.trans (EdKp.put hMd) (Below.refl _ _) (fun _ => rfl)
    (fun pre W => OutIn wL W6.heap.size (Kd.int .i64) 3 23 (opL d a1 (pre.map Subtype.val)) W)
    (fun _ _ _ => False)
    (fun s A B row hs hg hr => hs.kept hg hr (by omega))
    (fun _ _ _ _ _ hs _ _ => hs)
    HI0.out
    (fun x => { tmps := #[Value.slice A0 l0.length c0, Value.int IntKind.i64 a1, undef,
          Value.pointer (some { block := w.heap.size, off := 0 }), Value.slice none 0 0,
          Value.pointer (some { block := W2.heap.size, off := 0 }), Value.slice Ap l0.length cp,
          Value.slice Ao o.length co, Value.map (some W5.heap.size),
          Value.pointer (some { block := W6.heap.size, off := 0 }), .int .i64 x.1.1, .int .i64 x.1.2, undef, undef, undef, undef,
          Value.slice A0 l0.length c0, Value.func (Fn.func 103) #[] #[Value.pointer (some { block := bk, off := 0 })],
          Value.slice A0 l0.length c0, Value.slice Ap l0.length cp, Value.slice A0 l0.length c0,
          Value.slice Ao o.length co, Value.map (some W5.heap.size), Value.int IntKind.i64 a1,
          Value.map (some W5.heap.size), Value.slice A0 l0.length c0,
          Value.func (Fn.func 104) #[] #[Value.pointer (some { block := W7.heap.size, off := 0 })], .int .i64 x.1.1, .int .i64 x.1.2, undef, undef, undef, undef, undef, undef, undef, undef, undef, undef, undef, undef, undef, undef, undef, undef, undef, undef, undef, undef, undef, undef, undef, undef, undef, undef, undef, undef, undef, undef, undef, undef, undef, undef, undef, undef, undef, undef, undef, undef, undef, undef, undef, undef, undef, undef, undef, undef, undef, undef, undef, undef, undef, undef, undef, undef, undef, undef, undef], defers := [] }) ?assign ?body ?done ?stop
  case assign =>
    intro l x W K hK
    simp only [edEnc]
    gi_wp2
    exact hK
  case body =>
    rintro l pre ⟨⟨a, b⟩, hq0, hq1, hb0, hb1⟩ W hI hlt
    clear hMd hMW c10 HI0
    simp only at hq0 hq1 hb0 hb1
    obtain ⟨out, hout⟩ : ∃ out, opL d a1 (pre.map Subtype.val) = out := ⟨_, rfl⟩
    rw [hout] at hI
    have HOL : Aside0 (out.length ≤ 1000000000000) := ⟨by
      have h1 := opL_length d a1 (pre.map Subtype.val)
      rw [hout, List.length_map] at h1
      have h2 := HEL.out
      omega⟩
    have hsnoc : opL d a1 ((pre ++ [(⟨(a, b), by omega⟩ : Ed l0.length)]).map Subtype.val) = if (b == a1 && backL d a b) = true then out ++ [a] else out := by
      rw [List.map_append, ← hout]
      exact opL_snoc _ _ _ _ _
    have HSN := Aside0.mk hsnoc
    have HIN := Aside0.mk hI
    clear hsnoc hout
    have hf := hI.far
    have hstay : Below W6.heap.size W7 W := (HBL.out.mono (by have := HW.out.2.2.2.2.2; omega)).trans hI.stay
    have hc1 : W.cell? ⟨w.heap.size, 0, none⟩ = some (.int .i64 a1) := (hstay.cell (p := ⟨w.heap.size, 0, none⟩) (by have := HW.out; simp only; omega)).trans K1.out
    have hc3 : W.cell? ⟨W2.heap.size, 0, none⟩ = some (.func (.func 103) #[] #[.pointer (some ⟨bk, 0, none⟩)]) := (hstay.cell (p := ⟨W2.heap.size, 0, none⟩) (by have := HW.out; simp only; omega)).trans K3.out
    have hcon := back1_calls bk Ad cd d a b W ((hstay.cell (p := ⟨bk, 0, none⟩) (by have := HW.out; simp only; omega)).trans (cell_of_box' KX.out).1) (Kd.C_below KD.out (HB27.out.trans (hstay.mono (by have := HW.out; omega)))) KDc.out (by have := HDL.out; omega) hq0 (by have := HDL.out; omega)
    have HCON := Aside0.mk hcon
    clear hcon hI hstay
    by_cases hba : b = a1
    · have kba : (b == a1) = true := by simpa using hba
      cases hback : backL d a b with
      | false =>
        have HSN2 := HSN.out
        rw [hback, kba] at HSN2
        rw [hback] at HCON
        have HSN3 := Aside0.mk HSN2
        clear HSN2 hba
        gi_wp2
        refine ⟨trivial, ?_⟩
        refine (CallsIn.inRound l (callsIn_wide.2 HCON.out)).mono ?_
        rintro e W' ⟨rfl, hB⟩
        gi_wp2
        have hr := HIN.out.call hB (by omega)
        refine ⟨hr.1, hr.2.1, ?_⟩
        show OutIn _ _ _ _ _ (opL d a1 _) _
        rw [HSN3.out]
        exact hr.2.2
      | true =>
        have HSN2 := HSN.out
        rw [hback, kba] at HSN2
        rw [hback] at HCON
        have HSN3 := Aside0.mk HSN2
        clear HSN2 hba
        refine wpIn_block ?_
        refine wpIn_seq ?_
        refine wpIn_mono (Q := Exit.then (fun a' w' => Below W.heap.size W w' ∧ a' = { tmps := #[Value.slice A0 l0.length c0, Value.int IntKind.i64 a1, undef,
          Value.pointer (some { block := w.heap.size, off := 0 }), Value.slice none 0 0,
          Value.pointer (some { block := W2.heap.size, off := 0 }), Value.slice Ap l0.length cp,
          Value.slice Ao o.length co, Value.map (some W5.heap.size),
          Value.pointer (some { block := W6.heap.size, off := 0 }), .int .i64 a, .int .i64 b, undef, undef, undef, undef,
          Value.slice A0 l0.length c0, Value.func (Fn.func 103) #[] #[Value.pointer (some { block := bk, off := 0 })],
          Value.slice A0 l0.length c0, Value.slice Ap l0.length cp, Value.slice A0 l0.length c0,
          Value.slice Ao o.length co, Value.map (some W5.heap.size), Value.int IntKind.i64 a1,
          Value.map (some W5.heap.size), Value.slice A0 l0.length c0,
          Value.func (Fn.func 104) #[] #[Value.pointer (some { block := W7.heap.size, off := 0 })], .int .i64 a, .int .i64 b, .int .i64 b, .int .i64 a1, .bool true, .bool true, .func (.func 103) #[] #[.pointer (some ⟨bk, 0, none⟩)], .int .i64 a, .int .i64 b, .bool true, .bool true, undef, undef, undef, undef, undef, undef, undef, undef, undef, undef, undef, undef, undef, undef, undef, undef, undef, undef, undef, undef, undef, undef, undef, undef, undef, undef, undef, undef, undef, undef, undef, undef, undef, undef, undef, undef, undef, undef, undef, undef, undef, undef, undef, undef, undef, undef, undef, undef, undef, undef], defers := [] }) (fun _ _ _ => False)) ?first ?rest
        case first =>
          gi_wp2
          refine ⟨trivial, ?_⟩
          refine (CallsIn.inRound l (callsIn_wide.2 HCON.out)).mono ?_
          rintro e W' ⟨rfl, hB⟩
          gi_wp2
          exact ⟨hB, trivial⟩
        case rest =>
          intro e a' W' h'
          cases e <;> first | exact h'.elim | skip
          obtain ⟨hB, rfl⟩ := h'
          obtain ⟨hk1, hk2, hI2⟩ := HIN.out.call hB (by omega)
          obtain ⟨v, h5, hRv⟩ := hI2.box
          obtain ⟨hc5, hf5⟩ := cell_of_box' h5
          obtain ⟨Av, cv, rfl⟩ := Kd.R_slice hRv
          have HRv := Aside0.mk hRv
          have H5 := Aside0.mk h5
          have HK := Aside0.mk (And.intro hk1 hk2)
          have HI2 := Aside0.mk hI2
          have hf2 := hI2.far
          clear hRv h5 hk1 hk2 hI2
          refine wpIn_cond_true rfl ?_
          refine wpIn_list_plain (by kernel_rfl) (fun ⟨_, _, h'⟩ => h') ?_
          go_wp2_with (first | ((with_reducible refine gate_builtin (b := .append) (xs := #[.tmp 38, .tmp 40]) rfl ?_); at_builtin; refine Kd.R_append (Kd.int .i64) (w0 := W') (W := W') wL.heap.size rfl (.tmp 38) (.tmp 40) 23 3 (.int .i64 0) 8 rfl Try.underlying23 info3 rfl (by decide) (by omega) (.slice Av out.length cv) out a [.int .i64 a] (fun _ => True) (fun _ => False) rfl rfl ?aP (fun _ hk => hk.elim) ?aF ?aO ?aB ?aS ?aL ?_; (case aP => rfl); (case aF => exact fun _ _ => trivial); (case aO => exact HRv.out); (case aB => exact Below.refl _ _); (case aS => exact hf2); (case aL => have := HOL.out; omega); intro v20 W7' ho hb hg hat; obtain ⟨A20, n20, c20, rfl⟩ : ∃ A n c, v20 = .slice A n c := ⟨_, _, _, (Kd.R_slice ho).choose_spec.choose_spec⟩; obtain ⟨hc57, hf57⟩ := cell_of_box' ((hg.block W6.heap.size (blk_lt H5.out) (fun h => by have := Kd.R_base HRv.out _ h.symm; omega)).trans H5.out)) | fail)
          obtain ⟨hr1, hr2, hr3⟩ := HI2.out.append (by omega) H5.out HRv.out ho hg hat
          refine ⟨HK.out.1.trans hr1, HK.out.2.trans hr2, ?_⟩
          show OutIn _ _ _ _ _ (opL d a1 _) _
          rw [HSN3.out]
          exact hr3
    · have kba : (b == a1) = false := by simpa using hba
      have HSN2 := HSN.out
      rw [kba] at HSN2
      have HSN3 := Aside0.mk HSN2
      clear HSN2 hba
      gi_wp2
      refine ⟨fun f h => (by cases h), ?_⟩
      gi_wp2
      refine ⟨KeepsFrom.refl _ _, EdKp.refl _ _ _, ?_⟩
      show OutIn _ _ _ _ _ (opL d a1 _) _
      rw [HSN3.out]
      exact HIN.out
  case done =>
    rintro D ys W hD hys hI hK
    clear hMd hMW c10 HI0
    obtain ⟨op, hop⟩ : ∃ op, opL d a1 (ys.map Subtype.val) = op := ⟨_, rfl⟩
    have hop2 : openL l0 d a1 = op := by rw [← hop, hys]; rfl
    have HOPL : Aside0 (op.length ≤ 100000000) := ⟨by
      have h1 := opL_length d a1 (ys.map Subtype.val)
      rw [hop, hys] at h1
      have h2 := HEL.out
      omega⟩
    rw [hop] at hI
    have hE := HE.out
    rw [hop2] at hE
    have hbW : Below w.heap.size w W := HB7.out.trans ((HBL.out.mono HB7.out.size).trans (hI.stay.mono (by have := HW.out; omega)))
    obtain ⟨v, h5, hRv⟩ := hI.box
    have hM1 : MB W W5.heap.size [a1].length (fun x => [a1].contains x) := (KM.out.below HBL.out).same (hI.stay.block _ (by have := HW.out; omega))
    have HST : Aside0 (BdIn w wL W6.heap.size W5.heap.size D op [a1] W) := ⟨⟨v, h5, hRv⟩, hM1, fun k hk _ => hI.stay.block k hk, hbW, hK, hI.far⟩
    have HE' := Aside0.mk hE
    have hopx : ((ys.map Subtype.val).filter fun e => e.2 == a1 && backL d e.1 e.2).map (·.1) = op := hop
    clear hE HE h5 hRv hM1 hI hop2 hop HOK h hbW hK
    refine wpIn_onlyRet (wpIn_wide.2 ?_)
    obtain ⟨v, h5, hRv⟩ := HST.out.box
    obtain ⟨hc5, hf5⟩ := cell_of_box' h5
    obtain ⟨Av, cv, rfl⟩ := Kd.R_slice hRv
    have H5 := Aside0.mk h5
    have HRv := Aside0.mk hRv
    clear h5 hRv
    by_cases hz : op = []
    · subst hz
      have hr : r = [] := by have := HE'.out; simpa using this.symm
      subst hr
      go_wp2
      refine ⟨by simp, .inl ⟨_, _, rfl, run_takeDeferred HST.out.defer, ?_⟩⟩
      refine ⟨_, results_tmp rfl _ _ _, _, rfl, ?_, ?_⟩
      · exact Kd.R_nil _ _ _ _ _
      · exact HST.out.below.grown (grownBy_putObj' _ D _) HST.out.below.size (fun k e => by cases e; have := HW.out; have := HSL.out; omega)
    · have hpos : 0 < op.length := List.length_pos_iff.2 hz
      have hz2 : ((op.length : Int) == 0) = false := by simp; omega
      have hE := HE'.out
      rw [if_neg hz] at hE
      obtain ⟨sf, hsf, hr⟩ := Option.map_eq_some_iff.1 hE
      have HRF := Aside0.mk hr
      have HSF := Aside0.mk hsf
      have HRG : Aside0 (∀ x ∈ op, 0 ≤ x ∧ x < l0.length) := ⟨by
        rw [← hopx]
        intro x hx
        obtain ⟨e, he, rfl⟩ := List.mem_map.1 hx
        have := (List.mem_filter.1 he).1
        rw [hys] at this
        exact (edgesL_in l0 e this).1⟩
      clear hE hr hsf HE' hopx hys
      go_wp2
      clear hc5 hf5 hz2 hpos hz
      go_loopg [12] k (fun kq v12 W' => ∃ (ol s : List Int), Aside0 (bodyLoop (predsL l0) kq ol s = some sf) ∧ Aside0 (BdIn w wL W6.heap.size W5.heap.size D ol s W') ∧ Aside0 (ol.length ≤ 1000000000) ∧ Aside0 (∀ x ∈ ol, 0 ≤ x ∧ x < l0.length))
      case atStart => exact ⟨op, [a1], HSF, HST, ⟨by have := HOPL.out; omega⟩, HRG⟩
      case round =>
        obtain ⟨ol, s, HA, HI, HL, HG⟩ := hrel
        clear HRG HOPL HST HRv H5 HSF
        cases gk with
        | zero => exact absurd HA.out (by simp [bodyLoop])
        | succ k1 =>
          have hX5 : ∀ k, k < W5.heap.size → wr.heap[k]? = W5.heap[k]? := fun k hk => (HI.out.stay k (by have := HW.out; omega) (by omega)).trans ((HBL.out.block k (by have := HW.out; omega)).trans (HB57.out.block k hk))
          rcases List.eq_nil_or_concat ol with rfl | ⟨ol', a, hcc⟩
          · have hs : s = sf := by have := HA.out; simpa [bodyLoop] using this
            subst hs
            obtain ⟨v, h5, hRv⟩ := HI.out.box
            obtain ⟨hc5, hf5⟩ := cell_of_box' h5
            obtain ⟨Av, cv, rfl⟩ := Kd.R_slice hRv
            obtain ⟨wq, ewq⟩ : ∃ wq, wq = wr := ⟨_, rfl⟩
            subst ewq
            have hFar := HI.out.far
            have hMs := Aside0.mk HI.out.map
            clear h5 hRv
            go_wp2
            clear hc5 hf5
            go_loopg [13, 73] o.length (fun kq v13 v73 W' => ∃ i : Nat, v73 = .int .i64 i ∧ Aside0 (kq + i = o.length) ∧ Aside0 (Kd.R (Kd.int .i64) 3 W' wq.heap.size (fun _ => True) v13 ((o.take i).filter (fun b => s.contains b))) ∧ Aside0 (Below wq.heap.size wq W'))
            case atStart => exact ⟨0, rfl, ⟨rfl⟩, ⟨by simpa using Kd.R_nil _ _ _ _ _⟩, ⟨Below.refl _ _⟩⟩
            case round =>
              obtain ⟨i, rfl, HJ, HO, HB⟩ := hrel
              cases gk with
              | zero =>
                have hi : i = o.length := by have := HJ.out; omega
                subst hi
                rw [List.take_length] at HO
                have hl2 : (o.filter (fun b => s.contains b)).length ≤ 100000000 := Nat.le_trans (List.length_filter_le _ _) (by have := HOL.out; omega)
                go_wp2_with fail
                refine (sort_R HO.out hl2).mono ?_
                rintro e W9 ⟨rfl, hs, hg⟩
                have HB9 := Aside0.mk (HB.out.grown hg (HB.out.size) (fun k hk => Kd.R_base HO.out k hk))
                have HS9 := Aside0.mk hs
                clear hs hg
                go_wp2
                have hD9 := (HB9.out.block D (Array.getElem?_eq_some_iff.1 HI.out.defer).1).trans HI.out.defer
                have hbw := HI.out.below
                refine ⟨by simp, .inl ⟨_, _, rfl, run_takeDeferred hD9, ?_⟩⟩
                refine ⟨_, results_tmp rfl _ _ _, _, rfl, ?_, ?_⟩
                · have h2 := HS9.out
                  rw [HRF.out] at h2
                  exact Kd.R_mono (Kd.R_lower (R_nocells h2 (grownBy_putObj' _ D _) (fun r e => by cases e; exact ⟨_, hD9, rfl⟩)) hbw.size) (fun _ _ => trivial)
                · exact (hbw.trans (HB9.out.mono hbw.size)).grown (grownBy_putObj' _ D _) (by have := hbw.size; have := HB9.out.size; omega) (fun k e => by cases e; have := HW.out; have := HSL.out; omega)
              | succ k2 =>
                have hi : i < o.length := by have := HJ.out; omega
                obtain ⟨ad, eao, hc⟩ := Kd.at_int KO.out (i : Int) (by omega) (by omega)
                subst eao
                simp only [Int.toNat_natCast] at hc
                have hbl := World.block_lt_of_cell? _ _ hc
                replace hc := (World.cell?_of_block (hX5 _ hbl)).trans hc
                replace hc := (HB.out.cell (World.block_lt_of_cell? _ _ hc)).trans hc
                have hmem : rd o i ∈ o := by
                  have e : rd o i = o[i] := by simp [rd, hi]
                  rw [e]; exact List.getElem_mem _
                have hbo := HOB.out _ hmem
                have hol := HOL.out
                have hlook := (hMs.out.below HB.out).look (x := rd o i) (wf64_of (by omega) (by omega))
                have HLE := Aside0.mk (take_filter_le o (fun b => s.contains b) i)
                cases hct : s.contains (rd o i) with
                | true =>
                  rw [hct] at hlook
                  have HF := Aside0.mk (take_filter_yes o (fun b => s.contains b) i hi hct)
                  go_wp2_with (first | ((with_reducible refine gate_builtin (b := .append) (xs := #[.tmp 80, .tmp 82]) rfl ?_); at_builtin; refine Kd.R_append (Kd.int .i64) (w0 := wq) (W := wr) wq.heap.size rfl (.tmp 80) (.tmp 82) 23 3 (.int .i64 0) 8 rfl Try.underlying23 info3 rfl (by decide) (by omega) u13 ((o.take i).filter (fun b => s.contains b)) (rd o i) [.int .i64 (rd o i)] (fun _ => True) (fun _ => False) rfl rfl ?aP (fun _ hk => hk.elim) ?aF ?aO ?aB ?aS ?aL ?_; (case aP => rfl); (case aF => exact fun _ _ => trivial); (case aO => exact HO.out); (case aB => exact HB.out); (case aS => exact HB.out.size); (case aL => have := HLE.out; have := HOL.out; omega); intro v83 W8 ho hb hg hat; rw [← HF.out] at ho; have HO8 := Aside0.mk ho; have HB8 := Aside0.mk hb; clear ho hb hg hat HO HB) | fail)
                  go_roundg k2
                  case measure => omega
                  case rel => exact ⟨i + 1, by go_num, ⟨by have := HJ.out; omega⟩, HO8, HB8⟩
                | false =>
                  rw [hct] at hlook
                  have HF := Aside0.mk (take_filter_no o (fun b => s.contains b) i hi hct)
                  go_wp2
                  go_roundg k2
                  case measure => omega
                  case rel => exact ⟨i + 1, by go_num, ⟨by have := HJ.out; omega⟩, ⟨by rw [HF.out]; exact HO.out⟩, HB⟩
          · rw [List.concat_eq_append] at hcc
            subst hcc
            have H := HA.out
            simp only [bodyLoop, List.getLast?_concat, List.dropLast_concat] at H
            have hG := HG.out
            have haR := hG a (by simp)
            obtain ⟨v, h5, hRv⟩ := HI.out.box
            obtain ⟨hc5, hf5⟩ := cell_of_box' h5
            obtain ⟨Av, n, cv, rfl⟩ : ∃ A n c, v = .slice A n c := ⟨_, _, _, (Kd.R_slice hRv).choose_spec.choose_spec⟩
            have hn : n = ol'.length + 1 := by have := (Kd.R_reads' hRv).1; simpa using this
            have hl : n ≤ 1000000000 := by have := HL.out; simp at this; omega
            have hsub : wrap64 ((n : Int) - 1) = (ol'.length : Int) := by unfold wrap64; omega
            obtain ⟨ad, eav, hca⟩ := Kd.at_int (Kd.R_reads' hRv).2.2 (ol'.length : Int) (by omega) (by simp only [List.length_append, List.length_cons, List.length_nil]; omega)
            subst eav
            have hrd : rd (ol' ++ [a]) (ol'.length : Int) = a := by simp [rd]
            rw [hrd, Int.toNat_natCast] at hca
            obtain ⟨i3, hi3, _, _, _⟩ := info_parts info3
            have hcut := cut_to (P := Try.prog) 23 3 .i64 Try.underlying23 hi3 (some ad) n cv (ol'.length : Int) (by omega) (by omega) (Kd.R_reads' hRv).2.1
            simp only [Int.toNat_natCast] at hcut
            have hcv0 : ol'.length ≤ cv := by have := (Kd.R_reads' hRv).2.1; omega
            have hRp := Kd.R_take (m := ol'.length) hRv (by simp)
            rw [List.take_left' rfl] at hRp
            have HI1 := Aside0.mk (HI.out.pop (by have := HW.out; omega) (by have := HW.out; omega) hbL hD hRp)
            have hlook := HI1.out.map.look (x := a) (wf64_of (by omega) (by omega))
            clear h5 hRv hRp hG HA
            have HH := Aside0.mk H
            clear H
            cases hct : s.contains a with
            | true =>
              rw [hct] at hlook
              have HN : Aside0 (bodyLoop (predsL l0) k1 ol' s = some sf) := ⟨by have := HH.out; rwa [if_pos hct] at this⟩
              have HL' : Aside0 (ol'.length ≤ 1000000000) := ⟨by omega⟩
              have HG' : Aside0 (∀ x ∈ ol', 0 ≤ x ∧ x < l0.length) := ⟨fun x hx => HG.out x (by simp [hx])⟩
              go_wp2
              go_roundg k1
              case measure => omega
              case rel => exact ⟨ol', s, HN, HI1, HL', HG'⟩
            | false =>
              rw [hct] at hlook
              have H := HH.out
              rw [if_neg (by rw [hct]; simp)] at H
              split at H
              case isFalse => cases H
              rename_i hcond
              obtain ⟨hq0, hq1, hq2, hq3⟩ := hcond
              have HN : Aside0 (bodyLoop (predsL l0) k1 (ol' ++ (predsL l0).getD a.toNat []) (a :: s) = some sf) := ⟨H⟩
              clear H HH
              obtain ⟨W2', hrun, hM', hg'⟩ := HI1.out.map.put (x := a) true (wf64_of (by omega) (by omega)) (by unfold maxLen; omega)
              have hfn : (fun y => if y = a then true else s.contains y) = fun y => (a :: s).contains y := by
                funext y
                by_cases hy : y = a <;> simp [hy]
              rw [hfn] at hM'
              have HI2 := Aside0.mk (HI1.out.put (s' := a :: s) (by have := HW.out; omega) (by have := HW.out; omega) hbL hD hg' hM')
              clear hM' hg' hfn
              go_wp2
              clear hrun hlook hcut hcv0 hca hc5 hf5 hX5 hsub
              have hX5 : ∀ k, k < W5.heap.size → W2'.heap[k]? = W5.heap[k]? := fun k hk => (HI2.out.stay k (by have := HW.out; omega) (by omega)).trans ((HBL.out.block k (by have := HW.out; omega)).trans (HB57.out.block k hk))
              obtain ⟨v, h5, hRv⟩ := HI2.out.box
              obtain ⟨v, h5, hRv, hvv⟩ : ∃ v, W2'.heap[W6.heap.size]? = some (.cells #[v] 23 (0, 0)) ∧ (Kd.int .i64).R 3 W2' wL.heap.size (fun _ => True) v ol' ∧ True := ⟨v, h5, hRv, trivial⟩
              obtain ⟨hc5, hf5⟩ := cell_of_box' h5
              obtain ⟨Av, n', cv', rfl⟩ : ∃ A n c, v = .slice A n c := ⟨_, _, _, (Kd.R_slice hRv).choose_spec.choose_spec⟩
              obtain ⟨i, rfl⟩ := Int.eq_ofNat_of_zero_le hq0
              have hpl := predsL_length l0
              obtain ⟨adp, _, _, eap, _⟩ := at_L1 (Kd.S_reads' KP.out).2.2 (i : Int) (by omega) (by omega)
              subst eap
              obtain ⟨Ar, cr, hxr, hRow⟩ := row_own (Kd.S_mono (ok' := fun _ => True) KP.out (fun _ _ => trivial)) i (by omega)
              obtain ⟨row, hrow⟩ : ∃ row, rd_L1 (predsL l0) i = row := ⟨_, rfl⟩
              have hrow2 : (predsL l0).getD (i : Int).toNat [] = row := hrow
              rw [hrow] at hxr hRow
              rw [hrow2] at HN hq2
              have hxr2 : W2'.cell? (adp.add i) = some (.slice Ar row.length cr) := (World.cell?_of_block (hX5 _ (World.block_lt_of_cell? _ _ hxr))).trans hxr
              have hRow2 := (Kd.R_reads' (Kd.R_step (Kd.R_bound hRow) (fun k hk hlt => hX5 k hlt))).2.2
              have hRow3 := Kd.C_drew hRow2
              have HRowIn : Aside0 (∀ x ∈ row, 0 ≤ x ∧ x < l0.length) := ⟨by
                rw [← hrow2]
                intro x hx
                exact predsL_in l0 _ (getD_mem' _ _ x hx) x hx⟩
              have HRW := Aside0.mk hRow3
              have H5 := Aside0.mk h5
              have HRv := Aside0.mk hRv
              have HQ2 := Aside0.mk hq2
              clear hRow hRow2 hRow3 h5 hRv hX5 hrow hrow2 hq2 hpl
              refine start_ (n := 7) (S := fun w' => w'.cell? ⟨W6.heap.size, 0, none⟩ = some (.slice Av n' cv') ∧ w'.cell? (adp.add i) = some (.slice Ar row.length cr)) (ds := [5, 6]) #[false, false, false, false, false, false, false] (by kernel_rfl) rfl rfl ⟨hc5, hxr2⟩ (fun hHeld => ?_)
              have R1 := Aside0.mk (Kd.R_drew HRv.out)
              have D1 : Aside0 (∀ W', W2'.drew.grownBy W' (Value.slice Av n' cv').ownBlock → W2'.grownBy W' (Value.slice Av n' cv').ownBlock) := ⟨fun W7 h => ⟨h.os, h.tape, h.output, h.size, h.block⟩⟩
              have F1 : Aside0 (wL.heap.size ≤ W2'.drew.heap.size) := ⟨HI2.out.far⟩
              obtain ⟨Wd, hWd⟩ : ∃ Wd, W2'.drew = Wd := ⟨_, rfl⟩
              rw [hWd] at hHeld HRW R1 D1 F1 ⊢
              clear hWd hc5 hf5 hxr2
              refine pure_ (i := 1) (N := some 66) (v := ?_) (a' := ?_) #[false, true, false, false, false, false, false] rfl rfl (by kernel_rfl) (fun _ _ _ h => h) (Or.inl ⟨by rfl, ?_⟩) ?_ ?_
              rotate_left
              · intro w'
                go_simp
                with_reducible rfl
              rotate_left
              · simp only [Act.put, List.setIfInBounds_toArray, List.set_cons_zero, List.set_cons_succ]
                rfl
              refine pure_ (i := 2) (N := some 67) (v := ?_) (a' := ?_) #[false, true, true, false, false, false, false] rfl rfl (by kernel_rfl) (fun _ _ _ h => h) (Or.inl ⟨by rfl, ?_⟩) ?_ ?_
              rotate_left
              · intro w'
                go_simp
                with_reducible rfl
              rotate_left
              · simp only [Act.put, List.setIfInBounds_toArray, List.set_cons_zero, List.set_cons_succ]
                rfl
              refine pure_ (i := 3) (N := some 68) (v := ?_) (a' := ?_) #[false, true, true, true, false, false, false] rfl rfl (by kernel_rfl) (fun _ _ _ h => h) (Or.inl ⟨by rfl, ?_⟩) ?_ ?_
              rotate_left
              · intro w'
                go_simp
                with_reducible rfl
              rotate_left
              · simp only [Act.put, List.setIfInBounds_toArray, List.set_cons_zero, List.set_cons_succ]
                rfl
              refine take_ (i := 0) (N := some 65) (v := ?_) (a' := ?_) #[true, true, true, true, false, false, false] rfl rfl (by kernel_rfl) (fun _ _ _ h => h) (Or.inl ⟨by rfl, ?_⟩) (by assumption) ?_ ?_
              rotate_left
              · rintro w' ⟨s0, s1⟩
                go_simp
                with_reducible rfl
              rotate_left
              · simp only [Act.put, List.setIfInBounds_toArray, List.set_cons_zero, List.set_cons_succ]
                rfl
              refine take_ (i := 4) (N := some 69) (v := ?_) (a' := ?_) #[true, true, true, true, true, false, false] rfl rfl (by kernel_rfl) (fun _ _ _ h => h) (Or.inl ⟨by rfl, ?_⟩) (by assumption) ?_ ?_
              rotate_left
              · rintro w' ⟨s0, s1⟩
                go_simp
                with_reducible rfl
              rotate_left
              · simp only [Act.put, List.setIfInBounds_toArray, List.set_cons_zero, List.set_cons_succ]
                rfl
              refine last_ (i := 5) (N := some 70) #[true, true, true, true, true, true, false] rfl rfl (by kernel_rfl) (by decide) (fun K hK => ?_)
              refine Kd.R_append_rows_step (Kd.int .i64) (Rr := (Kd.int .i64).K Wd) (w0 := Wd) (W := Wd) wL.heap.size (by rfl) (.tmp 65) (.tmp 69) 23 3 (.int .i64 0) 8 rfl Try.underlying23 info3 rfl (by decide) (by omega) (.slice Av n' cv') ol' row Ar row.length cr (fun _ => True) (fun _ => False) rfl rfl ?aO ?aR ?aK (fun _ hk => hk.elim) (fun _ _ => trivial) (Below.refl _ _) F1.out ?aL ?_
              case aO => exact R1.out
              case aR => exact HRW.out
              case aK => exact fun _ _ h => h
              case aL => have := HQ2.out; simp only [List.length_append] at this; omega
              intro v70 W8 hR8 hb8 hg8 hat8
              obtain ⟨A70, n70, c70, rfl⟩ : ∃ A n c, v70 = .slice A n c := ⟨_, _, _, (Kd.R_slice hR8).choose_spec.choose_spec⟩
              have hgr := HI2.out.grow (by have := HW.out; omega) hbL (by have := HW.out; omega) H5.out HRv.out (D1.out _ hg8)
              obtain ⟨hc58, hf58⟩ := cell_of_box' hgr.1
              have HI3 := Aside0.mk (HI2.out.app (by have := HW.out; omega) (by have := HW.out; omega) hbL hD H5.out HRv.out (D1.out _ hg8) hR8)
              clear hR8 hb8 hg8 hat8 hgr
              refine hK.out _ _ ?_
              clear hK K
              refine norm_ (a' := ?_) ?_ ?_
              rotate_left
              · show Act.put _ (some 70) _ = _
                simp only [Act.put, List.setIfInBounds_toArray, List.set_cons_zero, List.set_cons_succ]
                rfl
              refine last_ (i := 6) (N := none) #[true, true, true, true, true, true, true] rfl rfl (by kernel_rfl) (by decide) (fun K hK => ?_)
              refine skip_ (w1 := W8.setCell ⟨W6.heap.size, 0, none⟩ (.slice A70 n70 c70)) (by rfl) rfl ?_ ?_
              · go_simp
              · refine hK.out _ _ ?_
                refine done_ (by kernel_rfl) ?_
                clear hK K
                go_wp2
                go_roundg k1
                case measure => omega
                case rel => exact ⟨ol' ++ row, (i : Int) :: s, HN, HI3, HQ2, ⟨fun x hx => by
                  rcases List.mem_append.1 hx with hx | hx
                  · exact HG.out x (by simp [hx])
                  · exact HRowIn.out x hx⟩⟩
  case stop =>
    rintro D c pre W _ _ h _
    exact h.elim
end Go.Proofs.Ytnmeomdjhjgnfaa.X
end
