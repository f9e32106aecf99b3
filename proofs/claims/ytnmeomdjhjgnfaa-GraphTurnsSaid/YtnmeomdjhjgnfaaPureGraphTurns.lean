import Derived.Test.YtnmeomdjhjgnfaaX24
import Derived.Test.YtnmeomdjhjgnfaaPedge
set_option linter.unusedSimpArgs false
set_option linter.unusedVariables false
namespace Go.Proofs.Ytnmeomdjhjgnfaa.Pure
open Go.RowKit Go.Proofs.Ytnmeomdjhjgnfaa.X Go.Proofs.YtnmeomdjhjgnfaaW.PrintWords Go.Proofs.YtnmeomdjhjgnfaaW.PrintLast

theorem turns_l1 (g p q : List (List Int)) (hg : okG g = true) (hp : okG p = true) (hq : okG q = true) (hn : g.length ≤ 1000000) (h1 : ∀ a b, eB p b a = eB g a b) (h2 : ∀ a b, eB q a b = eB g a b) (x7 : Int) (h7 : 0 ≤ x7 ∧ x7 < g.length)
    (H : ∃ k, jacquardlaw02_GraphTurns.l0 k true g p q (x7 + 1) = some true) : ∀ (d : Nat) (x8 : Int), 0 ≤ x8 → x8 + d = g.length → ∃ k, jacquardlaw02_GraphTurns.l1 k true g p q x7 x8 = some true := by
  intro d
  induction d with
  | zero =>
    intro x8 h0 hd
    obtain ⟨k, hk⟩ := H
    refine ⟨k + 1, ?_⟩
    rw [jacquardlaw02_GraphTurns.l1, if_neg (by omega), w64 (by omega) (by omega)]
    exact hk
  | succ d ih =>
    intro x8 h0 hd
    obtain ⟨k, hk⟩ := ih (x8 + 1) (by omega) (by omega)
    refine ⟨(k + 1000003) + 1, ?_⟩
    have hk2 := up (f := fun k => jacquardlaw02_GraphTurns.l1 k true g p q x7 (x8 + 1)) (fun k => (jacquardlaw02_GraphTurns.mono_l k).2.2 _ _ _ _ _ _) (m := k + 1000003) (by omega) hk
    rw [jacquardlaw02_GraphTurns.l1, if_pos (by omega), edge_some g hg _ _ (by omega), edge_some p hp _ _ (by omega), edge_some q hq _ _ (by omega), h1, h2, w64 (by omega) (by omega)]
    simp only [Option.bind_some, bne_self_eq_false, Bool.false_eq_true, if_false]
    exact hk2
theorem turns_l0 (g p q : List (List Int)) (hg : okG g = true) (hp : okG p = true) (hq : okG q = true) (hn : g.length ≤ 1000000) (h1 : ∀ a b, eB p b a = eB g a b) (h2 : ∀ a b, eB q a b = eB g a b) :
    ∀ (d : Nat) (x7 : Int), 0 ≤ x7 → x7 + d = g.length → ∃ k, jacquardlaw02_GraphTurns.l0 k true g p q x7 = some true := by
  intro d
  induction d with
  | zero =>
    intro x7 h0 hd
    exact ⟨1, by rw [jacquardlaw02_GraphTurns.l0, if_neg (by omega)]⟩
  | succ d ih =>
    intro x7 h0 hd
    obtain ⟨k, hk⟩ := turns_l1 g p q hg hp hq hn h1 h2 x7 ⟨h0, by omega⟩ (ih (x7 + 1) (by omega) (by omega)) g.length 0 (by omega) (by omega)
    exact ⟨k + 1, by rw [jacquardlaw02_GraphTurns.l0, if_pos (by omega)]; exact hk⟩
theorem GraphTurns : jacquardlaw02_GraphTurns.Pure := by
  intro l0 _ hs _
  obtain ⟨k1, g, hk1, hG⟩ := made_some l0 hs
  have hf := hG.few
  have hp := okG_preds g (by omega)
  have hpl := predsL_len g
  have hq := okG_preds (predsL g) (by rw [hpl]; omega)
  have hql := predsL_len (predsL g)
  obtain ⟨k2, hk2⟩ := turns_l0 g (predsL g) (predsL (predsL g)) hG.ok hp hq (by omega) (fun a b => eB_preds g a b) (fun a b => (eB_preds (predsL g) b a).trans (eB_preds g a b)) g.length 0 (by omega) (by omega)
  refine ⟨k1 + k2 + 1, ?_⟩
  have e1 := up (f := fun k => jacquardref02_Made.f k l0) (fun k => jacquardref02_Made.mono _ _) (m := k1 + k2 + 1) (by omega) hk1
  have e2 := up (f := fun k => jacquardlaw02_GraphTurns.l0 k true g (predsL g) (predsL (predsL g)) 0) (fun k => (jacquardlaw02_GraphTurns.mono_l k).2.1 _ _ _ _ _) (m := k1 + k2) (by omega) hk2
  unfold jacquardlaw02_GraphTurns.f
  unfold jacquardlaw02_awake.f
  simp only [Option.bind_some]
  rw [e1]
  simp only [Option.bind_some]
  rw [Preds_some g hG.ok]
  simp only [Option.bind_some]
  rw [Preds_some _ hp]
  simp only [Option.bind_some]
  rw [if_pos (by rw [hpl]), hql, hpl]
  simp only [bne_self_eq_false]
  rw [jacquardlaw02_GraphTurns.j0, if_neg (by decide)]
  exact e2
end Go.Proofs.Ytnmeomdjhjgnfaa.Pure
