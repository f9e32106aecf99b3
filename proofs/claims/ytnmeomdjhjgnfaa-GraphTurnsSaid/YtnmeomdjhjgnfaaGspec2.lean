/- What graph.Headers, Body and Reducible compute, over what graph.Idom and Order tell. -/
import Derived.Test.YtnmeomdjhjgnfaaGspec
import Derived.Test.YtnmeomdjhjgnfaaX2
set_option linter.unusedSimpArgs false
set_option linter.unusedVariables false
namespace Go.Proofs.Ytnmeomdjhjgnfaa.X
open Go.RowKit Go.Proofs.YtnmeomdjhjgnfaaW.PrintWords Go.Proofs.YtnmeomdjhjgnfaaW.PrintLast Go.Proofs.YtnmeomdjhjgnfaaW.PrintMore

def headL (g : List (List Int)) (d : List Int) : List Int := keptL (((edgesL g).filter fun e => backL d e.1 e.2).map (·.2)) g.length
def graph_Headers.f (k : Nat) (l0 : List (List Int)) : Option (List Int) :=
  if okG l0 = true then (graph_Idom.f k l0).bind fun d => if d.length = l0.length ∧ (edgesL l0).length ≤ 100000000 then some (headL l0 d) else none else none
def redL (g : List (List Int)) (d o : List Int) : Bool :=
  (edgesL g).all fun e => !(decide (0 < numL o e.1) && (decide (numL o e.2 ≤ numL o e.1) && !backL d e.1 e.2))
def graph_Reducible.f (k : Nat) (l0 : List (List Int)) : Option Bool :=
  if okG l0 = true then (graph_Idom.f k l0).bind fun d => (graph_Order.f k l0).bind fun o => if d.length = l0.length ∧ o.length ≤ 1000000 ∧ (∀ b ∈ o, 0 ≤ b ∧ b < l0.length) then some (redL l0 d o) else none else none
def openL (g : List (List Int)) (d : List Int) (h : Int) : List Int := ((edgesL g).filter fun e => e.2 == h && backL d e.1 e.2).map (·.1)
def graph_Body.f (k : Nat) (l0 : List (List Int)) (a1 : Int) : Option (List Int) :=
  if okG l0 = true then (graph_Idom.f k l0).bind fun d => (graph_Order.f k l0).bind fun o => if d.length = l0.length ∧ (edgesL l0).length ≤ 100000000 ∧ o.length ≤ 1000000 ∧ (∀ b ∈ o, 0 ≤ b ∧ b < l0.length) ∧ -1 ≤ a1 ∧ a1 ≤ l0.length then
    (if openL l0 d a1 = [] then some [] else (bodyLoop (predsL l0) k (openL l0 d a1) [a1]).map fun s => isort (o.filter fun b => s.contains b)) else none else none
theorem graph_Headers.mono (k : Nat) (l0 : List (List Int)) : LeO (graph_Headers.f k l0) (graph_Headers.f (k + 1) l0) := by
  unfold graph_Headers.f
  exact LeO.ite (LeO.bind (graph_Idom.mono _ _) (fun _ => LeO.refl _)) (LeO.refl _)
theorem graph_Reducible.mono (k : Nat) (l0 : List (List Int)) : LeO (graph_Reducible.f k l0) (graph_Reducible.f (k + 1) l0) := by
  unfold graph_Reducible.f
  exact LeO.ite (LeO.bind (graph_Idom.mono _ _) (fun _ => LeO.bind (graph_Order.mono _ _) (fun _ => LeO.refl _))) (LeO.refl _)
theorem graph_Body.mono (k : Nat) (l0 : List (List Int)) (a1 : Int) : LeO (graph_Body.f k l0 a1) (graph_Body.f (k + 1) l0 a1) := by
  unfold graph_Body.f
  exact LeO.ite (LeO.bind (graph_Idom.mono _ _) (fun _ => LeO.bind (graph_Order.mono _ _) (fun _ => LeO.ite (LeO.ite (LeO.refl _) (LeO.map _ (bodyLoop_mono _ _ _ _))) (LeO.refl _)))) (LeO.refl _)
end Go.Proofs.Ytnmeomdjhjgnfaa.X
