/- What package graph's functions compute, as plain functions on lists of whole numbers; no memory, no Go. -/
import Derived.Test.YtnmeomdjhjgnfaaX0
set_option linter.unusedSimpArgs false
set_option linter.unusedVariables false
namespace Go.Proofs.Ytnmeomdjhjgnfaa.X
open Go.RowKit Go.Proofs.YtnmeomdjhjgnfaaW.PrintWords Go.Proofs.YtnmeomdjhjgnfaaW.PrintLast Go.Proofs.YtnmeomdjhjgnfaaW.PrintMore

/-- The numbers of a row that are from 0 up to n, rising, each once. -/
def keptL (row : List Int) (n : Int) : List Int := ((List.range n.toNat).map (fun (b : Nat) => (b : Int))).filter (fun b => row.contains b)
def okG (g : List (List Int)) : Bool := decide (g.length ≤ 1000000) && g.all (fun r => decide (r.length ≤ 1000000))
def graph_kept.f (l0 : List Int) (a1 : Int) : Option (List Int) := if l0.length ≤ 1000000 then some (keptL l0 a1) else none

def cleanL (g : List (List Int)) : List (List Int) := g.map fun row => keptL row g.length
/-- The edges from block i on, by rows. -/
def edgesFrom : Nat → List (List Int) → List (Int × Int)
  | _, [] => []
  | i, row :: rest => row.map (fun b => ((i : Int), b)) ++ edgesFrom (i + 1) rest
def edgesL (g : List (List Int)) : List (Int × Int) := edgesFrom 0 (cleanL g)

/-- One edge's work in Preds. -/
def predStep (out : List (List Int)) (e : Int × Int) : List (List Int) := out.set e.2.toNat (out.getD e.2.toNat [] ++ [e.1])
def predsL (g : List (List Int)) : List (List Int) := (edgesL g).foldl predStep (List.replicate g.length [])
def graph_Preds.f (l0 : List (List Int)) : Option (List (List Int)) := if okG l0 = true then some (predsL l0) else none

/-- What is gone over from a block on: which have been come to, which left. -/
def overL (rows : List (List Int)) : Nat → Int → List Bool × List Int → Option (List Bool × List Int)
  | 0, _, _ => none
  | k + 1, a, s => ((rows.getD a.toNat []).foldlM (fun s b => if s.1.getD b.toNat false = true then some s else overL rows k b s) (s.1.set a.toNat true, s.2)).map fun s => (s.1, s.2 ++ [a])
def graph_Order.f (k : Nat) (l0 : List (List Int)) : Option (List Int) :=
  if okG l0 = true then (if l0.length = 0 then some [] else (overL (cleanL l0) k 0 (List.replicate l0.length false, [])).map fun s => s.2.reverse) else none

def graph_common.f : Nat → List Int → List Int → Int → Int → Option Int
  | 0, _, _, _, _ => none
  | k + 1, d, num, a, b =>
    if 0 ≤ a ∧ a < num.length ∧ 0 ≤ b ∧ b < num.length then
      (if rd num b < rd num a then (if a < d.length then graph_common.f k d num (rd d a) b else none)
       else if rd num a < rd num b then (if b < d.length then graph_common.f k d num a (rd d b) else none)
       else some a)
    else none

/-- Is it the number of a block? -/
def isB (d : List Int) (n : Int) : Bool := decide (0 ≤ n) && decide (n < d.length)
def domLoop (d : List Int) (a : Int) : Nat → Int → Bool
  | 0, _ => false
  | k + 1, b => if a = b then true else if isB d b = true then domLoop d a k (rd d b) else false
def domL (d : List Int) (a b : Int) : Bool := isB d a && (isB d b && domLoop d a (d.length + 1) b)
def graph_Dominates.f (l0 : List Int) (a1 a2 : Int) : Option Bool := if l0.length ≤ 1000000 then some (domL l0 a1 a2) else none
/-- Does an edge go back? -/
def backL (d : List Int) (a b : Int) : Bool := (a == 0 || decide (0 ≤ rd d a)) && domL d b a

/-- A number's place in an order, from 1 on; 0: it does not stand there. -/
def numR : List Int → Int → Int
  | [], _ => 0
  | b :: t, x => if b = x then t.length + 1 else numR t x
def numL (o : List Int) (x : Int) : Int := numR o.reverse x

def critL (g : List (List Int)) : List S73 :=
  ((edgesL g).filter fun e => decide (1 < ((cleanL g).getD e.1.toNat []).length) && decide (1 < ((predsL g).getD e.2.toNat []).length)).map fun e => ⟨e.1, e.2⟩
def graph_Critical.f (l0 : List (List Int)) : Option (List S73) := if okG l0 = true then some (critL l0) else none
def jacquardref02_Pairs.f (l0 l1 : List S73) : Option Bool := some (decide (l0.map (fun s => (s.f0, s.f1)) = l1.map (fun s => (s.f0, s.f1))))
def jacquardlaw02_awake.f : Option Bool := some true

/-- Insertion of a number into a rising row; a row's rising order. -/
def ins1 (x : Int) : List Int → List Int
  | [] => [x]
  | y :: t => if x ≤ y then x :: y :: t else y :: ins1 x t
def isort : List Int → List Int
  | [] => []
  | x :: t => ins1 x (isort t)

/-- A loop's blocks: what is open, what is in. -/
def bodyLoop (preds : List (List Int)) : Nat → List Int → List Int → Option (List Int)
  | 0, _, _ => none
  | k + 1, o, s => match o.getLast? with
    | none => some s
    | some a => if s.contains a = true then bodyLoop preds k o.dropLast s
        else if 0 ≤ a ∧ a < preds.length ∧ (o.dropLast ++ preds.getD a.toNat []).length ≤ 1000000000 ∧ s.length ≤ 1000000000 then bodyLoop preds k (o.dropLast ++ preds.getD a.toNat []) (a :: s) else none
theorem overL_mono (rows : List (List Int)) : ∀ k a s, LeO (overL rows k a s) (overL rows (k + 1) a s)
  | 0, _, _ => fun r h => by simp [overL] at h
  | k + 1, a, s => fun r h => by
    have ih := overL_mono rows k
    have key : ∀ (l : List Int) (s : List Bool × List Int), LeO (l.foldlM (fun s b => if s.1.getD b.toNat false = true then some s else overL rows k b s) s)
        (l.foldlM (fun s b => if s.1.getD b.toNat false = true then some s else overL rows (k + 1) b s) s) := by
      intro l
      induction l with
      | nil => intro s; exact LeO.refl _
      | cons b l ihl =>
        intro s
        simp only [List.foldlM_cons]
        refine LeO.bind ?_ (fun _ => ihl _)
        exact LeO.ite (LeO.refl _) (ih b s)
    rw [overL] at h ⊢
    exact LeO.map _ (key _ _) r h
theorem graph_Order.mono (k : Nat) (l0 : List (List Int)) : LeO (graph_Order.f k l0) (graph_Order.f (k + 1) l0) := by
  unfold graph_Order.f
  exact LeO.ite (LeO.ite (LeO.refl _) (LeO.map _ (overL_mono _ _ _ _))) (LeO.refl _)
theorem graph_common.mono : ∀ (k : Nat) (d num : List Int) (a b : Int), LeO (graph_common.f k d num a b) (graph_common.f (k + 1) d num a b)
  | 0, _, _, _, _ => fun r h => by simp [graph_common.f] at h
  | k + 1, d, num, a, b => by
    rw [graph_common.f, graph_common.f]
    exact LeO.ite (LeO.ite (LeO.ite (graph_common.mono k _ _ _ _) (LeO.refl _)) (LeO.ite (LeO.ite (graph_common.mono k _ _ _ _) (LeO.refl _)) (LeO.refl _))) (LeO.refl _)
theorem bodyLoop_mono (preds : List (List Int)) : ∀ k o s, LeO (bodyLoop preds k o s) (bodyLoop preds (k + 1) o s)
  | 0, _, _ => fun r h => by simp [bodyLoop] at h
  | k + 1, o, s => by
    rw [bodyLoop, bodyLoop]
    cases o.getLast? with
    | none => exact LeO.refl _
    | some a => exact LeO.ite (bodyLoop_mono preds k _ _) (LeO.ite (bodyLoop_mono preds k _ _) (LeO.refl _))
end Go.Proofs.Ytnmeomdjhjgnfaa.X
