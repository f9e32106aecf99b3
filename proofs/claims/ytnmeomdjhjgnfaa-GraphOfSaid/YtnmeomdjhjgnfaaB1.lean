/- Parts of the proof of GraphOf: X0, Gspec, Shelf, Gsort, Gkept, X27, X28, Gfew, X1, Gorder, Gedges, Gpreds, Gcrit, Gdom, Gcommon. -/
import Derived.Test.YtnmeomdjhjgnfaaProg
import Derived.Below
import Derived.Deep.Draws
import Derived.Deep.AppendLies
import Derived.Maps.AppendAt
import Derived.OwnWalk
import Derived.Laws.BytesArg
import Derived.Laws.MakeOwn
import Derived.Laws.OwnMore
import Derived.Deep.OwnRows
import Derived.Tactics
import Derived.Lib.ConvBytes
import Derived.Laws.Slices
import Derived.WalkKit
import Derived.KernelRfl
import Derived.RowKit3
import Derived.Deep.LoopGhost
import Derived.Deep.QuietTactic
import Derived.BigQuiet
import Derived.WideLaws
import Derived.Deep.DeepCutAuto
import Derived.Deep.CutBlock
import Derived.Deep.RegionHeld3
import Derived.Laws.Rows
import Derived.Lib.AppendStr
import Derived.ArgAppend
import Derived.Laws.IdiomCopy
import Derived.OrdersHeld
import Derived.Laws.BitsLemmas
import Derived.RowKit
import Derived.Test.YtnmeomdjhjgnfaaWWords
import Derived.Test.YtnmeomdjhjgnfaaWLast
import Derived.Test.YtnmeomdjhjgnfaaWQPut
import Derived.Test.YtnmeomdjhjgnfaaWApart
import Derived.Test.YtnmeomdjhjgnfaaWArr
import Derived.Test.YtnmeomdjhjgnfaaWZeros
import Derived.Test.YtnmeomdjhjgnfaaWFoot
import Derived.Test.YtnmeomdjhjgnfaaWKept
import Derived.Test.YtnmeomdjhjgnfaaWShare
import Derived.Test.YtnmeomdjhjgnfaaWN
import Derived.Test.YtnmeomdjhjgnfaaWNEv
import Derived.Test.YtnmeomdjhjgnfaaWMore
import Derived.Shelf.Sort.Plain
import Derived.Shelf.Slices.Turned
import Derived.Shelf.Slices.Reverse
import Derived.Ground.Names2Prog
import Derived.Shelf.Slices.CompactI
import Derived.Shelf.Slices.Cells
import Derived.Shelf.Slices.In.SortNone
import Derived.Sort.OwnSortedInts
import Derived.Laws.EntriesVeiled
import Derived.RangeFuncNested
import Derived.RangeFuncBound
import Derived.RangeFuncCalls
import Derived.RangeFuncLeaves
import Derived.Shelf.Abstract
import Derived.Shelf.RegionOpen
import Derived.OwnWalkIn
import Derived.TacticsInMore
import Derived.LoopNIn
import Derived.LoopIn
import Derived.WalkMore
section
-- written by a driver of this session (wip/xprint.py) over the kit's print, for this claim; Lean checks it
namespace Go.Proofs.Ytnmeomdjhjgnfaa.X
open Go.RowKit Go.Proofs.YtnmeomdjhjgnfaaW.PrintWords Go.Proofs.YtnmeomdjhjgnfaaW.PrintLast Go.Proofs.YtnmeomdjhjgnfaaW.PrintMore
attribute [local go_sem] max2_int min2_int max_two min_two max_three min_three max_four min_four   -- for this text's walks alone
set_option linter.unusedVariables false
set_option linter.unusedSimpArgs false



def errW : Option Int → Value
  | none => .nilIface
  | some c => .iface 0 (.int .i64 c)
theorem errW_none : errW none = .nilIface := rfl
theorem errW_some (c : Int) : errW (some c) = .iface 0 (.int .i64 c) := rfl

theorem info3 : (Try.prog.info? 3).map (fun i => (i.zero, i.size, i.bytes)) = some (some (.int .i64 0), 1, 8) := by kernel_rfl
theorem info4 : (Try.prog.info? 4).map (fun i => (i.zero, i.size, i.bytes)) = some (some (.bool false), 1, 1) := by kernel_rfl
theorem info23 : (Try.prog.info? 23).map (fun i => (i.zero, i.size, i.bytes)) = some (some (.slice none 0 0), 1, 24) := by kernel_rfl
theorem info73 : (Try.prog.info? 73).map (fun i => (i.zero, i.size, i.bytes)) = some (some (.agg #[(.int .i64 0), (.int .i64 0)]), 2, 16) := by kernel_rfl
-- the values' own types
def rd_L1 (xs : List (List Int)) (i : Int) : (List Int) := xs.getD i.toNat ([] : List Int)
theorem at_L1 {w : World} {A : Option Addr} {n : Nat} {xs : List (List Int)} (h : Kd.C (Kd.slice 3 (Kd.int .i64)) w A n xs) (i : Int) (h0 : 0 ≤ i) (h1 : i < n) : ∃ ad A0 c0, A = some ad ∧ w.cell? (ad.add i.toNat) = some (.slice A0 (rd_L1 xs i).length c0) ∧ (rd_L1 xs i).length ≤ c0 ∧ (Kd.int .i64).C w A0 (rd_L1 xs i).length (rd_L1 xs i) := by
  obtain ⟨ad, c, e, _, hK, hc0⟩ := Kd.C_get h ([] : List Int) i h0 h1
  have hc : ∀ j u, c[j]? = some u → w.cell? (ad.add (i.toNat * 1 + j)) = some u := hc0
  obtain ⟨A0, c0, rfl, l0, g0⟩ := hK
  exact ⟨ad, A0, c0, e, by have hq := hc 0 _ rfl; rwa [Nat.mul_one, Nat.add_zero] at hq, l0, g0⟩

/-! #### struct type 73 -/
structure S73 where
  f0 : Int
  f1 : Int
def z73 : S73 := ⟨(0 : Int), (0 : Int)⟩
def k73 : Kd S73 := Kd.iso (Kd.pair (Kd.int .i64) (Kd.int .i64)) (fun x : S73 => (x.f0, x.f1))
theorem k73_open {w : World} {x : S73} {cs : List Value} (h : k73.K w x cs) : cs = [.int .i64 x.f0, .int .i64 x.f1] := by
  obtain ⟨_, _, rfl, rfl, rfl⟩ := h
  exact rfl
theorem k73_mk (w : World) (x : S73)  : k73.K w x [.int .i64 x.f0, .int .i64 x.f1] := ⟨[.int .i64 x.f0], [.int .i64 x.f1], rfl, rfl, rfl⟩
theorem k73_mkM (w : World) (base : Nat) (ok : Nat → Prop) (x : S73)  : k73.M w base ok x [.int .i64 x.f0, .int .i64 x.f1] := ⟨[.int .i64 x.f0], [.int .i64 x.f1], rfl, rfl, rfl⟩
def rd_T73 (xs : List S73) (i : Int) : S73 := xs.getD i.toNat z73
theorem at_T73 {w : World} {A : Option Addr} {n : Nat} {xs : List S73} (h : Kd.C k73 w A n xs) (i : Int) (h0 : 0 ≤ i) (h1 : i < n) : ∃ ad , A = some ad ∧ w.cell? (ad.add (i.toNat * 2)) = some (.int .i64 (rd_T73 xs i).f0) ∧ w.cell? ⟨(ad.add (i.toNat * 2)).block, (ad.add (i.toNat * 2)).off + 1, none⟩ = some (.int .i64 (rd_T73 xs i).f1) := by
  obtain ⟨ad, c, e, _, hK, hc0⟩ := Kd.C_get h z73 i h0 h1
  have hc : ∀ j u, c[j]? = some u → w.cell? (ad.add (i.toNat * 2 + j)) = some u := hc0
  obtain rfl := k73_open hK
  exact ⟨ad, e, hc 0 _ rfl, by rw [← add_field _ _ 1 (by omega)]; exact hc 1 _ rfl⟩

def rd_L6 (xs : List (List Bool)) (i : Int) : (List Bool) := xs.getD i.toNat ([] : List Bool)
/-! #### struct type 68 -/
structure S68 where
  f0 : Int
  f1 : Int
def k68 : Kd S68 := Kd.iso (Kd.pair (Kd.int .i64) (Kd.int .i64)) (fun x : S68 => (x.f0, x.f1))
/-! #### struct type 66 -/
structure S66 where
  f0 : Int
  f1 : (List S68)
def k66 : Kd S66 := Kd.iso (Kd.pair (Kd.int .i64) (Kd.slice 68 k68)) (fun x : S66 => (x.f0, x.f1))
/-! #### struct type 48 -/
structure S48 where
  f0 : Int
  f1 : Int
  f2 : Int
  f3 : (List Int)
  f4 : Int
def k48 : Kd S48 := Kd.iso (Kd.pair (Kd.int .i64) (Kd.pair (Kd.int .i64) (Kd.pair (Kd.int .i64) (Kd.pair (Kd.slice 3 (Kd.int .i64)) (Kd.int .i32))))) (fun x : S48 => (x.f0, x.f1, x.f2, x.f3, x.f4))
/-! #### struct type 42 -/
structure S42 where
  f0 : Int
  f1 : (List Int)
  f2 : (List Int)
  f3 : Int
def z42 : S42 := ⟨(0 : Int), ([] : List Int), ([] : List Int), (0 : Int)⟩
def k42 : Kd S42 := Kd.iso (Kd.pair (Kd.int .i64) (Kd.pair (Kd.slice 3 (Kd.int .i64)) (Kd.pair (Kd.slice 3 (Kd.int .i64)) (Kd.int .i32)))) (fun x : S42 => (x.f0, x.f1, x.f2, x.f3))
theorem k42_open {w : World} {x : S42} {cs : List Value} (h : k42.K w x cs) : ∃ A1 c1 A2 c2, cs = [.int .i64 x.f0, .slice A1 x.f1.length c1, .slice A2 x.f2.length c2, .int .i32 x.f3] ∧ x.f1.length ≤ c1 ∧ (Kd.int .i64).C w A1 x.f1.length x.f1 ∧ x.f2.length ≤ c2 ∧ (Kd.int .i64).C w A2 x.f2.length x.f2 := by
  obtain ⟨_, _, rfl, rfl, ⟨_, _, rfl, ⟨A1, c1, rfl, l1, g1⟩, ⟨_, _, rfl, ⟨A2, c2, rfl, l2, g2⟩, rfl⟩⟩⟩ := h
  exact ⟨A1, c1, A2, c2, rfl, l1, g1, l2, g2⟩
theorem k42_mk (w : World) (x : S42) {A1 : Option Addr} {c1 : Nat} (l1 : x.f1.length ≤ c1) (g1 : (Kd.int .i64).C w A1 x.f1.length x.f1) {A2 : Option Addr} {c2 : Nat} (l2 : x.f2.length ≤ c2) (g2 : (Kd.int .i64).C w A2 x.f2.length x.f2) : k42.K w x [.int .i64 x.f0, .slice A1 x.f1.length c1, .slice A2 x.f2.length c2, .int .i32 x.f3] := ⟨[.int .i64 x.f0], [.slice A1 x.f1.length c1, .slice A2 x.f2.length c2, .int .i32 x.f3], rfl, rfl, ⟨[.slice A1 x.f1.length c1], [.slice A2 x.f2.length c2, .int .i32 x.f3], rfl, ⟨A1, c1, rfl, l1, g1⟩, ⟨[.slice A2 x.f2.length c2], [.int .i32 x.f3], rfl, ⟨A2, c2, rfl, l2, g2⟩, rfl⟩⟩⟩
/-! #### struct type 46 -/
structure S46 where
  f0 : (List S66)
  f1 : (List S48)
  f2 : S42
def z46 : S46 := ⟨([] : List S66), ([] : List S48), z42⟩
def k46 : Kd S46 := Kd.iso (Kd.pair (Kd.slice 66 k66) (Kd.pair (Kd.slice 48 k48) k42)) (fun x : S46 => (x.f0, x.f1, x.f2))
theorem k46_open {w : World} {x : S46} {cs : List Value} (h : k46.K w x cs) : ∃ A0 c0 A1 c1 A3 c3 A4 c4, cs = [.slice A0 x.f0.length c0, .slice A1 x.f1.length c1, .int .i64 x.f2.f0, .slice A3 x.f2.f1.length c3, .slice A4 x.f2.f2.length c4, .int .i32 x.f2.f3] ∧ x.f0.length ≤ c0 ∧ k66.C w A0 x.f0.length x.f0 ∧ x.f1.length ≤ c1 ∧ k48.C w A1 x.f1.length x.f1 ∧ x.f2.f1.length ≤ c3 ∧ (Kd.int .i64).C w A3 x.f2.f1.length x.f2.f1 ∧ x.f2.f2.length ≤ c4 ∧ (Kd.int .i64).C w A4 x.f2.f2.length x.f2.f2 := by
  obtain ⟨_, _, rfl, ⟨A0, c0, rfl, l0, g0⟩, ⟨_, _, rfl, ⟨A1, c1, rfl, l1, g1⟩, s2⟩⟩ := h
  obtain ⟨A3, c3, A4, c4, rfl, l3, g3, l4, g4⟩ := k42_open s2
  exact ⟨A0, c0, A1, c1, A3, c3, A4, c4, rfl, l0, g0, l1, g1, l3, g3, l4, g4⟩
theorem k46_mk (w : World) (x : S46) {A0 : Option Addr} {c0 : Nat} (l0 : x.f0.length ≤ c0) (g0 : k66.C w A0 x.f0.length x.f0) {A1 : Option Addr} {c1 : Nat} (l1 : x.f1.length ≤ c1) (g1 : k48.C w A1 x.f1.length x.f1) {A3 : Option Addr} {c3 : Nat} (l3 : x.f2.f1.length ≤ c3) (g3 : (Kd.int .i64).C w A3 x.f2.f1.length x.f2.f1) {A4 : Option Addr} {c4 : Nat} (l4 : x.f2.f2.length ≤ c4) (g4 : (Kd.int .i64).C w A4 x.f2.f2.length x.f2.f2) : k46.K w x [.slice A0 x.f0.length c0, .slice A1 x.f1.length c1, .int .i64 x.f2.f0, .slice A3 x.f2.f1.length c3, .slice A4 x.f2.f2.length c4, .int .i32 x.f2.f3] := ⟨[.slice A0 x.f0.length c0], [.slice A1 x.f1.length c1, .int .i64 x.f2.f0, .slice A3 x.f2.f1.length c3, .slice A4 x.f2.f2.length c4, .int .i32 x.f2.f3], rfl, ⟨A0, c0, rfl, l0, g0⟩, ⟨[.slice A1 x.f1.length c1], [.int .i64 x.f2.f0, .slice A3 x.f2.f1.length c3, .slice A4 x.f2.f2.length c4, .int .i32 x.f2.f3], rfl, ⟨A1, c1, rfl, l1, g1⟩, (k42_mk w x.f2 l3 g3 l4 g4)⟩⟩
def rd_T46 (xs : List S46) (i : Int) : S46 := xs.getD i.toNat z46
theorem at_T46 {w : World} {A : Option Addr} {n : Nat} {xs : List S46} (h : Kd.C k46 w A n xs) (i : Int) (h0 : 0 ≤ i) (h1 : i < n) : ∃ ad A0 c0 A1 c1 A3 c3 A4 c4, A = some ad ∧ w.cell? (ad.add (i.toNat * 6)) = some (.slice A0 (rd_T46 xs i).f0.length c0) ∧ w.cell? ⟨(ad.add (i.toNat * 6)).block, (ad.add (i.toNat * 6)).off + 1, none⟩ = some (.slice A1 (rd_T46 xs i).f1.length c1) ∧ w.cell? ⟨(ad.add (i.toNat * 6)).block, (ad.add (i.toNat * 6)).off + 2, none⟩ = some (.int .i64 (rd_T46 xs i).f2.f0) ∧ w.cell? ⟨(ad.add (i.toNat * 6)).block, (ad.add (i.toNat * 6)).off + 3, none⟩ = some (.slice A3 (rd_T46 xs i).f2.f1.length c3) ∧ w.cell? ⟨(ad.add (i.toNat * 6)).block, (ad.add (i.toNat * 6)).off + 4, none⟩ = some (.slice A4 (rd_T46 xs i).f2.f2.length c4) ∧ w.cell? ⟨(ad.add (i.toNat * 6)).block, (ad.add (i.toNat * 6)).off + 5, none⟩ = some (.int .i32 (rd_T46 xs i).f2.f3) ∧ (rd_T46 xs i).f0.length ≤ c0 ∧ k66.C w A0 (rd_T46 xs i).f0.length (rd_T46 xs i).f0 ∧ (rd_T46 xs i).f1.length ≤ c1 ∧ k48.C w A1 (rd_T46 xs i).f1.length (rd_T46 xs i).f1 ∧ (rd_T46 xs i).f2.f1.length ≤ c3 ∧ (Kd.int .i64).C w A3 (rd_T46 xs i).f2.f1.length (rd_T46 xs i).f2.f1 ∧ (rd_T46 xs i).f2.f2.length ≤ c4 ∧ (Kd.int .i64).C w A4 (rd_T46 xs i).f2.f2.length (rd_T46 xs i).f2.f2 := by
  obtain ⟨ad, c, e, _, hK, hc0⟩ := Kd.C_get h z46 i h0 h1
  have hc : ∀ j u, c[j]? = some u → w.cell? (ad.add (i.toNat * 6 + j)) = some u := hc0
  obtain ⟨A0, c0, A1, c1, A3, c3, A4, c4, rfl, l0, g0, l1, g1, l3, g3, l4, g4⟩ := k46_open hK
  exact ⟨ad, A0, c0, A1, c1, A3, c3, A4, c4, e, hc 0 _ rfl, by rw [← add_field _ _ 1 (by omega)]; exact hc 1 _ rfl, by rw [← add_field _ _ 2 (by omega)]; exact hc 2 _ rfl, by rw [← add_field _ _ 3 (by omega)]; exact hc 3 _ rfl, by rw [← add_field _ _ 4 (by omega)]; exact hc 4 _ rfl, by rw [← add_field _ _ 5 (by omega)]; exact hc 5 _ rfl, l0, g0, l1, g1, l3, g3, l4, g4⟩

end Go.Proofs.Ytnmeomdjhjgnfaa.X
end
section
set_option linter.unusedSimpArgs false
set_option linter.unusedVariables false
namespace Go.Proofs.Ytnmeomdjhjgnfaa.X
open Go.RowKit Go.Proofs.YtnmeomdjhjgnfaaW.PrintWords Go.Proofs.YtnmeomdjhjgnfaaW.PrintLast Go.Proofs.YtnmeomdjhjgnfaaW.PrintMore

/-- The numbers of a row that are from 0 up to n, rising, each once. -/
def keptL (row : List Int) (n : Int) : List Int := ((List.range n.toNat).map (fun (b : Nat) => (b : Int))).filter (fun b => row.contains b)
def okG (g : List (List Int)) : Bool := decide (g.length ≤ 1000000) && g.all (fun r => decide (r.length ≤ 1000000))
def graph_kept.f (l0 : List Int) (a1 : Int) : Option (List Int) := if l0.length ≤ 1000000 then some (keptL l0 a1) else none

def cleanL (g : List (List Int)) : List (List Int) := g.map fun row => keptL row g.length
/-- The edges from block i on, by rows. -/
def edgesFrom : Nat → List (List Int) → List (Int × Int)
  | _, [] => []
  | i, row :: rest => row.map (fun b => ((i : Int), b)) ++ edgesFrom (i + 1) rest
def edgesL (g : List (List Int)) : List (Int × Int) := edgesFrom 0 (cleanL g)

/-- One edge's work in Preds. -/
def predStep (out : List (List Int)) (e : Int × Int) : List (List Int) := out.set e.2.toNat (out.getD e.2.toNat [] ++ [e.1])
def predsL (g : List (List Int)) : List (List Int) := (edgesL g).foldl predStep (List.replicate g.length [])
def graph_Preds.f (l0 : List (List Int)) : Option (List (List Int)) := if okG l0 = true then some (predsL l0) else none

/-- What is gone over from a block on: which have been come to, which left. -/
def overL (rows : List (List Int)) : Nat → Int → List Bool × List Int → Option (List Bool × List Int)
  | 0, _, _ => none
  | k + 1, a, s => ((rows.getD a.toNat []).foldlM (fun s b => if s.1.getD b.toNat false = true then some s else overL rows k b s) (s.1.set a.toNat true, s.2)).map fun s => (s.1, s.2 ++ [a])
def graph_Order.f (k : Nat) (l0 : List (List Int)) : Option (List Int) :=
  if okG l0 = true then (if l0.length = 0 then some [] else (overL (cleanL l0) k 0 (List.replicate l0.length false, [])).map fun s => s.2.reverse) else none

def graph_common.f : Nat → List Int → List Int → Int → Int → Option Int
  | 0, _, _, _, _ => none
  | k + 1, d, num, a, b =>
    if 0 ≤ a ∧ a < num.length ∧ 0 ≤ b ∧ b < num.length then
      (if rd num b < rd num a then (if a < d.length then graph_common.f k d num (rd d a) b else none)
       else if rd num a < rd num b then (if b < d.length then graph_common.f k d num a (rd d b) else none)
       else some a)
    else none

/-- Is it the number of a block? -/
def isB (d : List Int) (n : Int) : Bool := decide (0 ≤ n) && decide (n < d.length)
def domLoop (d : List Int) (a : Int) : Nat → Int → Bool
  | 0, _ => false
  | k + 1, b => if a = b then true else if isB d b = true then domLoop d a k (rd d b) else false
def domL (d : List Int) (a b : Int) : Bool := isB d a && (isB d b && domLoop d a (d.length + 1) b)
def graph_Dominates.f (l0 : List Int) (a1 a2 : Int) : Option Bool := if l0.length ≤ 1000000 then some (domL l0 a1 a2) else none
/-- Does an edge go back? -/
def backL (d : List Int) (a b : Int) : Bool := (a == 0 || decide (0 ≤ rd d a)) && domL d b a

/-- A number's place in an order, from 1 on; 0: it does not stand there. -/
def numR : List Int → Int → Int
  | [], _ => 0
  | b :: t, x => if b = x then t.length + 1 else numR t x
def numL (o : List Int) (x : Int) : Int := numR o.reverse x

def critL (g : List (List Int)) : List S73 :=
  ((edgesL g).filter fun e => decide (1 < ((cleanL g).getD e.1.toNat []).length) && decide (1 < ((predsL g).getD e.2.toNat []).length)).map fun e => ⟨e.1, e.2⟩
def graph_Critical.f (l0 : List (List Int)) : Option (List S73) := if okG l0 = true then some (critL l0) else none
def jacquardref02_Pairs.f (l0 l1 : List S73) : Option Bool := some (decide (l0.map (fun s => (s.f0, s.f1)) = l1.map (fun s => (s.f0, s.f1))))
def jacquardlaw02_awake.f : Option Bool := some true

/-- Insertion of a number into a rising row; a row's rising order. -/
def ins1 (x : Int) : List Int → List Int
  | [] => [x]
  | y :: t => if x ≤ y then x :: y :: t else y :: ins1 x t
def isort : List Int → List Int
  | [] => []
  | x :: t => ins1 x (isort t)

/-- A loop's blocks: what is open, what is in. -/
def bodyLoop (preds : List (List Int)) : Nat → List Int → List Int → Option (List Int)
  | 0, _, _ => none
  | k + 1, o, s => match o.getLast? with
    | none => some s
    | some a => if s.contains a = true then bodyLoop preds k o.dropLast s
        else if 0 ≤ a ∧ a < preds.length ∧ (o.dropLast ++ preds.getD a.toNat []).length ≤ 1000000000 ∧ s.length ≤ 1000000000 then bodyLoop preds k (o.dropLast ++ preds.getD a.toNat []) (a :: s) else none
theorem overL_mono (rows : List (List Int)) : ∀ k a s, LeO (overL rows k a s) (overL rows (k + 1) a s)
  | 0, _, _ => fun r h => by simp [overL] at h
  | k + 1, a, s => fun r h => by
    have ih := overL_mono rows k
    have key : ∀ (l : List Int) (s : List Bool × List Int), LeO (l.foldlM (fun s b => if s.1.getD b.toNat false = true then some s else overL rows k b s) s)
        (l.foldlM (fun s b => if s.1.getD b.toNat false = true then some s else overL rows (k + 1) b s) s) := by
      intro l
      induction l with
      | nil => intro s; exact LeO.refl _
      | cons b l ihl =>
        intro s
        simp only [List.foldlM_cons]
        refine LeO.bind ?_ (fun _ => ihl _)
        exact LeO.ite (LeO.refl _) (ih b s)
    rw [overL] at h ⊢
    exact LeO.map _ (key _ _) r h
theorem graph_Order.mono (k : Nat) (l0 : List (List Int)) : LeO (graph_Order.f k l0) (graph_Order.f (k + 1) l0) := by
  unfold graph_Order.f
  exact LeO.ite (LeO.ite (LeO.refl _) (LeO.map _ (overL_mono _ _ _ _))) (LeO.refl _)
theorem graph_common.mono : ∀ (k : Nat) (d num : List Int) (a b : Int), LeO (graph_common.f k d num a b) (graph_common.f (k + 1) d num a b)
  | 0, _, _, _, _ => fun r h => by simp [graph_common.f] at h
  | k + 1, d, num, a, b => by
    rw [graph_common.f, graph_common.f]
    exact LeO.ite (LeO.ite (LeO.ite (graph_common.mono k _ _ _ _) (LeO.refl _)) (LeO.ite (LeO.ite (graph_common.mono k _ _ _ _) (LeO.refl _)) (LeO.refl _))) (LeO.refl _)
theorem bodyLoop_mono (preds : List (List Int)) : ∀ k o s, LeO (bodyLoop preds k o s) (bodyLoop preds (k + 1) o s)
  | 0, _, _ => fun r h => by simp [bodyLoop] at h
  | k + 1, o, s => by
    rw [bodyLoop, bodyLoop]
    cases o.getLast? with
    | none => exact LeO.refl _
    | some a => exact LeO.ite (bodyLoop_mono preds k _ _) (LeO.ite (bodyLoop_mono preds k _ _) (LeO.refl _))
end Go.Proofs.Ytnmeomdjhjgnfaa.X
end
section
namespace Go.Proofs
open Go.Shelf
def Try.lays189_ren : Go.Shelf.Ren := ⟨fun | 189 => 85 | 125 => 106 | 257 => 105 | 128 => 131 | 129 => 132 | 294 => 122 | 295 => 123 | 296 => 124 | 297 => 125 | 298 => 126 | 299 => 127 | 216 => 128 | 300 => 129 | 301 => 130 | 328 => 138 | 329 => 139 | 330 => 140 | 331 => 141 | 332 => 142 | 215 => 143 | 343 => 145 | n => n, fun | 28 => 23 | 3 => 3 | 46 => 143 | 0 => 0 | 51 => 161 | 53 => 163 | 4 => 4 | 183 => 155 | 182 => 154 | 131 => 158 | 5 => 5 | 9 => 9 | 218 => 168 | 222 => 172 | 228 => 175 | 229 => 132 | n => n, fun | n => n⟩
theorem Try.lays189 : Go.Proofs.Lays.n189 Try.prog Try.lays189_ren := {
  mixed := by kernel_rfl
  f125 := Try.func106.trans (congrArg some (by kernel_rfl))
  f128 := Try.func131.trans (congrArg some (by kernel_rfl))
  f129 := Try.func132.trans (congrArg some (by kernel_rfl))
  f189 := Try.func85.trans (congrArg some (by kernel_rfl))
  f215 := Try.func143.trans (congrArg some (by kernel_rfl))
  f216 := Try.func128.trans (congrArg some (by kernel_rfl))
  f257 := Try.func105.trans (congrArg some (by kernel_rfl))
  f294 := Try.func122.trans (congrArg some (by kernel_rfl))
  f295 := Try.func123.trans (congrArg some (by kernel_rfl))
  f296 := Try.func124.trans (congrArg some (by kernel_rfl))
  f297 := Try.func125.trans (congrArg some (by kernel_rfl))
  f298 := Try.func126.trans (congrArg some (by kernel_rfl))
  f299 := Try.func127.trans (congrArg some (by kernel_rfl))
  f300 := Try.func129.trans (congrArg some (by kernel_rfl))
  f301 := Try.func130.trans (congrArg some (by kernel_rfl))
  f328 := Try.func138.trans (congrArg some (by kernel_rfl))
  f329 := Try.func139.trans (congrArg some (by kernel_rfl))
  f330 := Try.func140.trans (congrArg some (by kernel_rfl))
  f331 := Try.func141.trans (congrArg some (by kernel_rfl))
  f332 := Try.func142.trans (congrArg some (by kernel_rfl))
  f343 := Try.func145.trans (congrArg some (by kernel_rfl))
  t0 := Try.underlying0
  a0 := Try.isAgg0
  z0 := Try.sizeOf0
  v0 := Try.zeroValue0
  t3 := Try.underlying3
  a3 := Try.isAgg3
  z3 := Try.sizeOf3
  v3 := Try.zeroValue3
  t4 := Try.underlying4
  a4 := Try.isAgg4
  z4 := Try.sizeOf4
  v4 := Try.zeroValue4
  t5 := Try.underlying5
  a5 := Try.isAgg5
  z5 := Try.sizeOf5
  v5 := Try.zeroValue5
  t9 := Try.underlying9
  a9 := Try.isAgg9
  z9 := Try.sizeOf9
  v9 := Try.zeroValue9
  t28 := Try.underlying23
  a28 := Try.isAgg23
  z28 := Try.sizeOf23
  v28 := Try.zeroValue23
  t46 := Try.underlying143
  a46 := Try.isAgg143
  z46 := Try.sizeOf143
  v46 := Try.zeroValue143
  t51 := Try.underlying161
  a51 := Try.isAgg161
  z51 := Try.sizeOf161
  v51 := Try.zeroValue161
  t53 := Try.underlying163
  a53 := Try.isAgg163
  z53 := Try.sizeOf163
  v53 := Try.zeroValue163
  t131 := Try.underlying158
  a131 := Try.isAgg158
  z131 := Try.sizeOf158
  v131 := Try.zeroValue158
  t182 := Try.underlying154
  a182 := Try.isAgg154
  z182 := Try.sizeOf154
  v182 := Try.zeroValue154
  t183 := Try.underlying155
  a183 := Try.isAgg155
  z183 := Try.sizeOf155
  v183 := Try.zeroValue155
  t218 := Try.underlying168
  a218 := Try.isAgg168
  z218 := Try.sizeOf168
  v218 := Try.zeroValue168
  t222 := Try.underlying172
  a222 := Try.isAgg172
  z222 := Try.sizeOf172
  v222 := Try.zeroValue172
  t228 := Try.underlying175
  a228 := Try.isAgg175
  z228 := Try.sizeOf175
  v228 := Try.zeroValue175
  t229 := Try.underlying132
  a229 := Try.isAgg132
  z229 := Try.sizeOf132
  v229 := Try.zeroValue132 }
open Go.Sort Go.RowKit in
theorem Try.slices_Sort_int (blk off cap : Nat) (zs : List Int) (w : World) (hH : Holds (Value.int .i64) w blk off zs.toArray) (hblk : blk < w.heap.size) (hsz : zs.length < 4611686018427387904) :
    Calls Try.prog 85 #[.slice (some ⟨blk, off, none⟩) zs.length cap] w fun e w' =>
      e = .returned (.tuple #[]) ∧ ∃ n os, w' = grow (putRow (Value.int .i64) (Sort.ahead w n) blk off (zs.mergeSort fun x y => decide (x ≤ y)).toArray) os := Any.slices_Sort_int Try.lays189 blk off cap zs w hH hblk hsz
open Go.Lib in
open Go.Lib in
open Go.Lib in
open Go.Lib in
def Try.lays112_ren : Go.Shelf.Ren := ⟨fun | 112 => 71 | n => n, fun | 28 => 23 | 3 => 3 | 4 => 4 | 0 => 0 | n => n, fun | n => n⟩
theorem Try.lays112 : Go.Proofs.Lays.n112 Try.prog Try.lays112_ren := {
  mixed := by kernel_rfl
  f112 := Try.func71.trans (congrArg some (by kernel_rfl))
  t0 := Try.underlying0
  a0 := Try.isAgg0
  z0 := Try.sizeOf0
  v0 := Try.zeroValue0
  t3 := Try.underlying3
  a3 := Try.isAgg3
  z3 := Try.sizeOf3
  v3 := Try.zeroValue3
  t4 := Try.underlying4
  a4 := Try.isAgg4
  z4 := Try.sizeOf4
  v4 := Try.zeroValue4
  t28 := Try.underlying23
  a28 := Try.isAgg23
  z28 := Try.sizeOf23
  v28 := Try.zeroValue23 }
open Go.RowKit Go.Lib Go.Sort in
open Go.RowKit Go.Lib Go.Sort in
theorem Try.slices_Reverse_int (blk off cap : Nat) (zs : List Int) (w : World) (hH : Holds (Value.int .i64) w blk off zs.toArray) (hsz : zs.length ≤ 9223372036854775807) :
    Calls Try.prog 71 #[.slice (some ⟨blk, off, none⟩) zs.length cap] w fun e w' => e = .returned (.tuple #[]) ∧ ∃ n, w' = putRow (Value.int .i64) (Sort.ahead w n) blk off zs.reverse.toArray := Any.slices_Reverse_int Try.lays112 blk off cap zs w hH hsz
open Go.RowKit Go.Lib Go.Sort in
theorem Try.slices_Reverse_int_empty (a : Option Addr) (cap : Nat) (w : World) :
    Calls Try.prog 71 #[.slice a 0 cap] w fun e w' => e = .returned (.tuple #[]) ∧ w' = w := Any.slices_Reverse_int_empty Try.lays112 a cap w
def Try.laysNm220_ren : Go.Shelf.Ren := ⟨fun | 20 => 86 | n => n, fun | 22 => 23 | 3 => 3 | 4 => 4 | 0 => 0 | n => n, fun | n => n⟩
theorem Try.laysNm220 : Go.Proofs.Lays2.n20 Try.prog Try.laysNm220_ren := {
  mixed := by kernel_rfl
  f20 := Try.func86.trans (congrArg some (by kernel_rfl))
  t0 := Try.underlying0
  a0 := Try.isAgg0
  z0 := Try.sizeOf0
  v0 := Try.zeroValue0
  t3 := Try.underlying3
  a3 := Try.isAgg3
  z3 := Try.sizeOf3
  v3 := Try.zeroValue3
  t4 := Try.underlying4
  a4 := Try.isAgg4
  z4 := Try.sizeOf4
  v4 := Try.zeroValue4
  t22 := Try.underlying23
  a22 := Try.isAgg23
  z22 := Try.sizeOf23
  v22 := Try.zeroValue23
  i3 := by kernel_rfl }
open Go.RowKit Go.Lib Go.Sort in
open Go.RowKit Go.Lib Go.Sort in
theorem Try.slices_Compact_int (blk off cap : Nat) (zs : List Int) (w : World) (hH : Holds (Value.int .i64) w blk off zs.toArray) (hsz : zs.length ≤ 9223372036854775807) (hcap : zs.length ≤ cap) :
    Calls Try.prog 86 #[.slice (some ⟨blk, off, none⟩) zs.length cap] w fun e w' => e = .returned (.slice (some ⟨blk, off, none⟩) (Lib.compact zs).length cap) ∧ ∃ q, w' = putRow (Value.int .i64) (Sort.ahead w q) blk off (Lib.compact zs ++ List.replicate (zs.length - (Lib.compact zs).length) 0).toArray := Any.slices_Compact_int Try.laysNm220 blk off cap zs w hH hsz hcap
open Go.RowKit Go.Lib Go.Sort in
theorem Try.slices_Compact_int_empty (a : Option Addr) (cap : Nat) (w : World) :
    Calls Try.prog 86 #[.slice a 0 cap] w fun e w' => e = .returned (.slice a 0 cap) ∧ w' = w := Any.slices_Compact_int_empty Try.laysNm220 a cap w




open Go.RowKit Go.Lib Go.Sort in
open Go.RowKit Go.Lib Go.Sort in
open Go.RowKit Go.Sort in
theorem Try.slices_Sort_int_none (p : Option Addr) (cap : Nat) (w : World) :
    Calls Try.prog 85 #[.slice p 0 cap] w fun e w' => e = .returned (.tuple #[]) ∧ w' = w := Any.slices_Sort_int_none Try.lays189 p cap w
end Go.Proofs
end
section
set_option linter.unusedSimpArgs false
namespace Go.Proofs.Ytnmeomdjhjgnfaa.X
open Go.RowKit Go.Sort Go.Proofs.YtnmeomdjhjgnfaaW.PrintWords Go.Proofs.YtnmeomdjhjgnfaaW.PrintLast Go.Proofs.YtnmeomdjhjgnfaaW.PrintMore
set_option linter.unusedVariables false

theorem i1 : ∀ x, (Value.int IntKind.i64 x).oneCell' = true := fun _ => rfl
theorem encs_eq (xs : List Int) : encs (Value.int .i64) xs = xs.map (Value.int .i64) := rfl

/-- The row behind a contract of the sort's kind. -/
theorem R_put_row {w : World} {base g cap : Nat} {ok : Nat → Prop} {xs ts : List Int} (h : (Kd.int .i64).R 3 w base ok (.slice (some ⟨g, 0, none⟩) xs.length cap) xs) (hl : ts.length = xs.length) (n : Nat) (os : Array Obj) :
    (Kd.int .i64).R 3 (grow (putRow (Value.int .i64) (Sort.ahead w n) g 0 ts.toArray) os) base ok (.slice (some ⟨g, 0, none⟩) xs.length cap) ts ∧
    w.grownBy (grow (putRow (Value.int .i64) (Sort.ahead w n) g 0 ts.toArray) os) (some g) := by
  refine ⟨?_, grownBy_sortedI _⟩
  have ho := Kd.own_of_R (h1 := i1) h
  rcases ho.2 with ⟨hv, _⟩ | ⟨g', cap', cur, hv, hb, hc, hn, hm, hs, _⟩
  · cases hv
  · cases hv
    have := ownsRow_sortedI (n := n) (os := os) hl hb hc hn hm hs
    have h2 : ((grow (putRow (Value.int .i64) (Sort.ahead w n) g 0 ts.toArray) os)).ownsRow base 3 1 (.slice (some ⟨g, 0, none⟩) xs.length cap) ts.length (encs (Value.int .i64) ts) := by
      rw [encs_eq, hl]; exact this
    exact Kd.R_of_own h2 h.1

theorem R_holds {w : World} {base g cap : Nat} {ok : Nat → Prop} {xs : List Int} (h : (Kd.int .i64).R 3 w base ok (.slice (some ⟨g, 0, none⟩) xs.length cap) xs) :
    Holds (Value.int .i64) w g 0 xs.toArray ∧ g < w.heap.size ∧ xs.length ≤ cap := by
  have ho := Kd.own_of_R (h1 := i1) h
  rcases ho.2 with ⟨hv, _⟩ | ⟨g', cap', cur, hv, hb, hc, hn, hm, hs, ht⟩
  · cases hv
  · cases hv
    exact ⟨holds_of_blockI hc (by rw [encs_eq] at ht; simpa using ht), (Array.getElem?_eq_some_iff.1 hc).1, hn⟩

/-- A row of one's own is nil and empty, or it begins at its block's head. -/
theorem R_cases {w : World} {base : Nat} {ok : Nat → Prop} {v : Value} {xs : List Int} (h : (Kd.int .i64).R 3 w base ok v xs) : (v = .slice none 0 0 ∧ xs = []) ∨ ∃ g cap, v = .slice (some ⟨g, 0, none⟩) xs.length cap := by
  have ho := Kd.own_of_R (h1 := i1) h
  rcases ho.2 with ⟨hv, hn⟩ | ⟨g', cap', cur, hv, _⟩
  · exact .inl ⟨hv, List.length_eq_zero_iff.1 hn⟩
  · exact .inr ⟨g', cap', hv⟩

theorem isort_length (xs : List Int) : (isort xs).length = xs.length := by
  have : ∀ x l, (ins1 x l).length = l.length + 1 := by
    intro x l
    induction l with
    | nil => rfl
    | cons y t ih => unfold ins1; split <;> simp [ih]
  induction xs with
  | nil => rfl
  | cons x t ih => simp [isort, this, ih]
theorem ins1_perm (x : Int) (l : List Int) : (ins1 x l).Perm (x :: l) := by
  induction l with
  | nil => exact .refl _
  | cons y t ih =>
    unfold ins1
    split
    · exact .refl _
    · exact (List.Perm.cons y ih).trans (.swap x y t)
theorem isort_perm (l : List Int) : (isort l).Perm l := by
  induction l with
  | nil => exact .refl _
  | cons x t ih => exact (ins1_perm x _).trans (.cons x ih)
theorem ins1_sorted (x : Int) (l : List Int) (h : l.Pairwise (· ≤ ·)) : (ins1 x l).Pairwise (· ≤ ·) := by
  induction l with
  | nil => simp [ins1]
  | cons y t ih =>
    unfold ins1
    split
    · rename_i hxy
      refine List.pairwise_cons.2 ⟨?_, h⟩
      intro z hz
      rcases List.mem_cons.1 hz with rfl | hz
      · exact hxy
      · exact Int.le_trans hxy ((List.pairwise_cons.1 h).1 z hz)
    · rename_i hxy
      refine List.pairwise_cons.2 ⟨?_, ih (List.pairwise_cons.1 h).2⟩
      intro z hz
      rcases List.mem_cons.1 ((ins1_perm x t).mem_iff.1 hz) with rfl | hz
      · omega
      · exact (List.pairwise_cons.1 h).1 z hz
theorem isort_sorted (l : List Int) : (isort l).Pairwise (· ≤ ·) := by
  induction l with
  | nil => exact .nil
  | cons x t ih => exact ins1_sorted x _ ih
theorem mergeSort_eq (l : List Int) : (l.mergeSort fun x y => decide (x ≤ y)) = isort l := by
  have h1 : (l.mergeSort fun x y => decide (x ≤ y)).Pairwise (· ≤ ·) := by
    have := List.pairwise_mergeSort (le := fun x y : Int => decide (x ≤ y)) (by intro a b c; simp; omega) (by intro a b; simp; omega) l
    simpa using this
  have hp : (l.mergeSort fun x y => decide (x ≤ y)).Perm (isort l) := (List.mergeSort_perm l _).trans (isort_perm l).symm
  exact hp.eq_of_pairwise (le := (· ≤ ·)) (fun a b _ _ h h' => Int.le_antisymm h h') h1 (isort_sorted l)

/-- slices.Sort of a row of the call's own. -/
theorem sort_R {w : World} {base : Nat} {ok : Nat → Prop} {v : Value} {xs : List Int} (h : (Kd.int .i64).R 3 w base ok v xs) (hlen : xs.length ≤ 100000000) :
    Calls Try.prog 85 #[v] w fun e w' => e = .returned (.tuple #[]) ∧ (Kd.int .i64).R 3 w' base ok v (isort xs) ∧ w.grownBy w' v.ownBlock := by
  rcases R_cases h with ⟨rfl, rfl⟩ | ⟨g, cap, rfl⟩
  · refine (Try.slices_Sort_int_none none 0 w).mono ?_
    rintro e w' ⟨rfl, rfl⟩
    exact ⟨rfl, h, ⟨rfl, rfl, rfl, Nat.le_refl _, fun _ _ _ => rfl⟩⟩
  · obtain ⟨hh, hg, hc⟩ := R_holds h
    refine (Try.slices_Sort_int g 0 cap xs w hh hg (by omega)).mono ?_
    rintro e w' ⟨rfl, n, os, rfl⟩
    rw [mergeSort_eq]
    have := R_put_row h (isort_length xs) n os
    exact ⟨rfl, this.1, this.2⟩

/-- slices.Reverse of a row of the call's own. -/
theorem reverse_R {w : World} {base : Nat} {ok : Nat → Prop} {v : Value} {xs : List Int} (h : (Kd.int .i64).R 3 w base ok v xs) (hlen : xs.length ≤ 100000000) :
    Calls Try.prog 71 #[v] w fun e w' => e = .returned (.tuple #[]) ∧ (Kd.int .i64).R 3 w' base ok v xs.reverse ∧ w.grownBy w' v.ownBlock := by
  rcases R_cases h with ⟨rfl, rfl⟩ | ⟨g, cap, rfl⟩
  · refine (Try.slices_Reverse_int_empty none 0 w).mono ?_
    rintro e w' ⟨rfl, rfl⟩
    exact ⟨rfl, h, ⟨rfl, rfl, rfl, Nat.le_refl _, fun _ _ _ => rfl⟩⟩
  · obtain ⟨hh, hg, hc⟩ := R_holds h
    refine (Try.slices_Reverse_int g 0 cap xs w hh (by omega)).mono ?_
    rintro e w' ⟨rfl, n, rfl⟩
    have := R_put_row h (show xs.reverse.length = xs.length by simp) n #[]
    rw [grow_empty] at this
    exact ⟨rfl, this.1, this.2⟩

theorem compact_le (zs : List Int) : (Lib.compact zs).length ≤ zs.length := by
  unfold Lib.compact Lib.compactUpTo
  rw [List.length_map]
  exact Nat.le_trans (List.length_filter_le _ _) (by simp)

/-- slices.Compact of a row of the call's own. -/
theorem compact_R {w : World} {base : Nat} {ok : Nat → Prop} {v : Value} {xs : List Int} (h : (Kd.int .i64).R 3 w base ok v xs) (hlen : xs.length ≤ 100000000) :
    Calls Try.prog 86 #[v] w fun e w' => ∃ v' : Value, e = .returned v' ∧ (Kd.int .i64).R 3 w' base ok v' (Lib.compact xs) ∧ w.grownBy w' v.ownBlock := by
  rcases R_cases h with ⟨rfl, rfl⟩ | ⟨g, cap, rfl⟩
  · refine (Try.slices_Compact_int_empty none 0 w).mono ?_
    rintro e w' ⟨rfl, rfl⟩
    exact ⟨_, rfl, h, ⟨rfl, rfl, rfl, Nat.le_refl _, fun _ _ _ => rfl⟩⟩
  · obtain ⟨hh, hg, hc⟩ := R_holds h
    refine (Try.slices_Compact_int g 0 cap xs w hh (by omega) hc).mono ?_
    rintro e w' ⟨rfl, n, rfl⟩
    have hle := compact_le xs
    have := R_put_row (ts := Lib.compact xs ++ List.replicate (xs.length - (Lib.compact xs).length) 0) h (by simp; omega) n #[]
    rw [grow_empty] at this
    refine ⟨_, rfl, ?_, this.2⟩
    have h2 := this.1
    have e1 : xs.length = (Lib.compact xs ++ List.replicate (xs.length - (Lib.compact xs).length) 0).length := by simp; omega
    rw [e1] at h2
    have h3 := Kd.R_take (m := (Lib.compact xs).length) h2 (by simp)
    simpa using h3
theorem strict_eq {l1 l2 : List Int} (h1 : l1.Pairwise (· < ·)) (h2 : l2.Pairwise (· < ·)) (hm : ∀ x, x ∈ l1 ↔ x ∈ l2) : l1 = l2 := by
  have n1 : l1.Nodup := h1.imp (fun h e => by omega)
  have n2 : l2.Nodup := h2.imp (fun h e => by omega)
  have hp : l1.Perm l2 := (List.perm_ext_iff_of_nodup n1 n2).2 hm
  exact hp.eq_of_pairwise (le := (· < ·)) (fun a b _ _ h h' => by omega) h1 h2

theorem compactUpTo_strict (zs : List Int) (hs : zs.Pairwise (· ≤ ·)) : ∀ m, m ≤ zs.length →
    (Lib.compactUpTo zs.toArray m).Pairwise (· < ·) ∧ (∀ x, x ∈ Lib.compactUpTo zs.toArray m ↔ ∃ j, j < m ∧ zs[j]? = some x) := by
  have hle : ∀ i j, i ≤ j → j < zs.length → zs.toArray[i]! ≤ zs.toArray[j]! := by
    intro i j hij hj
    by_cases e : i = j
    · subst e; exact Int.le_refl _
    · rw [getElem!_pos _ i (by simp; omega), getElem!_pos _ j (by simpa using hj)]
      exact List.pairwise_iff_getElem.1 hs i j (by omega) hj (by omega)
  intro m
  induction m with
  | zero => intro _; simp [Lib.compactUpTo]
  | succ m ih =>
    intro hm
    obtain ⟨hp, hmem⟩ := ih (by omega)
    have hm' : m < zs.length := by omega
    have hget : zs[m]? = some (zs.toArray[m]!) := by
      rw [getElem!_pos _ m (by simpa using hm')]; simp [hm']
    rw [Lib.compactUpTo_succ]
    by_cases hk : Lib.keeps zs.toArray m = true
    · rw [if_pos hk]
      constructor
      · rw [List.pairwise_append]
        refine ⟨hp, by simp, ?_⟩
        intro x hx y hy
        rw [List.mem_singleton] at hy
        subst hy
        obtain ⟨j, hj, hjx⟩ := (hmem x).1 hx
        have hj' : j < zs.length := by omega
        have ex : x = zs.toArray[j]! := by
          rw [getElem!_pos _ j (by simpa using hj')]
          simpa [hj'] using hjx.symm
        unfold Lib.keeps at hk
        have hk := of_decide_eq_true hk
        rcases hk with h0 | hne
        · omega
        · have a1 := hle j (m - 1) (by omega) (by omega)
          have a2 := hle (m - 1) m (by omega) hm'
          have : zs.toArray[m - 1]! ≠ zs.toArray[m]! := fun e => hne e.symm
          rw [ex]; omega
      · intro x
        rw [List.mem_append, hmem, List.mem_singleton]
        constructor
        · rintro (⟨j, hj, hjx⟩ | rfl)
          · exact ⟨j, by omega, hjx⟩
          · exact ⟨m, by omega, hget⟩
        · rintro ⟨j, hj, hjx⟩
          by_cases e : j = m
          · right
            rw [e, hget] at hjx
            exact (Option.some.inj hjx).symm
          · exact .inl ⟨j, by omega, hjx⟩
    · rw [if_neg hk, List.append_nil]
      refine ⟨hp, fun x => ?_⟩
      rw [hmem]
      constructor
      · rintro ⟨j, hj, hjx⟩; exact ⟨j, by omega, hjx⟩
      · rintro ⟨j, hj, hjx⟩
        by_cases e : j = m
        · unfold Lib.keeps at hk
          have hk : ¬ (m = 0 ∨ zs.toArray[m]! ≠ zs.toArray[m - 1]!) := fun h => hk (decide_eq_true h)
          have h0 : m ≠ 0 := fun h => hk (.inl h)
          have he : zs.toArray[m]! = zs.toArray[m - 1]! := Classical.byContradiction fun h => hk (.inr h)
          refine ⟨m - 1, by omega, ?_⟩
          rw [e, hget] at hjx
          rw [← hjx, he, getElem!_pos _ (m - 1) (by simp; omega)]
          simp
        · exact ⟨j, by omega, hjx⟩

theorem keptL_strict (row : List Int) (n : Int) : (keptL row n).Pairwise (· < ·) := by
  unfold keptL
  refine List.Pairwise.filter _ ?_
  rw [List.pairwise_map]
  exact List.pairwise_lt_range.imp (fun h => by omega)
theorem mem_keptL (row : List Int) (n x : Int) : x ∈ keptL row n ↔ x ∈ row ∧ 0 ≤ x ∧ x < n := by
  unfold keptL
  rw [List.mem_filter, List.mem_map, List.contains_iff_mem]
  constructor
  · rintro ⟨⟨a, ha, rfl⟩, hx⟩
    rw [List.mem_range] at ha
    exact ⟨hx, by omega, by omega⟩
  · rintro ⟨hx, h0, h1⟩
    exact ⟨⟨x.toNat, by rw [List.mem_range]; omega, by omega⟩, hx⟩
/-- What sorting and compacting make. -/
theorem kept_of (l row : List Int) (n : Int) (hm : ∀ x, x ∈ l ↔ x ∈ row ∧ 0 ≤ x ∧ x < n) : Lib.compact (isort l) = keptL row n := by
  have h := compactUpTo_strict (isort l) (isort_sorted l) (isort l).length (Nat.le_refl _)
  refine strict_eq h.1 (keptL_strict row n) (fun x => ?_)
  show x ∈ Lib.compactUpTo _ _ ↔ _
  rw [h.2, mem_keptL, ← hm, ← (isort_perm l).mem_iff, List.mem_iff_getElem?]
  constructor
  · rintro ⟨j, _, hj⟩; exact ⟨j, hj⟩
  · rintro ⟨j, hj⟩; exact ⟨j, (List.getElem?_eq_some_iff.1 hj).1, hj⟩
theorem keptL_length (row : List Int) (n : Int) : (keptL row n).length ≤ n.toNat := by
  unfold keptL
  exact Nat.le_trans (List.length_filter_le _ _) (by simp)
end Go.Proofs.Ytnmeomdjhjgnfaa.X
end
section
set_option linter.unusedSimpArgs false
namespace Go.Proofs.Ytnmeomdjhjgnfaa.X
open Go.RowKit Go.Proofs.YtnmeomdjhjgnfaaW.PrintWords Go.Proofs.YtnmeomdjhjgnfaaW.PrintLast Go.Proofs.YtnmeomdjhjgnfaaW.PrintMore
set_option linter.unusedVariables false

def inB (n : Int) (x : Int) : Bool := decide (0 ≤ x) && decide (x < n)
theorem take_filter_yes (l : List Int) (p : Int → Bool) (i : Nat) (h : i < l.length) (hp : p (rd l i) = true) : (l.take (i + 1)).filter p = (l.take i).filter p ++ [rd l i] := by
  have e : rd l i = l[i] := by simp [rd, h]
  rw [e] at hp ⊢
  rw [List.take_succ_eq_append_getElem h, List.filter_append]
  simp [hp]
theorem take_filter_no (l : List Int) (p : Int → Bool) (i : Nat) (h : i < l.length) (hp : p (rd l i) = false) : (l.take (i + 1)).filter p = (l.take i).filter p := by
  have e : rd l i = l[i] := by simp [rd, h]
  rw [e] at hp
  rw [List.take_succ_eq_append_getElem h, List.filter_append]
  simp [hp]
theorem take_filter_le (l : List Int) (p : Int → Bool) (i : Nat) : ((l.take i).filter p).length ≤ l.length := Nat.le_trans (List.length_filter_le _ _) (by simp; omega)

set_option maxHeartbeats 4000000 in
set_option maxRecDepth 100000 in
theorem graph_kept.calls (A0 : Option Addr) (c0 : Nat) (l0 : List Int) (a1 : Int) (r : List Int) (w : World) (hr0 : Kd.C (Kd.int .i64) w A0 l0.length l0) (hc0 : l0.length ≤ c0) (h : graph_kept.f l0 a1 = some r) :
    Calls Try.prog 92 #[.slice A0 l0.length c0, .int .i64 a1] w fun e w' => ∃ v0_ : Value, e = .returned (v0_) ∧ Kd.R (Kd.int .i64) 3 w' w.heap.size (fun _ => True) v0_ r ∧ Below w.heap.size w w' := by
  have HR0 := Aside0.mk hr0
  clear hr0 hc0
  have hlen : l0.length ≤ 1000000 := by
    by_cases hl : l0.length ≤ 1000000
    · exact hl
    · simp [graph_kept.f, hl] at h
  have HF : Aside0 (r = keptL l0 a1) := ⟨by simpa [graph_kept.f, hlen] using h.symm⟩
  clear h
  go_enter Try.func92, Try.ntmps92
  go_wp2
  go_loopg [5, 10] l0.length (fun kq v5 v10 w' => ∃ i : Nat, v10 = .int .i64 i ∧ Aside0 (kq + i = l0.length) ∧ Aside0 (Kd.R (Kd.int .i64) 3 w' w.heap.size (fun _ => True) v5 ((l0.take i).filter (inB a1))) ∧ Aside0 (Below w.heap.size w w'))
  case atStart => exact ⟨0, rfl, ⟨rfl⟩, ⟨by simpa using Kd.R_nil _ _ _ _ _⟩, ⟨Below.refl _ _⟩⟩
  case round =>
    obtain ⟨i, rfl, HI, HO, HB⟩ := hrel
    cases gk with
    | zero =>
      have hi : i = l0.length := by have := HI.out; omega
      subst hi
      rw [List.take_length] at HO
      go_wp2_with fail
      have hl2 : (l0.filter (inB a1)).length ≤ 100000000 := Nat.le_trans (List.length_filter_le _ _) (by omega)
      refine (sort_R HO.out hl2).mono ?_
      rintro e w1 ⟨rfl, hs, hg⟩
      have HB1 := Aside0.mk (HB.out.grown hg (HB.out.size) (fun k hk => Kd.R_base HO.out k hk))
      have HO1 := Aside0.mk hs
      clear hs hg HO HB
      go_wp2_with fail
      have hl3 : (isort (l0.filter (inB a1))).length ≤ 100000000 := by rw [isort_length]; exact hl2
      refine (compact_R HO1.out hl3).mono ?_
      rintro e w2 ⟨v', rfl, hs, hg⟩
      have HB2 := Aside0.mk (HB1.out.grown hg (HB1.out.size) (fun k hk => Kd.R_base HO1.out k hk))
      have HO2 := Aside0.mk hs
      clear hs hg HO1 HB1 hl2 hl3
      have HK : Aside0 (Lib.compact (isort (l0.filter (inB a1))) = r) := ⟨by rw [HF.out]; exact kept_of _ _ _ (fun x => by simp [inB])⟩
      go_wp2
      go_ret
      exact ⟨_, rfl, by rw [← HK.out]; exact HO2.out, HB2.out⟩
    | succ k1 =>
      have hi : i < l0.length := by have := HI.out; omega
      obtain ⟨ad, rfl, hc⟩ := Kd.at_int HR0.out (i : Int) (by omega) (by omega)
      replace hc := (HB.out.cell (World.block_lt_of_cell? w _ hc)).trans hc
      simp only [Int.toNat_natCast] at hc
      by_cases h0 : 0 ≤ rd l0 i
      · by_cases h1 : rd l0 i < a1
        · have HE := Aside0.mk (take_filter_yes l0 (inB a1) i hi (by simp [inB, h0, h1]))
          have HLE := Aside0.mk (take_filter_le l0 (inB a1) i)
          go_wp2_with ((with_reducible refine gate_builtin (b := .append) (xs := #[.tmp 21, .tmp 23]) rfl ?_); at_builtin; refine Kd.R_append (Kd.int .i64) (w0 := w) w.heap.size rfl (.tmp 21) (.tmp 23) 23 3 (.int .i64 0) 8 rfl Try.underlying23 info3 rfl (by decide) (by omega) u5 ((l0.take i).filter (inB a1)) (rd l0 i) [.int .i64 (rd l0 i)] (fun _ => True) (fun _ => False) rfl rfl ?aP (fun _ hk => hk.elim) ?aF ?aO ?aB ?aS ?aL ?_; (case aP => exact rfl); (case aB => exact (by repeat (first | exact HB.out | apply below_alloc | apply pw_below_drewN | apply below_drew1))); (case aF => exact (fun _ _ => trivial)); (case aO => exact (by (with_reducible repeat (first | apply Kd.R_alloc | apply Kd.R_drewN | apply Kd.R_drew)); exact HO.out)); (case aS => exact (below_size (by repeat (first | exact HB.out | apply below_alloc | apply pw_below_drewN | apply below_drew1)))); (case aL => have := HLE.out; omega); intro v154 w7 ho hb hg hat; rw [← HE.out] at ho; have HB3 := Aside0.mk hb; have HO3 := Aside0.mk ho; clear HB HO ho hb hg hat)
          go_roundg k1
          case measure => omega
          case rel => exact ⟨i + 1, by go_num, ⟨by have := HI.out; omega⟩, HO3, HB3⟩
        · have HE := Aside0.mk (take_filter_no l0 (inB a1) i hi (by simp [inB, h1]))
          have h2 : decide (rd l0 i < a1) = false := by simpa using h1
          go_wp2
          go_roundg k1
          case measure => omega
          case rel => exact ⟨i + 1, by go_num, ⟨by have := HI.out; omega⟩, ⟨by rw [HE.out]; exact HO.out⟩, HB⟩
      · have HE := Aside0.mk (take_filter_no l0 (inB a1) i hi (by simp [inB, h0]))
        have h2 : decide (0 ≤ rd l0 i) = false := by simpa using h0
        go_wp2
        go_roundg k1
        case measure => omega
        case rel => exact ⟨i + 1, by go_num, ⟨by have := HI.out; omega⟩, ⟨by rw [HE.out]; exact HO.out⟩, HB⟩
end Go.Proofs.Ytnmeomdjhjgnfaa.X
end
section
-- written by a driver of this session (wip/xprint.py) over the kit's print, for this claim; Lean checks it
namespace Go.Proofs.Ytnmeomdjhjgnfaa.X
open Go.RowKit Go.Proofs.YtnmeomdjhjgnfaaW.PrintWords Go.Proofs.YtnmeomdjhjgnfaaW.PrintLast Go.Proofs.YtnmeomdjhjgnfaaW.PrintMore
attribute [local go_sem] max2_int min2_int max_two min_two max_three min_three max_four min_four   -- for this text's walks alone
set_option linter.unusedVariables false
set_option linter.unusedSimpArgs false

/-! ### graph_Of: function 51 -/
def graph_Of.l0 : Nat → List (List Int) → List (S46) → Int → Int → Int → List (S46) → Option ((List (List Int)))
  | 0, _, _, _, _, _, _ => none
  | k + 1, x3, x11, x12, x13, x525000, x525001 => if x13 < x12 then (if 0 ≤ x13 then (if x13 < (x11.length : Int) then ((graph_kept.f ((rd_T46 x11 x13).f2.f2) (x525001.length : Int)).bind fun t530 => (if x13 < (x3.length : Int) then (graph_Of.l0 k (x3.set (x13 : Int).toNat t530) x11 x12 (wrap64 (x13 + 1)) x525000 x525001) else (none))) else (none)) else (none)) else (some x3)
def graph_Of.f (k : Nat) (a0_0 : Int) (l0_1 : List (S46)) : Option ((List (List Int))) := if 0 ≤ (l0_1.length : Int) then (if ((l0_1.length : Int) : Int).toNat ≤ 11728124029610 then (graph_Of.l0 k (List.replicate ((l0_1.length : Int) : Int).toNat []) l0_1 (l0_1.length : Int) 0 a0_0 l0_1) else (none)) else (none)
theorem graph_Of.mono_l : ∀ k, (∀ y0 y1 y2 y3 y4 y5, LeO (graph_Of.l0 k y0 y1 y2 y3 y4 y5) (graph_Of.l0 (k + 1) y0 y1 y2 y3 y4 y5))
  | 0 => fun _ _ _ _ _ _ r h => by simp [graph_Of.l0] at h
  | k + 1 => by
    have ih0 := graph_Of.mono_l k
    · intro y0 y1 y2 y3 y4 y5
      unfold graph_Of.l0
      repeat' first | (with_reducible exact LeO.refl _) | (with_reducible refine LeO.ite ?_ ?_) | (with_reducible refine LeO.bind ?_ (fun _ => ?_)) | exact LeO.none _ | exact ih0 _ _ _ _ _ _ | refine LeO.ite ?_ ?_ | refine LeO.bind ?_ (fun _ => ?_)
theorem graph_Of.mono : ∀ a0 a1 k, LeO (graph_Of.f k a0 a1) (graph_Of.f (k + 1) a0 a1) := by
  intro a0 a1 k
  have ih0 := graph_Of.mono_l k
  unfold graph_Of.f
  repeat' first | (with_reducible exact LeO.refl _) | (with_reducible refine LeO.ite ?_ ?_) | (with_reducible refine LeO.bind ?_ (fun _ => ?_)) | exact LeO.none _ | exact ih0 _ _ _ _ _ _ | refine LeO.ite ?_ ?_ | refine LeO.bind ?_ (fun _ => ?_)
set_option maxHeartbeats 8000000 in
set_option maxRecDepth 100000 in
theorem graph_Of.calls (k : Nat) (a0_0 : Int) (A0_1 : Option Addr) (c0_1 : Nat) (l0_1 : List (S46)) (r : List (List Int)) (w : World) (hr0_1 : Kd.C k46 w A0_1 l0_1.length l0_1) (hc0_1 : l0_1.length ≤ c0_1) (h : graph_Of.f k a0_0 l0_1 = some r) :
    Calls Try.prog 51 #[.agg #[.int .i64 a0_0, .slice A0_1 l0_1.length c0_1]] w fun e w' => ∃ v0_ : Value, e = .returned (v0_) ∧ Kd.S (Kd.slice 3 (Kd.int .i64)) 23 w' w.heap.size (fun _ => True) v0_ r ∧ Below w.heap.size w w' := by
  have hu40 := Try.underlying40
  have hu46 := Try.underlying46
  have HR0_1 := Aside0.mk hr0_1
  have HC0_1 := Aside0.mk hc0_1
  clear hr0_1 hc0_1
  have HB := Aside0.mk (Below.refl w.heap.size w)
  have H : (if 0 ≤ (l0_1.length : Int) then (if ((l0_1.length : Int) : Int).toNat ≤ 11728124029610 then (graph_Of.l0 k (List.replicate ((l0_1.length : Int) : Int).toNat []) l0_1 (l0_1.length : Int) 0 a0_0 l0_1) else (none)) else (none)) = some r := h
  clear h
  by_cases c2 : 0 ≤ (l0_1.length : Int)
  · rw [if_pos c2] at H
    have c2b0 := eq_true c2
    have c2b1 : decide (0 ≤ (l0_1.length : Int)) = true := decide_eq_true c2
    clear c2
    by_cases c3 : ((l0_1.length : Int) : Int).toNat ≤ 11728124029610
    · rw [if_pos c3] at H
      have c3b0 := eq_true c3
      have c3b1 : decide (((l0_1.length : Int) : Int).toNat ≤ 11728124029610) = true := decide_eq_true c3
      clear c3
      obtain ⟨y525, hy525⟩ : ∃ y_ : List (List Int), y_ = (List.replicate ((l0_1.length : Int) : Int).toNat []) := ⟨_, rfl⟩
      replace H : (graph_Of.l0 k y525 l0_1 (l0_1.length : Int) 0 a0_0 l0_1) = some r := by first | (rw [hy525]; with_reducible exact H) | (have H2_ := (Option.bind_some _ _).symm.trans H; rw [hy525]; with_reducible exact H2_) | (have H2_ := (Option.bind_some _ _).symm.trans H; with_reducible exact H2_) | with_reducible exact H | (rw [hy525]; exact H) | exact H
      have Ny525 := Aside0.mk hy525
      clear hy525
      have H' := Aside0.mk H
      clear H
      go_enter Try.func51, Try.ntmps51
      go_wp2_with (first | ((with_reducible refine gate_dst (N := 1) rfl ?_); refine box_event ?hg (N := 1) ?hd (cs := #[.int .i64 a0_0, .slice A0_1 l0_1.length c0_1]) (t := 40) ?hr ?_; (case hd => rfl); (case hg => rfl); (case hr => first | (go_simp; done) | (go_simp; rfl)); intro gb524 hg w4 hbox hb; have n0_ := Aside0.mk (below_step (by repeat (first | exact HB.out | apply below_alloc | apply pw_below_drewN | apply below_drew1)) hb); have n1_ := Aside0.mk (hbox); have n2_ := Aside0.mk ((by rw [hg]; exact (below_size (by repeat (first | exact HB.out | apply below_alloc | apply pw_below_drewN | apply below_drew1))) : w.heap.size ≤ gb524)); have n3_ := Aside0.mk ((by rw [hg]; exact (below_size (by repeat (first | exact HB.out | apply below_alloc | apply pw_below_drewN | apply below_drew1))) : w.heap.size ≤ gb524)); clear HB; have HB := n0_; have BK524 := n1_; have GW524 := n2_; have GE524 := n3_; clear n0_ n1_ n2_ n3_; clear hb hbox hg; have hcz5_0 : w4.cell? ⟨gb524, 0, none⟩ = some (.int .i64 a0_0) := (blk_cell BK524.out 0).trans rfl; have hcz5_1 : w4.cell? ⟨gb524, 1, none⟩ = some (.slice A0_1 l0_1.length c0_1) := (blk_cell BK524.out 1).trans rfl; have hfz5_0 := blk_frozen BK524.out 0; have hfz5_1 := blk_frozen BK524.out 1) | ((with_reducible refine gate_dst (N := 9) rfl ?_); refine Kd.S_make (Kd.slice 3 (Kd.int .i64)) _ 23 rfl (N := 9) rfl 22 _ _ rfl (l0_1.length : Int) rfl rfl Try.underlying22 (.slice none 0 0) 24 info23 rfl (by decide) (by omega) [] (ok := fun _ => True) (okp := fun _ => True) ⟨_, rfl, Kd.R_nil _ _ _ _ _⟩ (fun _ hk => hk) trivial (of_decide_eq_true (by first | (with_reducible assumption) | assumption)) (Nat.le_trans (Nat.mul_le_mul_right _ (of_decide_eq_true (by first | (with_reducible assumption) | assumption) : (l0_1.length : Int).toNat ≤ 11728124029610)) (by omega)) (Below.refl _ _) (Nat.le_refl _) ?_; intro v526 w6 ho7 hb hg_ hnew_; clear hg_ hnew_; (first | rw [← Ny525.out] at ho7 | (simp only [Int.reduceToNat] at ho7; rw [← Ny525.out] at ho7)); have n0_ := Aside0.mk (Kd.S_lower ho7 (below_size (by repeat (first | (with_reducible first | exact HB.out | apply below_alloc | apply pw_below_drewN | apply below_drew1 | refine below_set ?_ GE524.out) | exact HB.out)))); have n1_ := Aside0.mk (blk_below (g := gb524) (o := .cells #[.int .i64 a0_0, .slice A0_1 l0_1.length c0_1] 40 (0, 0)) (by (with_reducible repeat (first | refine blk_drewN ?_ _ | refine blk_drew ?_ | refine blk_alloc ?_ _)); exact BK524.out) hb); have n2_ := Aside0.mk (below_step (by repeat (first | (with_reducible first | exact HB.out | apply below_alloc | apply pw_below_drewN | apply below_drew1 | refine below_set ?_ GE524.out) | exact HB.out)) hb); clear BK524; clear HB; have HO527 := n0_; have BK524 := n1_; have HB := n2_; clear n0_ n1_ n2_; clear hb ho7; have hcz8_0 : w6.cell? ⟨gb524, 0, none⟩ = some (.int .i64 a0_0) := (blk_cell BK524.out 0).trans rfl; have hcz8_1 : w6.cell? ⟨gb524, 1, none⟩ = some (.slice A0_1 l0_1.length c0_1) := (blk_cell BK524.out 1).trans rfl; have hfz8_0 := blk_frozen BK524.out 0; have hfz8_1 := blk_frozen BK524.out 1))
      go_loopg [13] k (fun kq v13 w' => ∃ (x3_1 : List (List Int)) (x13_1 : Int), v13 = .int .i64 x13_1 ∧ Aside0 (graph_Of.l0 kq x3_1 l0_1 (l0_1.length : Int) x13_1 a0_0 l0_1 = some r) ∧ Aside0 (kq ≤ k) ∧ Aside0 (Kd.S (Kd.slice 3 (Kd.int .i64)) 23 w' w.heap.size (fun _ => True) v526 x3_1) ∧ Aside0 (w'.heap[gb524]? = some (.cells #[.int .i64 a0_0, (.slice A0_1 l0_1.length c0_1)] 40 (0, 0))) ∧ Aside0 (Below w.heap.size w w'))
      case atStart => exact ⟨(y525), (0), (by first | rfl | (simp; done) | (simp [*]; done)), H', ⟨Nat.le_refl _⟩, ⟨by (with_reducible repeat (first | apply Kd.S_alloc | apply Kd.S_drewN | apply Kd.S_drew)); exact HO527.out⟩, ⟨by (with_reducible repeat (first | refine blk_drewN ?_ _ | refine blk_drew ?_ | refine blk_alloc ?_ _)); exact BK524.out⟩, ⟨by repeat (first | (with_reducible first | exact HB.out | apply below_alloc | apply pw_below_drewN | apply below_drew1 | refine below_set ?_ GE524.out) | exact HB.out)⟩⟩
      case round =>
        clear H'; (try clear c2); (try clear c2b0); (try clear c2b1); (try clear p2); (try clear c3); (try clear c3b0); (try clear c3b1); (try clear c5); (try clear hcz5_0); (try clear hcz5_1); (try clear hcz8_0); (try clear hcz8_1); (try clear hfz5_0); (try clear hfz5_1); (try clear hfz8_0); (try clear hfz8_1)
        obtain ⟨x3_1, x13_1, rfl, HA, HK1, HO_3, BK524, HB⟩ := hrel
        cases gk with
        | zero => exact absurd HA.out (by simp [graph_Of.l0])
        | succ k1 =>
          have H := HA.out
          clear HA
          simp only [graph_Of.l0] at H
          by_cases c9 : x13_1 < (l0_1.length : Int)
          · rw [if_pos c9] at H
            have c9b0 : decide (x13_1 < (l0_1.length : Int)) = true := decide_eq_true c9
            clear c9
            by_cases c10 : 0 ≤ x13_1
            · rw [if_pos c10] at H
              have c10b0 : decide (0 ≤ x13_1) = true := decide_eq_true c10
              clear c10
              by_cases c11 : x13_1 < (l0_1.length : Int)
              · rw [if_pos c11] at H
                have c11b0 : decide (x13_1 < (l0_1.length : Int)) = true := decide_eq_true c11
                clear c11
                replace H := Option.bind_eq_some_iff.mp H
                obtain ⟨t530, A120, H⟩ := H
                have A12 := Aside0.mk A120
                clear A120
                by_cases c13 : x13_1 < (x3_1.length : Int)
                · rw [if_pos c13] at H
                  have c13b0 : decide (x13_1 < (x3_1.length : Int)) = true := decide_eq_true c13
                  clear c13
                  obtain ⟨y533, hy533⟩ : ∃ y_ : List (List Int), y_ = (x3_1.set (x13_1 : Int).toNat t530) := ⟨_, rfl⟩
                  replace H : (graph_Of.l0 k1 y533 l0_1 (l0_1.length : Int) (wrap64 (x13_1 + 1)) a0_0 l0_1) = some r := by first | (rw [hy533]; with_reducible exact H) | (have H2_ := (Option.bind_some _ _).symm.trans H; rw [hy533]; with_reducible exact H2_) | (have H2_ := (Option.bind_some _ _).symm.trans H; with_reducible exact H2_) | with_reducible exact H | (rw [hy533]; exact H) | exact H
                  have Ny533 := Aside0.mk hy533
                  clear hy533
                  have H' := Aside0.mk H
                  clear H
                  have p528 : 0 ≤ (x13_1 : Int) := of_decide_eq_true (by first | (with_reducible assumption) | assumption)
                  have q528 : x13_1 < (l0_1.length : Int) := of_decide_eq_true (by first | (with_reducible assumption) | assumption)
                  obtain ⟨ad528, A528_0, c528_0, A528_1, c528_1, A528_3, c528_3, A528_4, c528_4, e528, hx528_0, hx528_1, hx528_2, hx528_3, hx528_4, hx528_5, hl528_0, hi528_0, hl528_1, hi528_1, hl528_3, hi528_3, hl528_4, hi528_4⟩ := at_T46 HR0_1.out x13_1 p528 q528
                  cases e528
                  replace hx528_0 := (HB.out.cell (World.block_lt_of_cell? w _ hx528_0)).trans hx528_0
                  replace hx528_1 := (HB.out.cell (World.block_lt_of_cell? w _ hx528_1)).trans hx528_1
                  replace hx528_2 := (HB.out.cell (World.block_lt_of_cell? w _ hx528_2)).trans hx528_2
                  replace hx528_3 := (HB.out.cell (World.block_lt_of_cell? w _ hx528_3)).trans hx528_3
                  replace hx528_4 := (HB.out.cell (World.block_lt_of_cell? w _ hx528_4)).trans hx528_4
                  replace hx528_5 := (HB.out.cell (World.block_lt_of_cell? w _ hx528_5)).trans hx528_5
                  have HR528_0 := Aside0.mk hi528_0
                  have HC528_0 := Aside0.mk hl528_0
                  clear hi528_0 hl528_0
                  have HR528_1 := Aside0.mk hi528_1
                  have HC528_1 := Aside0.mk hl528_1
                  clear hi528_1 hl528_1
                  have HR528_3 := Aside0.mk hi528_3
                  have HC528_3 := Aside0.mk hl528_3
                  clear hi528_3 hl528_3
                  have HR528_4 := Aside0.mk hi528_4
                  have HC528_4 := Aside0.mk hl528_4
                  clear hi528_4 hl528_4
                  replace p528 := eq_true p528
                  replace q528 := eq_true q528
                  go_wp2_with (first | ((with_reducible refine gate_dst (N := 5) rfl ?_); refine box_event ?hg (N := 5) ?hd (cs := #[.slice none 0 0, .slice none 0 0, .int .i64 0, .slice none 0 0, .slice none 0 0, .int .i32 0]) (t := 46) ?hr ?_; (case hd => rfl); (case hg => rfl); (case hr => first | (obtain ⟨A_, c_, e_⟩ := Kd.R_slice HO532.out; subst e_; go_simp; done) | (obtain ⟨A_, c_, e_⟩ := Kd.R_slice HO532.out; subst e_; go_simp; rfl) | (go_simp; done) | (go_simp; rfl)); intro gb529 hg w15 hbox hb; have n0_ := Aside0.mk (Kd.S_below (by (with_reducible repeat (first | apply Kd.S_alloc | apply Kd.S_drewN | apply Kd.S_drew)); exact HO_3.out) hb); have n1_ := Aside0.mk (blk_below (g := gb524) (o := .cells #[.int .i64 a0_0, .slice (some ad528) l0_1.length c0_1] 40 (0, 0)) (by (with_reducible repeat (first | refine blk_drewN ?_ _ | refine blk_drew ?_ | refine blk_alloc ?_ _)); exact BK524.out) hb); have n2_ := Aside0.mk (below_step (by repeat (first | (with_reducible first | exact HB.out | apply below_alloc | apply pw_below_drewN | apply below_drew1 | refine below_set ?_ GE524.out) | exact HB.out)) hb); have n3_ := Aside0.mk (hbox); have n4_ := Aside0.mk ((by rw [hg]; exact (below_size (by repeat (first | (with_reducible first | exact HB.out | apply below_alloc | apply pw_below_drewN | apply below_drew1 | refine below_set ?_ GE524.out) | exact HB.out))) : w.heap.size ≤ gb529)); have n5_ := Aside0.mk ((by rw [hg]; exact (below_size (by repeat (first | (with_reducible first | exact HB.out | apply below_alloc | apply pw_below_drewN | apply below_drew1 | refine below_set ?_ GE524.out) | exact HB.out))) : w.heap.size ≤ gb529)); have n6_ := Aside0.mk ((by rw [hg]; exact Nat.ne_of_lt (blk_lt (g := gb524) (o := .cells #[.int .i64 a0_0, .slice (some ad528) l0_1.length c0_1] 40 (0, 0)) (by (with_reducible repeat (first | refine blk_drewN ?_ _ | refine blk_drew ?_ | refine blk_alloc ?_ _)); exact BK524.out)) : gb524 ≠ gb529)); have n7_ := Aside0.mk ((by rw [hg]; exact Nat.ne_of_gt (blk_lt (g := gb524) (o := .cells #[.int .i64 a0_0, .slice (some ad528) l0_1.length c0_1] 40 (0, 0)) (by (with_reducible repeat (first | refine blk_drewN ?_ _ | refine blk_drew ?_ | refine blk_alloc ?_ _)); exact BK524.out)) : gb529 ≠ gb524)); clear HO_3; clear BK524; clear HB; have HO_3 := n0_; have BK524 := n1_; have HB := n2_; have BK529 := n3_; have GW529 := n4_; have GE529 := n5_; have NB524_529 := n6_; have NB529_524 := n7_; clear n0_ n1_ n2_ n3_ n4_ n5_ n6_ n7_; clear hb hbox hg; have hnb16 := NB529_524.out; have hnc16 := NB524_529.out; have hcz17_0 : w15.cell? ⟨gb529, 0, none⟩ = some (.slice none 0 0) := (blk_cell BK529.out 0).trans rfl; have hcz17_1 : w15.cell? ⟨gb529, 1, none⟩ = some (.slice none 0 0) := (blk_cell BK529.out 1).trans rfl; have hcz17_2 : w15.cell? ⟨gb529, 2, none⟩ = some (.int .i64 0) := (blk_cell BK529.out 2).trans rfl; have hcz17_3 : w15.cell? ⟨gb529, 3, none⟩ = some (.slice none 0 0) := (blk_cell BK529.out 3).trans rfl; have hcz17_4 : w15.cell? ⟨gb529, 4, none⟩ = some (.slice none 0 0) := (blk_cell BK529.out 4).trans rfl; have hcz17_5 : w15.cell? ⟨gb529, 5, none⟩ = some (.int .i32 0) := (blk_cell BK529.out 5).trans rfl; have hfz17_0 := blk_frozen BK529.out 0; have hfz17_1 := blk_frozen BK529.out 1; have hfz17_2 := blk_frozen BK529.out 2; have hfz17_3 := blk_frozen BK529.out 3; have hfz17_4 := blk_frozen BK529.out 4; have hfz17_5 := blk_frozen BK529.out 5; have hcz18_0 : w15.cell? ⟨gb524, 0, none⟩ = some (.int .i64 a0_0) := (blk_cell BK524.out 0).trans rfl; have hcz18_1 : w15.cell? ⟨gb524, 1, none⟩ = some (.slice (some ad528) l0_1.length c0_1) := (blk_cell BK524.out 1).trans rfl; have hfz18_0 := blk_frozen BK524.out 0; have hfz18_1 := blk_frozen BK524.out 1) | ((with_reducible refine gate_callee (f := 92) rfl ?_); refine goesL_ (some 26) rfl rfl Try.func92 (by kernel_rfl) rfl #[.slice A528_4 ((rd_T46 l0_1 x13_1).f2.f2).length c528_4, .int .i64 (l0_1.length : Int)] rfl (by (try simp only [List.map_toArray, List.map_cons, List.map_nil]); first | done | rfl | (simp only [List.length_drop, List.length_take]; rfl)) ?_; (with_reducible refine (graph_kept.calls _ _ ((rd_T46 l0_1 x13_1).f2.f2) (l0_1.length : Int) t530 _ ?side1 ?side2 A12.out).mono ?_); (case side1 => exact Kd.C_below HR528_4.out (by repeat (first | (with_reducible first | exact HB.out | apply below_alloc | apply pw_below_drewN | apply below_drew1 | refine below_set ?_ GE524.out | refine below_set ?_ GE529.out) | exact HB.out))); (case side2 => exact HC528_4.out); rintro e w19 ⟨v531, rfl, ho0, hb⟩; refine ⟨_, rfl, ?_⟩; have n0_ := Aside0.mk (Kd.S_elder' (by (with_reducible repeat (first | apply Kd.S_alloc | apply Kd.S_drewN | apply Kd.S_drew)); exact (Kd.S_mono (Kd.S_far (p := ⟨gb529, 5, none⟩) (Kd.S_far (p := ⟨gb529, 4, none⟩) (Kd.S_far (p := ⟨gb529, 3, none⟩) (Kd.S_far (p := ⟨gb529, 2, none⟩) (Kd.S_far (p := ⟨gb529, 1, none⟩) (Kd.S_far (p := ⟨gb529, 0, none⟩) (Kd.S_types HO_3.out BK529.out (by decide)) (fun _ hk => hk.2) (.slice A528_0 ((rd_T46 l0_1 x13_1).f0).length c528_0)) (fun _ hk => hk.2) (.slice A528_1 ((rd_T46 l0_1 x13_1).f1).length c528_1)) (fun _ hk => hk.2) (.int .i64 ((rd_T46 l0_1 x13_1).f2.f0))) (fun _ hk => hk.2) (.slice A528_3 ((rd_T46 l0_1 x13_1).f2.f1).length c528_3)) (fun _ hk => hk.2) (.slice A528_4 ((rd_T46 l0_1 x13_1).f2.f2).length c528_4)) (fun _ hk => hk.2) (.int .i32 ((rd_T46 l0_1 x13_1).f2.f3))) (fun _ h_ => h_.1))) (Kd.R_base ho0) hb); have n1_ := Aside0.mk (Kd.R_lower ho0 (below_size (by repeat (first | (with_reducible first | exact HB.out | apply below_alloc | apply pw_below_drewN | apply below_drew1 | refine below_set ?_ GE524.out | refine below_set ?_ GE529.out) | exact HB.out)))); have n2_ := Aside0.mk (blk_below (g := gb524) (o := .cells #[.int .i64 a0_0, .slice (some ad528) l0_1.length c0_1] 40 (0, 0)) (by (with_reducible repeat (first | refine blk_drewN ?_ _ | refine blk_drew ?_ | refine blk_alloc ?_ _)); refine blk_far ?_ NB524_529.out _; (with_reducible repeat (first | refine blk_drewN ?_ _ | refine blk_drew ?_ | refine blk_alloc ?_ _)); refine blk_far ?_ NB524_529.out _; (with_reducible repeat (first | refine blk_drewN ?_ _ | refine blk_drew ?_ | refine blk_alloc ?_ _)); refine blk_far ?_ NB524_529.out _; (with_reducible repeat (first | refine blk_drewN ?_ _ | refine blk_drew ?_ | refine blk_alloc ?_ _)); refine blk_far ?_ NB524_529.out _; (with_reducible repeat (first | refine blk_drewN ?_ _ | refine blk_drew ?_ | refine blk_alloc ?_ _)); refine blk_far ?_ NB524_529.out _; (with_reducible repeat (first | refine blk_drewN ?_ _ | refine blk_drew ?_ | refine blk_alloc ?_ _)); refine blk_far ?_ NB524_529.out _; (with_reducible repeat (first | refine blk_drewN ?_ _ | refine blk_drew ?_ | refine blk_alloc ?_ _)); exact BK524.out) hb); have n3_ := Aside0.mk (blk_below (g := gb529) (o := .cells #[.slice A528_0 ((rd_T46 l0_1 x13_1).f0).length c528_0, .slice A528_1 ((rd_T46 l0_1 x13_1).f1).length c528_1, .int .i64 ((rd_T46 l0_1 x13_1).f2.f0), .slice A528_3 ((rd_T46 l0_1 x13_1).f2.f1).length c528_3, .slice A528_4 ((rd_T46 l0_1 x13_1).f2.f2).length c528_4, .int .i32 ((rd_T46 l0_1 x13_1).f2.f3)] 46 (0, 0)) (by (with_reducible repeat (first | refine blk_drewN ?_ _ | refine blk_drew ?_ | refine blk_alloc ?_ _)); refine blk_put (cs := #[.slice A528_0 ((rd_T46 l0_1 x13_1).f0).length c528_0, .slice A528_1 ((rd_T46 l0_1 x13_1).f1).length c528_1, .int .i64 ((rd_T46 l0_1 x13_1).f2.f0), .slice A528_3 ((rd_T46 l0_1 x13_1).f2.f1).length c528_3, .slice A528_4 ((rd_T46 l0_1 x13_1).f2.f2).length c528_4, .int .i32 0]) ?_ 5 _ rfl; (with_reducible repeat (first | refine blk_drewN ?_ _ | refine blk_drew ?_ | refine blk_alloc ?_ _)); refine blk_put (cs := #[.slice A528_0 ((rd_T46 l0_1 x13_1).f0).length c528_0, .slice A528_1 ((rd_T46 l0_1 x13_1).f1).length c528_1, .int .i64 ((rd_T46 l0_1 x13_1).f2.f0), .slice A528_3 ((rd_T46 l0_1 x13_1).f2.f1).length c528_3, .slice none 0 0, .int .i32 0]) ?_ 4 _ rfl; (with_reducible repeat (first | refine blk_drewN ?_ _ | refine blk_drew ?_ | refine blk_alloc ?_ _)); refine blk_put (cs := #[.slice A528_0 ((rd_T46 l0_1 x13_1).f0).length c528_0, .slice A528_1 ((rd_T46 l0_1 x13_1).f1).length c528_1, .int .i64 ((rd_T46 l0_1 x13_1).f2.f0), .slice none 0 0, .slice none 0 0, .int .i32 0]) ?_ 3 _ rfl; (with_reducible repeat (first | refine blk_drewN ?_ _ | refine blk_drew ?_ | refine blk_alloc ?_ _)); refine blk_put (cs := #[.slice A528_0 ((rd_T46 l0_1 x13_1).f0).length c528_0, .slice A528_1 ((rd_T46 l0_1 x13_1).f1).length c528_1, .int .i64 0, .slice none 0 0, .slice none 0 0, .int .i32 0]) ?_ 2 _ rfl; (with_reducible repeat (first | refine blk_drewN ?_ _ | refine blk_drew ?_ | refine blk_alloc ?_ _)); refine blk_put (cs := #[.slice A528_0 ((rd_T46 l0_1 x13_1).f0).length c528_0, .slice none 0 0, .int .i64 0, .slice none 0 0, .slice none 0 0, .int .i32 0]) ?_ 1 _ rfl; (with_reducible repeat (first | refine blk_drewN ?_ _ | refine blk_drew ?_ | refine blk_alloc ?_ _)); refine blk_put (cs := #[.slice none 0 0, .slice none 0 0, .int .i64 0, .slice none 0 0, .slice none 0 0, .int .i32 0]) ?_ 0 _ rfl; (with_reducible repeat (first | refine blk_drewN ?_ _ | refine blk_drew ?_ | refine blk_alloc ?_ _)); exact BK529.out) hb); have n4_ := Aside0.mk (below_step (by repeat (first | (with_reducible first | exact HB.out | apply below_alloc | apply pw_below_drewN | apply below_drew1 | refine below_set ?_ GE524.out | refine below_set ?_ GE529.out) | exact HB.out)) hb); clear HO_3; clear BK524; clear BK529; clear HB; have HO_3 := n0_; have HO532 := n1_; have BK524 := n2_; have BK529 := n3_; have HB := n4_; clear n0_ n1_ n2_ n3_ n4_; (try clear hb); (try clear hb2); (try clear hk); (try clear hi); (try clear ho0); have p14 : 0 ≤ (x13_1 : Int) := of_decide_eq_true (by first | (with_reducible assumption) | assumption); have q14 : (x13_1 : Int) < ((x3_1.length : Int) : Int) := of_decide_eq_true (by first | (with_reducible assumption) | assumption); obtain ⟨go14, co14, eo14, gb14, gl14, cl14, HG14⟩ := Kd.S_form HO_3.out (by omega); (first | cases eo14 | (injection eo14 with ea_ en_ ec_; (first | subst ea_ | (injection ea_ with ea_; subst ea_)); subst ec_; clear en_)); have GB14 := Aside0.mk gb14; have GG14 := Aside0.mk HG14; clear gb14 gl14 HG14; obtain ⟨_, ce14, hcl14, hM14, hcc14, hfr14, _, _⟩ := Kd.S_elem HO_3.out [] (x13_1 : Int) p14 q14; obtain ⟨ve14_0, rfl, ge14_0⟩ := hM14; have hx14_0 := hcc14 0 _ rfl; have hf14_0 := hfr14 0; (try simp only [show ((Kd.slice 3 (Kd.int .i64))).sz = 1 from rfl, Nat.mul_one, Nat.add_zero] at hx14_0); (try simp only [show ((Kd.slice 3 (Kd.int .i64))).sz = 1 from rfl, Nat.mul_one, Nat.add_zero] at hf14_0); (try clear hcl14); (try clear hcc14); (try clear hfr14); (try clear hM14); replace p14 := eq_true p14; replace q14 := eq_true q14; have n_ := Aside0.mk (Kd.S_mono (ok' := (fun k_ => some k_ ≠ (v531 : Value).ownBlock)) HO_3.out (fun k_ hk => hk.2)); clear HO_3; have HO_3 := n_; clear n_; have HX20 := Aside0.mk (show Kd.S (Kd.slice 3 (Kd.int .i64)) 23 w19 w.heap.size (fun k_ => ((fun _ => True)) k_ ∧ ¬ ((fun k_ => some k_ = (v531 : Value).ownBlock)) k_) (.slice (some ⟨go14, 0, none⟩) x3_1.length co14) x3_1 from (by (with_reducible repeat (first | apply Kd.S_alloc | apply Kd.S_drewN | apply Kd.S_drew)); exact Kd.S_mono HO_3.out (fun k_ hk => ⟨trivial, fun e_ => hk e_⟩))); obtain ⟨oki20, ce20, hcl20, hM20, hcc20, hfr20, hoki20, hH20⟩ := Kd.S_elem HX20.out [] (x13_1 : Int) (of_decide_eq_true (by first | (with_reducible assumption) | assumption)) (by have h_ : (x13_1 : Int) < ((x3_1.length : Int) : Int) := of_decide_eq_true (by first | (with_reducible assumption) | assumption); first | exact h_ | (have e_ := (Kd.S_reads' HO_3.out).1; omega) | simpa using h_); obtain ⟨ve20_0, rfl, ge20_0⟩ := hM20; have HP20 := Kd.S_seg hH20 (of_decide_eq_true (by first | (with_reducible assumption) | assumption)) (by have h_ : (x13_1 : Int) < ((x3_1.length : Int) : Int) := of_decide_eq_true (by first | (with_reducible assumption) | assumption); first | exact h_ | (have e_ := (Kd.S_reads' HO_3.out).1; omega) | simpa using h_) (seg := [v531]) (j := 0) (show 1 ≤ 1 from by decide) (x' := t530) (Kd.M_row (Kd.R_mono (Kd.R_tight rfl (Kd.R_mono (ok' := fun k_ => ((fun _ => True)) k_ ∧ k_ ≠ go14) (Kd.R_apart' (HO532.out) (Kd.S_typed HO_3.out) (by decide)) (fun k_ hk => ⟨trivial, fun e_ => (hk.2) (by rw [e_]; rfl)⟩))) (fun _ h_ => Or.inr (h_)))) (fun _ hk => hk) (fun k_ hk_ => ((Kd.R_mono (ok' := fun k_ => ((fun _ => True)) k_ ∧ k_ ≠ go14) (Kd.R_apart' (HO532.out) (Kd.S_typed HO_3.out) (by decide)) (fun k_ hk => ⟨trivial, fun e_ => (hk.2) (by rw [e_]; rfl)⟩))).1 k_ hk_.symm); have hx20_0 := hcc20 0 _ rfl; (try simp only [show ((Kd.slice 3 (Kd.int .i64))).sz = 1 from rfl, Nat.mul_one, Nat.add_zero] at hx20_0); have hf20_0 := hfr20 0; (try simp only [show ((Kd.slice 3 (Kd.int .i64))).sz = 1 from rfl, Nat.mul_one, Nat.add_zero] at hf20_0); (try clear hcl20); (try clear hcc20); (try clear hfr20); (try clear hM20); (try clear hoki20); (try clear hH20); (try simp only [show ((Kd.slice 3 (Kd.int .i64))).sz = 1 from rfl, Nat.mul_one, Nat.add_zero] at HP20)) | ((with_reducible refine gate_store (t := 23) (p := 27) rfl ?_); refine store_event (t := 23) (p := 27) (v := ?vo_w21) (w1 := (w19.setCell ⟨go14, (x13_1 : Int).toNat, none⟩ (v531))) ?hg ?ho ?hn ?hr ?_; (case ho => rfl); (case hg => rfl); (case hn => rfl); (case hr => first | (obtain ⟨A_, c_, e_⟩ := Kd.R_slice HO532.out; subst e_; go_simp; done) | (obtain ⟨A_, c_, e_⟩ := Kd.R_slice HO532.out; subst e_; go_simp; rfl) | (go_simp; done) | (go_simp; rfl)); intro w21 hw; have hg : w19.grownBy w21 (some go14) := (by rw [hw]; exact HP20.2); have hp_ : Kd.S (Kd.slice 3 (Kd.int .i64)) 23 w21 w.heap.size (fun _ => True) (.slice (some ⟨go14, 0, none⟩) x3_1.length co14) y533 := (by rw [hw, Ny533.out]; exact HP20.1); clear HP20; have n0_ := Aside0.mk (hp_); have n1_ := Aside0.mk (blk_grown (g := gb524) (o := .cells #[.int .i64 a0_0, .slice (some ad528) l0_1.length c0_1] 40 (0, 0)) (by (with_reducible repeat (first | refine blk_drewN ?_ _ | refine blk_drew ?_ | refine blk_alloc ?_ _)); exact BK524.out) hg (Kd.S_ne HO_3.out BK524.out (by decide))); have n2_ := Aside0.mk (blk_grown (g := gb529) (o := .cells #[.slice A528_0 ((rd_T46 l0_1 x13_1).f0).length c528_0, .slice A528_1 ((rd_T46 l0_1 x13_1).f1).length c528_1, .int .i64 ((rd_T46 l0_1 x13_1).f2.f0), .slice A528_3 ((rd_T46 l0_1 x13_1).f2.f1).length c528_3, .slice A528_4 ((rd_T46 l0_1 x13_1).f2.f2).length c528_4, .int .i32 ((rd_T46 l0_1 x13_1).f2.f3)] 46 (0, 0)) (by (with_reducible repeat (first | refine blk_drewN ?_ _ | refine blk_drew ?_ | refine blk_alloc ?_ _)); exact BK529.out) hg (Kd.S_ne HO_3.out BK529.out (by decide))); have n3_ := Aside0.mk ((by rw [hw]; exact below_set (HB.out) GB14.out : Below w.heap.size w w21)); clear HO_3; clear BK524; clear BK529; clear HB; clear HO532; have HO_3 := n0_; have BK524 := n1_; have BK529 := n2_; have HB := n3_; clear n0_ n1_ n2_ n3_; clear hg hw hp_))
                  go_roundg k1
                  case measure => have := HK1.out; omega
                  case rel => exact ⟨(y533), (wrap64 (x13_1 + 1)), (by first | rfl | (simp; done) | (simp [*]; done)), H', ⟨by have := HK1.out; omega⟩, ⟨by (with_reducible repeat (first | apply Kd.S_alloc | apply Kd.S_drewN | apply Kd.S_drew)); exact HO_3.out⟩, ⟨by (with_reducible repeat (first | refine blk_drewN ?_ _ | refine blk_drew ?_ | refine blk_alloc ?_ _)); exact BK524.out⟩, ⟨by repeat (first | (with_reducible first | exact HB.out | apply below_alloc | apply pw_below_drewN | apply below_drew1 | refine below_set ?_ GE524.out | refine below_set ?_ GE529.out) | exact HB.out)⟩⟩
                · rw [if_neg c13] at H
                  exact absurd H (by simp)
              · rw [if_neg c11] at H
                exact absurd H (by simp)
            · rw [if_neg c10] at H
              exact absurd H (by simp)
          · rw [if_neg c9] at H
            have c9b0 : decide (x13_1 < (l0_1.length : Int)) = false := decide_eq_false c9
            clear c9
            obtain rfl := Option.some.inj H
            go_wp2
            go_ret
            exact ⟨_, by first | rfl | (simp [errW_none, errW_some] <;> rfl) | (simp [*, errW_none, errW_some] <;> rfl), by (with_reducible repeat (first | apply Kd.S_alloc | apply Kd.S_drewN | apply Kd.S_drew)); exact HO_3.out, by repeat (first | (with_reducible first | exact HB.out | apply below_alloc | apply pw_below_drewN | apply below_drew1 | refine below_set ?_ GE524.out) | exact HB.out)⟩
    · rw [if_neg c3] at H
      exact absurd H (by simp)
  · rw [if_neg c2] at H
    exact absurd H (by simp)

mutual
def jacquardref02_Of.l0 : Nat → List (List Int) → Int → Int → List (S46) → Option ((List (List Int)))
  | 0, _, _, _, _ => none
  | k + 1, x3, x4, x535000, x535001 => if x4 < (x535001.length : Int) then (jacquardref02_Of.l1 k x3 x4 ([] : List Int) 0 x535000 x535001) else (some x3)
def jacquardref02_Of.l1 : Nat → List (List Int) → Int → List Int → Int → Int → List (S46) → Option ((List (List Int)))
  | 0, _, _, _, _, _, _ => none
  | k + 1, x3, x4, x5, x6, x535000, x535001 => if x6 < (x535001.length : Int) then (jacquardref02_Of.l2 k x3 x4 x5 x6 false 0 x535000 x535001) else (if x3.length < 5864062014805 then (jacquardref02_Of.l0 k (x3 ++ [x5]) (wrap64 (x4 + 1)) x535000 x535001) else (none))
def jacquardref02_Of.l2 : Nat → List (List Int) → Int → List Int → Int → Bool → Int → Int → List (S46) → Option ((List (List Int)))
  | 0, _, _, _, _, _, _, _, _ => none
  | k + 1, x3, x4, x5, x6, x7, x8, x535000, x535001 => if 0 ≤ x4 then (if x4 < (x535001.length : Int) then (if x8 < (((rd_T46 x535001 x4).f2.f2).length : Int) then (if x7 = true then (jacquardref02_Of.l2 k x3 x4 x5 x6 true (wrap64 (x8 + 1)) x535000 x535001) else (if 0 ≤ x8 then (jacquardref02_Of.l2 k x3 x4 x5 x6 ((rd ((rd_T46 x535001 x4).f2.f2) x8) == x6) (wrap64 (x8 + 1)) x535000 x535001) else (none))) else (if x7 = true then (if x5.length < 17592186044416 then (jacquardref02_Of.l1 k x3 x4 (x5 ++ [x6]) (wrap64 (x6 + 1)) x535000 x535001) else (none)) else (jacquardref02_Of.l1 k x3 x4 x5 (wrap64 (x6 + 1)) x535000 x535001))) else (none)) else (none)
end
def jacquardref02_Of.f (k : Nat) (a0_0 : Int) (l0_1 : List (S46)) : Option ((List (List Int))) := jacquardref02_Of.l0 k ([] : List (List Int)) 0 a0_0 l0_1
theorem jacquardref02_Of.mono_l : ∀ k, (∀ y0 y1 y2 y3, LeO (jacquardref02_Of.l0 k y0 y1 y2 y3) (jacquardref02_Of.l0 (k + 1) y0 y1 y2 y3)) ∧ (∀ y0 y1 y2 y3 y4 y5, LeO (jacquardref02_Of.l1 k y0 y1 y2 y3 y4 y5) (jacquardref02_Of.l1 (k + 1) y0 y1 y2 y3 y4 y5)) ∧ (∀ y0 y1 y2 y3 y4 y5 y6 y7, LeO (jacquardref02_Of.l2 k y0 y1 y2 y3 y4 y5 y6 y7) (jacquardref02_Of.l2 (k + 1) y0 y1 y2 y3 y4 y5 y6 y7))
  | 0 => ⟨fun _ _ _ _ r h => by simp [jacquardref02_Of.l0] at h, fun _ _ _ _ _ _ r h => by simp [jacquardref02_Of.l1] at h, fun _ _ _ _ _ _ _ _ r h => by simp [jacquardref02_Of.l2] at h⟩
  | k + 1 => by
    obtain ⟨ih0, ih1, ih2⟩ := jacquardref02_Of.mono_l k
    refine ⟨?_, ?_, ?_⟩
    · intro y0 y1 y2 y3
      unfold jacquardref02_Of.l0
      repeat' first | (with_reducible exact LeO.refl _) | (with_reducible refine LeO.ite ?_ ?_) | (with_reducible refine LeO.bind ?_ (fun _ => ?_)) | exact LeO.none _ | exact ih0 _ _ _ _ | exact ih1 _ _ _ _ _ _ | exact ih2 _ _ _ _ _ _ _ _ | refine LeO.ite ?_ ?_ | refine LeO.bind ?_ (fun _ => ?_)
    · intro y0 y1 y2 y3 y4 y5
      unfold jacquardref02_Of.l1
      repeat' first | (with_reducible exact LeO.refl _) | (with_reducible refine LeO.ite ?_ ?_) | (with_reducible refine LeO.bind ?_ (fun _ => ?_)) | exact LeO.none _ | exact ih0 _ _ _ _ | exact ih1 _ _ _ _ _ _ | exact ih2 _ _ _ _ _ _ _ _ | refine LeO.ite ?_ ?_ | refine LeO.bind ?_ (fun _ => ?_)
    · intro y0 y1 y2 y3 y4 y5 y6 y7
      unfold jacquardref02_Of.l2
      repeat' first | (with_reducible exact LeO.refl _) | (with_reducible refine LeO.ite ?_ ?_) | (with_reducible refine LeO.bind ?_ (fun _ => ?_)) | exact LeO.none _ | exact ih0 _ _ _ _ | exact ih1 _ _ _ _ _ _ | exact ih2 _ _ _ _ _ _ _ _ | refine LeO.ite ?_ ?_ | refine LeO.bind ?_ (fun _ => ?_)
theorem jacquardref02_Of.mono : ∀ a0 a1 k, LeO (jacquardref02_Of.f k a0 a1) (jacquardref02_Of.f (k + 1) a0 a1) := by
  intro a0 a1 k
  obtain ⟨ih0, ih1, ih2⟩ := jacquardref02_Of.mono_l k
  unfold jacquardref02_Of.f
  repeat' first | (with_reducible exact LeO.refl _) | (with_reducible refine LeO.ite ?_ ?_) | (with_reducible refine LeO.bind ?_ (fun _ => ?_)) | exact LeO.none _ | exact ih0 _ _ _ _ | exact ih1 _ _ _ _ _ _ | exact ih2 _ _ _ _ _ _ _ _ | refine LeO.ite ?_ ?_ | refine LeO.bind ?_ (fun _ => ?_)
set_option maxHeartbeats 8000000 in
set_option maxRecDepth 100000 in
theorem jacquardref02_Of.calls (k : Nat) (a0_0 : Int) (A0_1 : Option Addr) (c0_1 : Nat) (l0_1 : List (S46)) (r : List (List Int)) (w : World) (hr0_1 : Kd.C k46 w A0_1 l0_1.length l0_1) (hc0_1 : l0_1.length ≤ c0_1) (h : jacquardref02_Of.f k a0_0 l0_1 = some r) :
    Calls Try.prog 52 #[.agg #[.int .i64 a0_0, .slice A0_1 l0_1.length c0_1]] w fun e w' => ∃ v0_ : Value, e = .returned (v0_) ∧ Kd.S (Kd.slice 3 (Kd.int .i64)) 23 w' w.heap.size (fun _ => True) v0_ r ∧ Below w.heap.size w w' := by
  have hu40 := Try.underlying40
  have HR0_1 := Aside0.mk hr0_1
  have HC0_1 := Aside0.mk hc0_1
  clear hr0_1 hc0_1
  have HB := Aside0.mk (Below.refl w.heap.size w)
  have H : (jacquardref02_Of.l0 k ([] : List (List Int)) 0 a0_0 l0_1) = some r := h
  clear h
  have H' := Aside0.mk H
  clear H
  go_enter Try.func52, Try.ntmps52
  go_wp2_with (first | ((with_reducible refine gate_dst (N := 1) rfl ?_); refine box_event ?hg (N := 1) ?hd (cs := #[.int .i64 a0_0, .slice A0_1 l0_1.length c0_1]) (t := 40) ?hr ?_; (case hd => rfl); (case hg => rfl); (case hr => first | (go_simp; done) | (go_simp; rfl)); intro gb534 hg w2 hbox hb; have n0_ := Aside0.mk (below_step (by repeat (first | exact HB.out | apply below_alloc | apply pw_below_drewN | apply below_drew1)) hb); have n1_ := Aside0.mk (hbox); have n2_ := Aside0.mk ((by rw [hg]; exact (below_size (by repeat (first | exact HB.out | apply below_alloc | apply pw_below_drewN | apply below_drew1))) : w.heap.size ≤ gb534)); have n3_ := Aside0.mk ((by rw [hg]; exact (below_size (by repeat (first | exact HB.out | apply below_alloc | apply pw_below_drewN | apply below_drew1))) : w.heap.size ≤ gb534)); clear HB; have HB := n0_; have BK534 := n1_; have GW534 := n2_; have GE534 := n3_; clear n0_ n1_ n2_ n3_; clear hb hbox hg))
  go_loopg [3, 4] k (fun kq v3 v4 w' => ∃ (x3_1 : List (List Int)) (x4_1 : Int), v4 = .int .i64 x4_1 ∧ Aside0 (jacquardref02_Of.l0 kq x3_1 x4_1 a0_0 l0_1 = some r) ∧ Aside0 (kq ≤ k) ∧ Aside0 (Kd.S (Kd.slice 3 (Kd.int .i64)) 23 w' w.heap.size (fun _ => True) v3 x3_1) ∧ Aside0 (w'.heap[gb534]? = some (.cells #[.int .i64 a0_0, (.slice A0_1 l0_1.length c0_1)] 40 (0, 0))) ∧ Aside0 (Below w.heap.size w w'))
  case atStart => exact ⟨(([] : List (List Int))), (0), (by first | rfl | (simp; done) | (simp [*]; done)), H', ⟨Nat.le_refl _⟩, ⟨by first | exact Kd.S_nil _ _ _ _ _ | exact Kd.N_nil _ _ _ _ _ | exact Kd.V_nil _ _ _ _ _ | exact Kd.Q_nil _ _ _ _ _ | exact Kd.R_nil _ _ _ _ _⟩, ⟨by (with_reducible repeat (first | refine blk_drewN ?_ _ | refine blk_drew ?_ | refine blk_alloc ?_ _)); exact BK534.out⟩, ⟨by repeat (first | (with_reducible first | exact HB.out | apply below_alloc | apply pw_below_drewN | apply below_drew1 | refine below_set ?_ GE534.out) | exact HB.out)⟩⟩
  case round =>
    clear H'; (try clear p2)
    obtain ⟨x3_1, x4_1, rfl, HA, HK1, HO_3, BK534, HB⟩ := hrel
    cases gk with
    | zero => exact absurd HA.out (by simp [jacquardref02_Of.l0])
    | succ k1 =>
      have H := HA.out
      clear HA
      simp only [jacquardref02_Of.l0] at H
      by_cases c3 : x4_1 < (l0_1.length : Int)
      · rw [if_pos c3] at H
        have c3b0 : decide (x4_1 < (l0_1.length : Int)) = true := decide_eq_true c3
        clear c3
        have H' := Aside0.mk H
        clear H
        have hcz4_0 : wr.cell? ⟨gb534, 0, none⟩ = some (.int .i64 a0_0) := (blk_cell BK534.out 0).trans rfl
        have hcz4_1 : wr.cell? ⟨gb534, 1, none⟩ = some (.slice A0_1 l0_1.length c0_1) := (blk_cell BK534.out 1).trans rfl
        have hfz4_0 := blk_frozen BK534.out 0
        have hfz4_1 := blk_frozen BK534.out 1
        go_wp2
        go_loopg [5, 6] k1 (fun kq v5 v6 w' => ∃ (x5_2 : List Int) (x6_2 : Int), v6 = .int .i64 x6_2 ∧ Aside0 (jacquardref02_Of.l1 kq x3_1 x4_1 x5_2 x6_2 a0_0 l0_1 = some r) ∧ Aside0 (kq ≤ k1) ∧ Aside0 (Kd.S (Kd.slice 3 (Kd.int .i64)) 23 w' w.heap.size (fun k_ => some k_ ≠ (v5 : Value).ownBlock) u3 x3_1) ∧ Aside0 (Kd.R (Kd.int .i64) 3 w' w.heap.size (fun _ => True) v5 x5_2) ∧ Aside0 (w'.heap[gb534]? = some (.cells #[.int .i64 a0_0, (.slice A0_1 l0_1.length c0_1)] 40 (0, 0))) ∧ Aside0 (Below w.heap.size w w'))
        case atStart => exact ⟨(([] : List Int)), (0), (by first | rfl | (simp; done) | (simp [*]; done)), H', ⟨Nat.le_refl _⟩, ⟨by (with_reducible repeat (first | apply Kd.S_alloc | apply Kd.S_drewN | apply Kd.S_drew)); exact Kd.S_mono HO_3.out (fun _ hk => (by simp [Value.ownBlock]))⟩, ⟨by first | exact Kd.R_nil _ _ _ _ _ | exact Kd.N_nil _ _ _ _ _ | exact Kd.V_nil _ _ _ _ _ | exact Kd.Q_nil _ _ _ _ _ | exact Kd.S_nil _ _ _ _ _⟩, ⟨by (with_reducible repeat (first | refine blk_drewN ?_ _ | refine blk_drew ?_ | refine blk_alloc ?_ _)); exact BK534.out⟩, ⟨by repeat (first | (with_reducible first | exact HB.out | apply below_alloc | apply pw_below_drewN | apply below_drew1 | refine below_set ?_ GE534.out) | exact HB.out)⟩⟩
        case round =>
          clear H'; (try clear p2); (try clear c3); (try clear c3b0); (try clear hcz4_0); (try clear hcz4_1); (try clear hfz4_0); (try clear hfz4_1); (try clear p2)
          obtain ⟨x5_2, x6_2, rfl, HA, HK2, HO_3, HO_5, BK534, HB⟩ := hrel
          cases gk with
          | zero => exact absurd HA.out (by simp [jacquardref02_Of.l1])
          | succ k2 =>
            have H := HA.out
            clear HA
            simp only [jacquardref02_Of.l1] at H
            by_cases c5 : x6_2 < (l0_1.length : Int)
            · rw [if_pos c5] at H
              have c5b0 : decide (x6_2 < (l0_1.length : Int)) = true := decide_eq_true c5
              clear c5
              have H' := Aside0.mk H
              clear H
              have hcz6_0 : wr.cell? ⟨gb534, 0, none⟩ = some (.int .i64 a0_0) := (blk_cell BK534.out 0).trans rfl
              have hcz6_1 : wr.cell? ⟨gb534, 1, none⟩ = some (.slice A0_1 l0_1.length c0_1) := (blk_cell BK534.out 1).trans rfl
              have hfz6_0 := blk_frozen BK534.out 0
              have hfz6_1 := blk_frozen BK534.out 1
              go_wp2
              go_loopg [7, 8] k2 (fun kq v7 v8 w' => ∃ (x7_3 : Bool) (x8_3 : Int), v7 = .bool x7_3 ∧ v8 = .int .i64 x8_3 ∧ Aside0 (jacquardref02_Of.l2 kq x3_1 x4_1 x5_2 x6_2 x7_3 x8_3 a0_0 l0_1 = some r) ∧ Aside0 (kq ≤ k2) ∧ Aside0 (Kd.S (Kd.slice 3 (Kd.int .i64)) 23 w' w.heap.size (fun k_ => some k_ ≠ (u5 : Value).ownBlock) u3 x3_1) ∧ Aside0 (Kd.R (Kd.int .i64) 3 w' w.heap.size (fun _ => True) u5 x5_2) ∧ Aside0 (w'.heap[gb534]? = some (.cells #[.int .i64 a0_0, (.slice A0_1 l0_1.length c0_1)] 40 (0, 0))) ∧ Aside0 (Below w.heap.size w w'))
              case atStart => exact ⟨(false), (0), (by first | rfl | (simp; done) | (simp [*]; done)), (by first | rfl | (simp; done) | (simp [*]; done)), H', ⟨Nat.le_refl _⟩, ⟨by (with_reducible repeat (first | apply Kd.S_alloc | apply Kd.S_drewN | apply Kd.S_drew)); exact HO_3.out⟩, ⟨by (with_reducible repeat (first | apply Kd.R_alloc | apply Kd.R_drewN | apply Kd.R_drew)); exact HO_5.out⟩, ⟨by (with_reducible repeat (first | refine blk_drewN ?_ _ | refine blk_drew ?_ | refine blk_alloc ?_ _)); exact BK534.out⟩, ⟨by repeat (first | (with_reducible first | exact HB.out | apply below_alloc | apply pw_below_drewN | apply below_drew1 | refine below_set ?_ GE534.out) | exact HB.out)⟩⟩
              case round =>
                clear H'; (try clear p2); (try clear c3); (try clear c3b0); (try clear c5); (try clear c5b0); (try clear hcz4_0); (try clear hcz4_1); (try clear hcz6_0); (try clear hcz6_1); (try clear hfz4_0); (try clear hfz4_1); (try clear hfz6_0); (try clear hfz6_1); (try clear p2)
                obtain ⟨x7_3, x8_3, rfl, rfl, HA, HK3, HO_3, HO_5, BK534, HB⟩ := hrel
                cases gk with
                | zero => exact absurd HA.out (by simp [jacquardref02_Of.l2])
                | succ k3 =>
                  have H := HA.out
                  clear HA
                  simp only [jacquardref02_Of.l2] at H
                  by_cases c7 : 0 ≤ x4_1
                  · rw [if_pos c7] at H
                    have c7b0 : decide (0 ≤ x4_1) = true := decide_eq_true c7
                    clear c7
                    by_cases c8 : x4_1 < (l0_1.length : Int)
                    · rw [if_pos c8] at H
                      have c8b0 : decide (x4_1 < (l0_1.length : Int)) = true := decide_eq_true c8
                      clear c8
                      by_cases c9 : x8_3 < (((rd_T46 l0_1 x4_1).f2.f2).length : Int)
                      · rw [if_pos c9] at H
                        have c9b0 : decide (x8_3 < (((rd_T46 l0_1 x4_1).f2.f2).length : Int)) = true := decide_eq_true c9
                        clear c9
                        by_cases c10 : x7_3 = true
                        · subst c10
                          rw [if_pos rfl] at H
                          have H' := Aside0.mk H
                          clear H
                          have hcz11_0 : wr.cell? ⟨gb534, 0, none⟩ = some (.int .i64 a0_0) := (blk_cell BK534.out 0).trans rfl
                          have hcz11_1 : wr.cell? ⟨gb534, 1, none⟩ = some (.slice A0_1 l0_1.length c0_1) := (blk_cell BK534.out 1).trans rfl
                          have hfz11_0 := blk_frozen BK534.out 0
                          have hfz11_1 := blk_frozen BK534.out 1
                          have p538 : 0 ≤ (x4_1 : Int) := of_decide_eq_true (by first | (with_reducible assumption) | assumption)
                          have q538 : x4_1 < (l0_1.length : Int) := of_decide_eq_true (by first | (with_reducible assumption) | assumption)
                          obtain ⟨ad538, A538_0, c538_0, A538_1, c538_1, A538_3, c538_3, A538_4, c538_4, e538, hx538_0, hx538_1, hx538_2, hx538_3, hx538_4, hx538_5, hl538_0, hi538_0, hl538_1, hi538_1, hl538_3, hi538_3, hl538_4, hi538_4⟩ := at_T46 HR0_1.out x4_1 p538 q538
                          cases e538
                          replace hx538_0 := (HB.out.cell (World.block_lt_of_cell? w _ hx538_0)).trans hx538_0
                          replace hx538_1 := (HB.out.cell (World.block_lt_of_cell? w _ hx538_1)).trans hx538_1
                          replace hx538_2 := (HB.out.cell (World.block_lt_of_cell? w _ hx538_2)).trans hx538_2
                          replace hx538_3 := (HB.out.cell (World.block_lt_of_cell? w _ hx538_3)).trans hx538_3
                          replace hx538_4 := (HB.out.cell (World.block_lt_of_cell? w _ hx538_4)).trans hx538_4
                          replace hx538_5 := (HB.out.cell (World.block_lt_of_cell? w _ hx538_5)).trans hx538_5
                          have HR538_0 := Aside0.mk hi538_0
                          have HC538_0 := Aside0.mk hl538_0
                          clear hi538_0 hl538_0
                          have HR538_1 := Aside0.mk hi538_1
                          have HC538_1 := Aside0.mk hl538_1
                          clear hi538_1 hl538_1
                          have HR538_3 := Aside0.mk hi538_3
                          have HC538_3 := Aside0.mk hl538_3
                          clear hi538_3 hl538_3
                          have HR538_4 := Aside0.mk hi538_4
                          have HC538_4 := Aside0.mk hl538_4
                          clear hi538_4 hl538_4
                          replace p538 := eq_true p538
                          replace q538 := eq_true q538
                          go_wp2
                          go_roundg k3
                          case measure => have := HK1.out; have := HK2.out; have := HK3.out; omega
                          case rel => exact ⟨(true), (wrap64 (x8_3 + 1)), (by first | rfl | (simp; done) | (simp [*]; done)), (by first | rfl | (simp; done) | (simp [*]; done)), H', ⟨by have := HK1.out; have := HK2.out; have := HK3.out; omega⟩, ⟨by (with_reducible repeat (first | apply Kd.S_alloc | apply Kd.S_drewN | apply Kd.S_drew)); exact HO_3.out⟩, ⟨by (with_reducible repeat (first | apply Kd.R_alloc | apply Kd.R_drewN | apply Kd.R_drew)); exact HO_5.out⟩, ⟨by (with_reducible repeat (first | refine blk_drewN ?_ _ | refine blk_drew ?_ | refine blk_alloc ?_ _)); exact BK534.out⟩, ⟨by repeat (first | (with_reducible first | exact HB.out | apply below_alloc | apply pw_below_drewN | apply below_drew1 | refine below_set ?_ GE534.out) | exact HB.out)⟩⟩
                        · replace c10 := Bool.eq_false_iff.mpr c10
                          subst c10
                          rw [if_neg (show ¬ (false = true) by decide)] at H
                          by_cases c12 : 0 ≤ x8_3
                          · rw [if_pos c12] at H
                            have c12b0 : decide (0 ≤ x8_3) = true := decide_eq_true c12
                            clear c12
                            have H' := Aside0.mk H
                            clear H
                            have hcz13_0 : wr.cell? ⟨gb534, 0, none⟩ = some (.int .i64 a0_0) := (blk_cell BK534.out 0).trans rfl
                            have hcz13_1 : wr.cell? ⟨gb534, 1, none⟩ = some (.slice A0_1 l0_1.length c0_1) := (blk_cell BK534.out 1).trans rfl
                            have hfz13_0 := blk_frozen BK534.out 0
                            have hfz13_1 := blk_frozen BK534.out 1
                            have p538 : 0 ≤ (x4_1 : Int) := of_decide_eq_true (by first | (with_reducible assumption) | assumption)
                            have q538 : x4_1 < (l0_1.length : Int) := of_decide_eq_true (by first | (with_reducible assumption) | assumption)
                            obtain ⟨ad538, A538_0, c538_0, A538_1, c538_1, A538_3, c538_3, A538_4, c538_4, e538, hx538_0, hx538_1, hx538_2, hx538_3, hx538_4, hx538_5, hl538_0, hi538_0, hl538_1, hi538_1, hl538_3, hi538_3, hl538_4, hi538_4⟩ := at_T46 HR0_1.out x4_1 p538 q538
                            cases e538
                            replace hx538_0 := (HB.out.cell (World.block_lt_of_cell? w _ hx538_0)).trans hx538_0
                            replace hx538_1 := (HB.out.cell (World.block_lt_of_cell? w _ hx538_1)).trans hx538_1
                            replace hx538_2 := (HB.out.cell (World.block_lt_of_cell? w _ hx538_2)).trans hx538_2
                            replace hx538_3 := (HB.out.cell (World.block_lt_of_cell? w _ hx538_3)).trans hx538_3
                            replace hx538_4 := (HB.out.cell (World.block_lt_of_cell? w _ hx538_4)).trans hx538_4
                            replace hx538_5 := (HB.out.cell (World.block_lt_of_cell? w _ hx538_5)).trans hx538_5
                            have HR538_0 := Aside0.mk hi538_0
                            have HC538_0 := Aside0.mk hl538_0
                            clear hi538_0 hl538_0
                            have HR538_1 := Aside0.mk hi538_1
                            have HC538_1 := Aside0.mk hl538_1
                            clear hi538_1 hl538_1
                            have HR538_3 := Aside0.mk hi538_3
                            have HC538_3 := Aside0.mk hl538_3
                            clear hi538_3 hl538_3
                            have HR538_4 := Aside0.mk hi538_4
                            have HC538_4 := Aside0.mk hl538_4
                            clear hi538_4 hl538_4
                            replace p538 := eq_true p538
                            replace q538 := eq_true q538
                            have p539 : 0 ≤ (x4_1 : Int) := of_decide_eq_true (by first | (with_reducible assumption) | assumption)
                            have q539 : x4_1 < (l0_1.length : Int) := of_decide_eq_true (by first | (with_reducible assumption) | assumption)
                            obtain ⟨ad539, A539_0, c539_0, A539_1, c539_1, A539_3, c539_3, A539_4, c539_4, e539, hx539_0, hx539_1, hx539_2, hx539_3, hx539_4, hx539_5, hl539_0, hi539_0, hl539_1, hi539_1, hl539_3, hi539_3, hl539_4, hi539_4⟩ := at_T46 HR0_1.out x4_1 p539 q539
                            obtain rfl : ad538 = ad539 := (by injection e539)
                            replace hx539_0 := (HB.out.cell (World.block_lt_of_cell? w _ hx539_0)).trans hx539_0
                            replace hx539_1 := (HB.out.cell (World.block_lt_of_cell? w _ hx539_1)).trans hx539_1
                            replace hx539_2 := (HB.out.cell (World.block_lt_of_cell? w _ hx539_2)).trans hx539_2
                            replace hx539_3 := (HB.out.cell (World.block_lt_of_cell? w _ hx539_3)).trans hx539_3
                            replace hx539_4 := (HB.out.cell (World.block_lt_of_cell? w _ hx539_4)).trans hx539_4
                            replace hx539_5 := (HB.out.cell (World.block_lt_of_cell? w _ hx539_5)).trans hx539_5
                            have HR539_0 := Aside0.mk hi539_0
                            have HC539_0 := Aside0.mk hl539_0
                            clear hi539_0 hl539_0
                            have HR539_1 := Aside0.mk hi539_1
                            have HC539_1 := Aside0.mk hl539_1
                            clear hi539_1 hl539_1
                            have HR539_3 := Aside0.mk hi539_3
                            have HC539_3 := Aside0.mk hl539_3
                            clear hi539_3 hl539_3
                            have HR539_4 := Aside0.mk hi539_4
                            have HC539_4 := Aside0.mk hl539_4
                            clear hi539_4 hl539_4
                            replace p539 := eq_true p539
                            replace q539 := eq_true q539
                            have ea_ := Option.some.inj (hx538_0.symm.trans hx539_0)
                            injection ea_ with ea_ en_ ec_
                            subst ea_
                            subst ec_
                            clear en_
                            have ea_ := Option.some.inj (hx538_1.symm.trans hx539_1)
                            injection ea_ with ea_ en_ ec_
                            subst ea_
                            subst ec_
                            clear en_
                            have ea_ := Option.some.inj (hx538_3.symm.trans hx539_3)
                            injection ea_ with ea_ en_ ec_
                            subst ea_
                            subst ec_
                            clear en_
                            have ea_ := Option.some.inj (hx538_4.symm.trans hx539_4)
                            injection ea_ with ea_ en_ ec_
                            subst ea_
                            subst ec_
                            clear en_
                            have p540 : 0 ≤ (x8_3 : Int) := of_decide_eq_true (by first | (with_reducible assumption) | assumption)
                            have q540 : x8_3 < (((rd_T46 l0_1 x4_1).f2.f2).length : Int) := of_decide_eq_true (by first | (with_reducible assumption) | assumption)
                            obtain ⟨ad540, e540, hx540_0⟩ := Kd.at_int HR539_4.out x8_3 p540 q540
                            cases e540
                            replace hx540_0 := (HB.out.cell (World.block_lt_of_cell? w _ hx540_0)).trans hx540_0
                            replace p540 := eq_true p540
                            replace q540 := eq_true q540
                            go_wp2
                            go_roundg k3
                            case measure => have := HK1.out; have := HK2.out; have := HK3.out; omega
                            case rel => exact ⟨(((rd ((rd_T46 l0_1 x4_1).f2.f2) x8_3) == x6_2)), (wrap64 (x8_3 + 1)), (by first | rfl | (simp; done) | (simp [*]; done)), (by first | rfl | (simp; done) | (simp [*]; done)), H', ⟨by have := HK1.out; have := HK2.out; have := HK3.out; omega⟩, ⟨by (with_reducible repeat (first | apply Kd.S_alloc | apply Kd.S_drewN | apply Kd.S_drew)); exact HO_3.out⟩, ⟨by (with_reducible repeat (first | apply Kd.R_alloc | apply Kd.R_drewN | apply Kd.R_drew)); exact HO_5.out⟩, ⟨by (with_reducible repeat (first | refine blk_drewN ?_ _ | refine blk_drew ?_ | refine blk_alloc ?_ _)); exact BK534.out⟩, ⟨by repeat (first | (with_reducible first | exact HB.out | apply below_alloc | apply pw_below_drewN | apply below_drew1 | refine below_set ?_ GE534.out) | exact HB.out)⟩⟩
                          · rw [if_neg c12] at H
                            exact absurd H (by simp)
                      · rw [if_neg c9] at H
                        have c9b0 : decide (x8_3 < (((rd_T46 l0_1 x4_1).f2.f2).length : Int)) = false := decide_eq_false c9
                        clear c9
                        by_cases c14 : x7_3 = true
                        · subst c14
                          rw [if_pos rfl] at H
                          by_cases c15 : x5_2.length < 17592186044416
                          · rw [if_pos c15] at H
                            have LMc15 := Aside0.mk c15
                            clear c15
                            obtain ⟨y541, hy541⟩ : ∃ y_ : List Int, y_ = (x5_2 ++ [x6_2]) := ⟨_, rfl⟩
                            replace H : (jacquardref02_Of.l1 k3 x3_1 x4_1 y541 (wrap64 (x6_2 + 1)) a0_0 l0_1) = some r := by first | (rw [hy541]; with_reducible exact H) | (have H2_ := (Option.bind_some _ _).symm.trans H; rw [hy541]; with_reducible exact H2_) | (have H2_ := (Option.bind_some _ _).symm.trans H; with_reducible exact H2_) | with_reducible exact H | (rw [hy541]; exact H) | exact H
                            have Ny541 := Aside0.mk hy541
                            clear hy541
                            have H' := Aside0.mk H
                            clear H
                            have hcz16_0 : wr.cell? ⟨gb534, 0, none⟩ = some (.int .i64 a0_0) := (blk_cell BK534.out 0).trans rfl
                            have hcz16_1 : wr.cell? ⟨gb534, 1, none⟩ = some (.slice A0_1 l0_1.length c0_1) := (blk_cell BK534.out 1).trans rfl
                            have hfz16_0 := blk_frozen BK534.out 0
                            have hfz16_1 := blk_frozen BK534.out 1
                            have p538 : 0 ≤ (x4_1 : Int) := of_decide_eq_true (by first | (with_reducible assumption) | assumption)
                            have q538 : x4_1 < (l0_1.length : Int) := of_decide_eq_true (by first | (with_reducible assumption) | assumption)
                            obtain ⟨ad538, A538_0, c538_0, A538_1, c538_1, A538_3, c538_3, A538_4, c538_4, e538, hx538_0, hx538_1, hx538_2, hx538_3, hx538_4, hx538_5, hl538_0, hi538_0, hl538_1, hi538_1, hl538_3, hi538_3, hl538_4, hi538_4⟩ := at_T46 HR0_1.out x4_1 p538 q538
                            cases e538
                            replace hx538_0 := (HB.out.cell (World.block_lt_of_cell? w _ hx538_0)).trans hx538_0
                            replace hx538_1 := (HB.out.cell (World.block_lt_of_cell? w _ hx538_1)).trans hx538_1
                            replace hx538_2 := (HB.out.cell (World.block_lt_of_cell? w _ hx538_2)).trans hx538_2
                            replace hx538_3 := (HB.out.cell (World.block_lt_of_cell? w _ hx538_3)).trans hx538_3
                            replace hx538_4 := (HB.out.cell (World.block_lt_of_cell? w _ hx538_4)).trans hx538_4
                            replace hx538_5 := (HB.out.cell (World.block_lt_of_cell? w _ hx538_5)).trans hx538_5
                            have HR538_0 := Aside0.mk hi538_0
                            have HC538_0 := Aside0.mk hl538_0
                            clear hi538_0 hl538_0
                            have HR538_1 := Aside0.mk hi538_1
                            have HC538_1 := Aside0.mk hl538_1
                            clear hi538_1 hl538_1
                            have HR538_3 := Aside0.mk hi538_3
                            have HC538_3 := Aside0.mk hl538_3
                            clear hi538_3 hl538_3
                            have HR538_4 := Aside0.mk hi538_4
                            have HC538_4 := Aside0.mk hl538_4
                            clear hi538_4 hl538_4
                            replace p538 := eq_true p538
                            replace q538 := eq_true q538
                            go_wp2_with (first | ((with_reducible refine gate_builtin (b := .append) (xs := #[.tmp 51, .tmp 53]) rfl ?_); at_builtin; refine Kd.R_append (Kd.int .i64) (w0 := w) w.heap.size rfl (.tmp 51) (.tmp 53) 23 3 (.int .i64 0) 8 rfl Try.underlying23 info3 rfl (by decide) (by omega) u5 x5_2 x6_2 [.int .i64 x6_2] (fun _ => True) (fun _ => False) rfl rfl ?aP (fun _ hk => hk.elim) ?aF ?aO ?aB ?aS ?aL ?_; (case aP => exact rfl); (case aB => exact (by repeat (first | (with_reducible first | exact HB.out | apply below_alloc | apply pw_below_drewN | apply below_drew1 | refine below_set ?_ GE534.out) | exact HB.out))); (case aF => exact (fun _ _ => trivial)); (case aO => exact (by (with_reducible repeat (first | apply Kd.R_alloc | apply Kd.R_drewN | apply Kd.R_drew)); exact HO_5.out)); (case aS => exact (below_size (by repeat (first | (with_reducible first | exact HB.out | apply below_alloc | apply pw_below_drewN | apply below_drew1 | refine below_set ?_ GE534.out) | exact HB.out)))); (case aL => have := LMc15.out; omega); intro v542 w17 ho hb hg hat; rw [← Ny541.out] at ho; have n0_ := Aside0.mk (Kd.S_after (ok := (fun _ => True)) (by (with_reducible repeat (first | apply Kd.S_alloc | apply Kd.S_drewN | apply Kd.S_drew)); exact Kd.S_mono HO_3.out (fun _ hk => ⟨trivial, hk⟩)) hg hat); have n1_ := Aside0.mk (blk_grown (g := gb534) (o := .cells #[.int .i64 a0_0, .slice (some ad538) l0_1.length c0_1] 40 (0, 0)) (by (with_reducible repeat (first | refine blk_drewN ?_ _ | refine blk_drew ?_ | refine blk_alloc ?_ _)); exact BK534.out) hg (Kd.R_ne HO_5.out BK534.out (by decide))); have n2_ := Aside0.mk (hb); have n3_ := Aside0.mk (ho); clear HO_3; clear BK534; clear HB; clear HO_5; have HO_3 := n0_; have BK534 := n1_; have HB := n2_; have HO543 := n3_; clear n0_ n1_ n2_ n3_; clear ho hb hg hat))
                            go_roundg k3
                            case measure => have := HK1.out; have := HK2.out; have := HK3.out; omega
                            case rel => exact ⟨(y541), (wrap64 (x6_2 + 1)), (by first | rfl | (simp; done) | (simp [*]; done)), H', ⟨by have := HK1.out; have := HK2.out; have := HK3.out; omega⟩, ⟨by (with_reducible repeat (first | apply Kd.S_alloc | apply Kd.S_drewN | apply Kd.S_drew)); exact Kd.S_mono HO_3.out (fun _ hk => hk.2)⟩, ⟨by (with_reducible repeat (first | apply Kd.R_alloc | apply Kd.R_drewN | apply Kd.R_drew)); exact HO543.out⟩, ⟨by (with_reducible repeat (first | refine blk_drewN ?_ _ | refine blk_drew ?_ | refine blk_alloc ?_ _)); exact BK534.out⟩, ⟨by repeat (first | (with_reducible first | exact HB.out | apply below_alloc | apply pw_below_drewN | apply below_drew1 | refine below_set ?_ GE534.out) | exact HB.out)⟩⟩
                          · rw [if_neg c15] at H
                            exact absurd H (by simp)
                        · replace c14 := Bool.eq_false_iff.mpr c14
                          subst c14
                          rw [if_neg (show ¬ (false = true) by decide)] at H
                          have H' := Aside0.mk H
                          clear H
                          have hcz18_0 : wr.cell? ⟨gb534, 0, none⟩ = some (.int .i64 a0_0) := (blk_cell BK534.out 0).trans rfl
                          have hcz18_1 : wr.cell? ⟨gb534, 1, none⟩ = some (.slice A0_1 l0_1.length c0_1) := (blk_cell BK534.out 1).trans rfl
                          have hfz18_0 := blk_frozen BK534.out 0
                          have hfz18_1 := blk_frozen BK534.out 1
                          have p538 : 0 ≤ (x4_1 : Int) := of_decide_eq_true (by first | (with_reducible assumption) | assumption)
                          have q538 : x4_1 < (l0_1.length : Int) := of_decide_eq_true (by first | (with_reducible assumption) | assumption)
                          obtain ⟨ad538, A538_0, c538_0, A538_1, c538_1, A538_3, c538_3, A538_4, c538_4, e538, hx538_0, hx538_1, hx538_2, hx538_3, hx538_4, hx538_5, hl538_0, hi538_0, hl538_1, hi538_1, hl538_3, hi538_3, hl538_4, hi538_4⟩ := at_T46 HR0_1.out x4_1 p538 q538
                          cases e538
                          replace hx538_0 := (HB.out.cell (World.block_lt_of_cell? w _ hx538_0)).trans hx538_0
                          replace hx538_1 := (HB.out.cell (World.block_lt_of_cell? w _ hx538_1)).trans hx538_1
                          replace hx538_2 := (HB.out.cell (World.block_lt_of_cell? w _ hx538_2)).trans hx538_2
                          replace hx538_3 := (HB.out.cell (World.block_lt_of_cell? w _ hx538_3)).trans hx538_3
                          replace hx538_4 := (HB.out.cell (World.block_lt_of_cell? w _ hx538_4)).trans hx538_4
                          replace hx538_5 := (HB.out.cell (World.block_lt_of_cell? w _ hx538_5)).trans hx538_5
                          have HR538_0 := Aside0.mk hi538_0
                          have HC538_0 := Aside0.mk hl538_0
                          clear hi538_0 hl538_0
                          have HR538_1 := Aside0.mk hi538_1
                          have HC538_1 := Aside0.mk hl538_1
                          clear hi538_1 hl538_1
                          have HR538_3 := Aside0.mk hi538_3
                          have HC538_3 := Aside0.mk hl538_3
                          clear hi538_3 hl538_3
                          have HR538_4 := Aside0.mk hi538_4
                          have HC538_4 := Aside0.mk hl538_4
                          clear hi538_4 hl538_4
                          replace p538 := eq_true p538
                          replace q538 := eq_true q538
                          go_wp2
                          go_roundg k3
                          case measure => have := HK1.out; have := HK2.out; have := HK3.out; omega
                          case rel => exact ⟨(x5_2), (wrap64 (x6_2 + 1)), (by first | rfl | (simp; done) | (simp [*]; done)), H', ⟨by have := HK1.out; have := HK2.out; have := HK3.out; omega⟩, ⟨by (with_reducible repeat (first | apply Kd.S_alloc | apply Kd.S_drewN | apply Kd.S_drew)); exact HO_3.out⟩, ⟨by (with_reducible repeat (first | apply Kd.R_alloc | apply Kd.R_drewN | apply Kd.R_drew)); exact HO_5.out⟩, ⟨by (with_reducible repeat (first | refine blk_drewN ?_ _ | refine blk_drew ?_ | refine blk_alloc ?_ _)); exact BK534.out⟩, ⟨by repeat (first | (with_reducible first | exact HB.out | apply below_alloc | apply pw_below_drewN | apply below_drew1 | refine below_set ?_ GE534.out) | exact HB.out)⟩⟩
                    · rw [if_neg c8] at H
                      exact absurd H (by simp)
                  · rw [if_neg c7] at H
                    exact absurd H (by simp)
            · rw [if_neg c5] at H
              have c5b0 : decide (x6_2 < (l0_1.length : Int)) = false := decide_eq_false c5
              clear c5
              by_cases c19 : x3_1.length < 5864062014805
              · rw [if_pos c19] at H
                have LMc19 := Aside0.mk c19
                clear c19
                obtain ⟨y535, hy535⟩ : ∃ y_ : List (List Int), y_ = (x3_1 ++ [x5_2]) := ⟨_, rfl⟩
                replace H : (jacquardref02_Of.l0 k2 y535 (wrap64 (x4_1 + 1)) a0_0 l0_1) = some r := by first | (rw [hy535]; with_reducible exact H) | (have H2_ := (Option.bind_some _ _).symm.trans H; rw [hy535]; with_reducible exact H2_) | (have H2_ := (Option.bind_some _ _).symm.trans H; with_reducible exact H2_) | with_reducible exact H | (rw [hy535]; exact H) | exact H
                have Ny535 := Aside0.mk hy535
                clear hy535
                have H' := Aside0.mk H
                clear H
                have hcz20_0 : wr.cell? ⟨gb534, 0, none⟩ = some (.int .i64 a0_0) := (blk_cell BK534.out 0).trans rfl
                have hcz20_1 : wr.cell? ⟨gb534, 1, none⟩ = some (.slice A0_1 l0_1.length c0_1) := (blk_cell BK534.out 1).trans rfl
                have hfz20_0 := blk_frozen BK534.out 0
                have hfz20_1 := blk_frozen BK534.out 1
                obtain ⟨Ao22, co22, eo22⟩ := Kd.R_slice HO_5.out
                subst eo22
                go_wp2_with (first | ((with_reducible refine gate_builtin (b := .append) (xs := #[.tmp 55, .tmp 57]) rfl ?_); at_builtin; refine Kd.S_append (Kd.slice 3 (Kd.int .i64)) (w0 := w) w.heap.size rfl (.tmp 55) (.tmp 57) 22 23 (.slice none 0 0) 24 rfl Try.underlying22 info23 rfl (by decide) (by omega) u3 x3_1 x5_2 [.slice Ao22 x5_2.length co22] (fun _ => True) (fun k_ => some k_ = (.slice Ao22 x5_2.length co22 : Value).ownBlock) rfl rfl ?aP (fun k_ hk_ => ((Kd.R_mono (ok' := fun k_ => ((fun _ => True)) k_ ∧ some k_ ≠ (u3 : Value).ownBlock) (Kd.R_apart' (HO_5.out) (Kd.S_typed HO_3.out) (by decide)) (fun k_ hk => ⟨trivial, hk.2⟩))).1 k_ hk_.symm) ?aF ?aO ?aB ?aS ?aL ?_; (case aP => exact Kd.M_row (Kd.R_mono (Kd.R_tight rfl (Kd.R_mono (ok' := fun k_ => ((fun _ => True)) k_ ∧ some k_ ≠ (u3 : Value).ownBlock) (Kd.R_apart' (HO_5.out) (Kd.S_typed HO_3.out) (by decide)) (fun k_ hk => ⟨trivial, hk.2⟩))) (fun _ h_ => h_))); (case aB => exact (by repeat (first | (with_reducible first | exact HB.out | apply below_alloc | apply pw_below_drewN | apply below_drew1 | refine below_set ?_ GE534.out) | exact HB.out))); (case aF => exact (fun _ _ => trivial)); (case aO => exact (by (with_reducible repeat (first | apply Kd.S_alloc | apply Kd.S_drewN | apply Kd.S_drew)); exact Kd.S_mono HO_3.out (fun k_ hk => ⟨trivial, fun e_ => hk e_⟩))); (case aS => exact (below_size (by repeat (first | (with_reducible first | exact HB.out | apply below_alloc | apply pw_below_drewN | apply below_drew1 | refine below_set ?_ GE534.out) | exact HB.out)))); (case aL => have := LMc19.out; omega); intro v536 w21 ho hb hg hat; rw [← Ny535.out] at ho; have n0_ := Aside0.mk (blk_grown (g := gb534) (o := .cells #[.int .i64 a0_0, .slice A0_1 l0_1.length c0_1] 40 (0, 0)) (by (with_reducible repeat (first | refine blk_drewN ?_ _ | refine blk_drew ?_ | refine blk_alloc ?_ _)); exact BK534.out) hg (Kd.S_ne HO_3.out BK534.out (by decide))); have n1_ := Aside0.mk (hb); have n2_ := Aside0.mk (ho); clear BK534; clear HB; clear HO_3; clear HO_5; have BK534 := n0_; have HB := n1_; have HO537 := n2_; clear n0_ n1_ n2_; clear ho hb hg hat))
                go_roundg k2
                case measure => have := HK1.out; have := HK2.out; omega
                case rel => exact ⟨(y535), (wrap64 (x4_1 + 1)), (by first | rfl | (simp; done) | (simp [*]; done)), H', ⟨by have := HK1.out; have := HK2.out; omega⟩, ⟨by (with_reducible repeat (first | apply Kd.S_alloc | apply Kd.S_drewN | apply Kd.S_drew)); exact HO537.out⟩, ⟨by (with_reducible repeat (first | refine blk_drewN ?_ _ | refine blk_drew ?_ | refine blk_alloc ?_ _)); exact BK534.out⟩, ⟨by repeat (first | (with_reducible first | exact HB.out | apply below_alloc | apply pw_below_drewN | apply below_drew1 | refine below_set ?_ GE534.out) | exact HB.out)⟩⟩
              · rw [if_neg c19] at H
                exact absurd H (by simp)
      · rw [if_neg c3] at H
        have c3b0 : decide (x4_1 < (l0_1.length : Int)) = false := decide_eq_false c3
        clear c3
        obtain rfl := Option.some.inj H
        have hcz23_0 : wr.cell? ⟨gb534, 0, none⟩ = some (.int .i64 a0_0) := (blk_cell BK534.out 0).trans rfl
        have hcz23_1 : wr.cell? ⟨gb534, 1, none⟩ = some (.slice A0_1 l0_1.length c0_1) := (blk_cell BK534.out 1).trans rfl
        have hfz23_0 := blk_frozen BK534.out 0
        have hfz23_1 := blk_frozen BK534.out 1
        go_wp2
        go_ret
        exact ⟨_, by first | rfl | (simp [errW_none, errW_some] <;> rfl) | (simp [*, errW_none, errW_some] <;> rfl), by (with_reducible repeat (first | apply Kd.S_alloc | apply Kd.S_drewN | apply Kd.S_drew)); exact HO_3.out, by repeat (first | (with_reducible first | exact HB.out | apply below_alloc | apply pw_below_drewN | apply below_drew1 | refine below_set ?_ GE534.out) | exact HB.out)⟩

end Go.Proofs.Ytnmeomdjhjgnfaa.X
end
section
set_option linter.unusedSimpArgs false
set_option linter.unusedVariables false
namespace Go.Proofs.Ytnmeomdjhjgnfaa.X
open Go.RowKit Go.Proofs.YtnmeomdjhjgnfaaW.PrintWords Go.Proofs.YtnmeomdjhjgnfaaW.PrintLast Go.Proofs.YtnmeomdjhjgnfaaW.PrintMore
attribute [local go_sem] min2_int min_two

def fewL (l : List (List Int)) : List (List Int) := (l.take 12).map (fun r => r.take 5)
/-- Each slice reads as its row. -/
def Fits (w : World) (vs : List (Option Addr × Nat × Nat)) (rows : List (List Int)) : Prop :=
  vs.length = rows.length ∧ ∀ (i : Nat) x row, vs[i]? = some x → rows[i]? = some row → x.2.1 = row.length ∧ row.length ≤ x.2.2 ∧ Kd.C (Kd.int .i64) w x.1 row.length row
theorem Fits.snoc {w : World} {vs : List (Option Addr × Nat × Nat)} {rows : List (List Int)} (h : Fits w vs rows) {A : Option Addr} {c : Nat} {row : List Int} (hl : row.length ≤ c) (hC : Kd.C (Kd.int .i64) w A row.length row) : Fits w (vs ++ [(A, row.length, c)]) (rows ++ [row]) := by
  refine ⟨by simp [h.1], fun i x r hx hr => ?_⟩
  by_cases hi : i < vs.length
  · rw [List.getElem?_append_left hi] at hx
    rw [List.getElem?_append_left (by rw [← h.1]; exact hi)] at hr
    exact h.2 i x r hx hr
  · rw [List.getElem?_append_right (by omega)] at hx
    rw [List.getElem?_append_right (by rw [← h.1]; omega), ← h.1] at hr
    cases he : i - vs.length with
    | zero =>
      rw [he] at hx hr
      simp at hx hr
      subst hx; subst hr
      exact ⟨rfl, hl, hC⟩
    | succ j => rw [he] at hx; simp at hx
theorem few_take (l0 : List (List Int)) (x4 : Int) (h0 : 0 ≤ x4) (h1 : x4 < l0.length) : ((l0.take x4.toNat).map fun r => r.take 5) ++ [(rd_L1 l0 x4).take 5] = (l0.take (x4 + 1).toNat).map fun r => r.take 5 := by
  have e : (x4 + 1).toNat = x4.toNat + 1 := by omega
  have hlt : x4.toNat < l0.length := by omega
  have e2 : rd_L1 l0 x4 = l0[x4.toNat] := by
    unfold rd_L1
    rw [List.getD_eq_getElem?_getD, List.getElem?_eq_getElem hlt]; rfl
  rw [e, List.take_succ_eq_append_getElem hlt, List.map_append, e2]
  rfl
end Go.Proofs.Ytnmeomdjhjgnfaa.X
end
section
-- written by a driver of this session (wip/xprint.py) over the kit's print, for this claim; Lean checks it
namespace Go.Proofs.Ytnmeomdjhjgnfaa.X
open Go.RowKit Go.Proofs.YtnmeomdjhjgnfaaW.PrintWords Go.Proofs.YtnmeomdjhjgnfaaW.PrintLast Go.Proofs.YtnmeomdjhjgnfaaW.PrintMore
attribute [local go_sem] max2_int min2_int max_two min_two max_three min_three max_four min_four   -- for this text's walks alone
set_option linter.unusedVariables false
set_option linter.unusedSimpArgs false

/-! ### graph_clean: function 69 -/
def graph_clean.l0 : Nat → List (List Int) → List (List Int) → List (List Int) → Int → Int → Option ((List (List Int)))
  | 0, _, _, _, _, _ => none
  | k + 1, x0, x3, x9, x10, x11 => if x11 < x10 then (if 0 ≤ x11 then (if x11 < (x9.length : Int) then ((graph_kept.f (rd_L1 x9 x11) (x0.length : Int)).bind fun t105 => (if x11 < (x3.length : Int) then (graph_clean.l0 k x0 (x3.set (x11 : Int).toNat t105) x9 x10 (wrap64 (x11 + 1))) else (none))) else (none)) else (none)) else (some x3)
def graph_clean.f (k : Nat) (l0 : List (List Int)) : Option ((List (List Int))) := if 0 ≤ (l0.length : Int) then (if ((l0.length : Int) : Int).toNat ≤ 11728124029610 then (graph_clean.l0 k l0 (List.replicate ((l0.length : Int) : Int).toNat []) l0 (l0.length : Int) 0) else (none)) else (none)
theorem graph_clean.mono_l : ∀ k, (∀ y0 y1 y2 y3 y4, LeO (graph_clean.l0 k y0 y1 y2 y3 y4) (graph_clean.l0 (k + 1) y0 y1 y2 y3 y4))
  | 0 => fun _ _ _ _ _ r h => by simp [graph_clean.l0] at h
  | k + 1 => by
    have ih0 := graph_clean.mono_l k
    · intro y0 y1 y2 y3 y4
      unfold graph_clean.l0
      repeat' first | (with_reducible exact LeO.refl _) | (with_reducible refine LeO.ite ?_ ?_) | (with_reducible refine LeO.bind ?_ (fun _ => ?_)) | exact LeO.none _ | exact ih0 _ _ _ _ _ | refine LeO.ite ?_ ?_ | refine LeO.bind ?_ (fun _ => ?_)
theorem graph_clean.mono : ∀ a0 k, LeO (graph_clean.f k a0) (graph_clean.f (k + 1) a0) := by
  intro a0 k
  have ih0 := graph_clean.mono_l k
  unfold graph_clean.f
  repeat' first | (with_reducible exact LeO.refl _) | (with_reducible refine LeO.ite ?_ ?_) | (with_reducible refine LeO.bind ?_ (fun _ => ?_)) | exact LeO.none _ | exact ih0 _ _ _ _ _ | refine LeO.ite ?_ ?_ | refine LeO.bind ?_ (fun _ => ?_)
set_option maxHeartbeats 8000000 in
set_option maxRecDepth 100000 in
theorem graph_clean.calls (k : Nat) (A0 : Option Addr) (c0 : Nat) (l0 : List (List Int)) (r : List (List Int)) (w : World) (hr0 : Kd.C (Kd.slice 3 (Kd.int .i64)) w A0 l0.length l0) (hc0 : l0.length ≤ c0) (h : graph_clean.f k l0 = some r) :
    Calls Try.prog 69 #[.slice A0 l0.length c0] w fun e w' => ∃ v0_ : Value, e = .returned (v0_) ∧ Kd.S (Kd.slice 3 (Kd.int .i64)) 23 w' w.heap.size (fun _ => True) v0_ r ∧ Below w.heap.size w w' := by
  have HR0 := Aside0.mk hr0
  have HC0 := Aside0.mk hc0
  clear hr0 hc0
  have HB := Aside0.mk (Below.refl w.heap.size w)
  have H : (if 0 ≤ (l0.length : Int) then (if ((l0.length : Int) : Int).toNat ≤ 11728124029610 then (graph_clean.l0 k l0 (List.replicate ((l0.length : Int) : Int).toNat []) l0 (l0.length : Int) 0) else (none)) else (none)) = some r := h
  clear h
  by_cases c2 : 0 ≤ (l0.length : Int)
  · rw [if_pos c2] at H
    have c2b0 := eq_true c2
    have c2b1 : decide (0 ≤ (l0.length : Int)) = true := decide_eq_true c2
    clear c2
    by_cases c3 : ((l0.length : Int) : Int).toNat ≤ 11728124029610
    · rw [if_pos c3] at H
      have c3b0 := eq_true c3
      have c3b1 : decide (((l0.length : Int) : Int).toNat ≤ 11728124029610) = true := decide_eq_true c3
      clear c3
      obtain ⟨y101, hy101⟩ : ∃ y_ : List (List Int), y_ = (List.replicate ((l0.length : Int) : Int).toNat []) := ⟨_, rfl⟩
      replace H : (graph_clean.l0 k l0 y101 l0 (l0.length : Int) 0) = some r := by first | (rw [hy101]; with_reducible exact H) | (have H2_ := (Option.bind_some _ _).symm.trans H; rw [hy101]; with_reducible exact H2_) | (have H2_ := (Option.bind_some _ _).symm.trans H; with_reducible exact H2_) | with_reducible exact H | (rw [hy101]; exact H) | exact H
      have Ny101 := Aside0.mk hy101
      clear hy101
      have H' := Aside0.mk H
      clear H
      go_enter Try.func69, Try.ntmps69
      go_wp2_with (first | ((with_reducible refine gate_dst (N := 8) rfl ?_); refine Kd.S_make (Kd.slice 3 (Kd.int .i64)) _ 23 rfl (N := 8) rfl 22 _ _ rfl (l0.length : Int) rfl rfl Try.underlying22 (.slice none 0 0) 24 info23 rfl (by decide) (by omega) [] (ok := fun _ => True) (okp := fun _ => True) ⟨_, rfl, Kd.R_nil _ _ _ _ _⟩ (fun _ hk => hk) trivial (of_decide_eq_true (by first | (with_reducible assumption) | assumption)) (Nat.le_trans (Nat.mul_le_mul_right _ (of_decide_eq_true (by first | (with_reducible assumption) | assumption) : (l0.length : Int).toNat ≤ 11728124029610)) (by omega)) (Below.refl _ _) (Nat.le_refl _) ?_; intro v102 w4 ho5 hb hg_ hnew_; clear hg_ hnew_; (first | rw [← Ny101.out] at ho5 | (simp only [Int.reduceToNat] at ho5; rw [← Ny101.out] at ho5)); have n0_ := Aside0.mk (Kd.S_lower ho5 (below_size (by repeat (first | exact HB.out | apply below_alloc | apply pw_below_drewN | apply below_drew1)))); have n1_ := Aside0.mk (below_step (by repeat (first | exact HB.out | apply below_alloc | apply pw_below_drewN | apply below_drew1)) hb); clear HB; have HO103 := n0_; have HB := n1_; clear n0_ n1_; clear hb ho5))
      go_loopg [11] k (fun kq v11 w' => ∃ (x3_1 : List (List Int)) (x11_1 : Int), v11 = .int .i64 x11_1 ∧ Aside0 (graph_clean.l0 kq l0 x3_1 l0 (l0.length : Int) x11_1 = some r) ∧ Aside0 (kq ≤ k) ∧ Aside0 (Kd.S (Kd.slice 3 (Kd.int .i64)) 23 w' w.heap.size (fun _ => True) v102 x3_1) ∧ Aside0 (Below w.heap.size w w'))
      case atStart => exact ⟨(y101), (0), (by first | rfl | (simp; done) | (simp [*]; done)), H', ⟨Nat.le_refl _⟩, ⟨by (with_reducible repeat (first | apply Kd.S_alloc | apply Kd.S_drewN | apply Kd.S_drew)); exact HO103.out⟩, ⟨by repeat (first | exact HB.out | apply below_alloc | apply pw_below_drewN | apply below_drew1)⟩⟩
      case round =>
        clear H'; (try clear c2); (try clear c2b0); (try clear c2b1); (try clear p2); (try clear c3); (try clear c3b0); (try clear c3b1)
        obtain ⟨x3_1, x11_1, rfl, HA, HK1, HO_3, HB⟩ := hrel
        cases gk with
        | zero => exact absurd HA.out (by simp [graph_clean.l0])
        | succ k1 =>
          have H := HA.out
          clear HA
          simp only [graph_clean.l0] at H
          by_cases c6 : x11_1 < (l0.length : Int)
          · rw [if_pos c6] at H
            have c6b0 : decide (x11_1 < (l0.length : Int)) = true := decide_eq_true c6
            clear c6
            by_cases c7 : 0 ≤ x11_1
            · rw [if_pos c7] at H
              have c7b0 : decide (0 ≤ x11_1) = true := decide_eq_true c7
              clear c7
              by_cases c8 : x11_1 < (l0.length : Int)
              · rw [if_pos c8] at H
                have c8b0 : decide (x11_1 < (l0.length : Int)) = true := decide_eq_true c8
                clear c8
                replace H := Option.bind_eq_some_iff.mp H
                obtain ⟨t105, A90, H⟩ := H
                have A9 := Aside0.mk A90
                clear A90
                by_cases c10 : x11_1 < (x3_1.length : Int)
                · rw [if_pos c10] at H
                  have c10b0 : decide (x11_1 < (x3_1.length : Int)) = true := decide_eq_true c10
                  clear c10
                  obtain ⟨y108, hy108⟩ : ∃ y_ : List (List Int), y_ = (x3_1.set (x11_1 : Int).toNat t105) := ⟨_, rfl⟩
                  replace H : (graph_clean.l0 k1 l0 y108 l0 (l0.length : Int) (wrap64 (x11_1 + 1))) = some r := by first | (rw [hy108]; with_reducible exact H) | (have H2_ := (Option.bind_some _ _).symm.trans H; rw [hy108]; with_reducible exact H2_) | (have H2_ := (Option.bind_some _ _).symm.trans H; with_reducible exact H2_) | with_reducible exact H | (rw [hy108]; exact H) | exact H
                  have Ny108 := Aside0.mk hy108
                  clear hy108
                  have H' := Aside0.mk H
                  clear H
                  have p104 : 0 ≤ (x11_1 : Int) := of_decide_eq_true (by first | (with_reducible assumption) | assumption)
                  have q104 : x11_1 < (l0.length : Int) := of_decide_eq_true (by first | (with_reducible assumption) | assumption)
                  obtain ⟨ad104, A104_0, c104_0, e104, hx104_0, hl104_0, hi104_0⟩ := at_L1 HR0.out x11_1 p104 q104
                  cases e104
                  replace hx104_0 := (HB.out.cell (World.block_lt_of_cell? w _ hx104_0)).trans hx104_0
                  have HR104_0 := Aside0.mk hi104_0
                  have HC104_0 := Aside0.mk hl104_0
                  clear hi104_0 hl104_0
                  replace p104 := eq_true p104
                  replace q104 := eq_true q104
                  go_wp2_with (first | ((with_reducible refine gate_callee (f := 92) rfl ?_); refine goesL_ (some 21) rfl rfl Try.func92 (by kernel_rfl) rfl #[.slice A104_0 (rd_L1 l0 x11_1).length c104_0, .int .i64 (l0.length : Int)] rfl (by (try simp only [List.map_toArray, List.map_cons, List.map_nil]); first | done | rfl | (simp only [List.length_drop, List.length_take]; rfl)) ?_; (with_reducible refine (graph_kept.calls _ _ (rd_L1 l0 x11_1) (l0.length : Int) t105 _ ?side1 ?side2 A9.out).mono ?_); (case side1 => repeat (first | exact (Kd.C_below HR104_0.out HB.out) | (with_reducible refine Kd.C_alloc ?_ _) | (with_reducible refine Kd.C_drewN ?_ _) | (with_reducible refine Kd.C_drew ?_))); (case side2 => exact HC104_0.out); rintro e w12 ⟨v106, rfl, ho0, hb⟩; refine ⟨_, rfl, ?_⟩; have n0_ := Aside0.mk (Kd.S_elder' (by (with_reducible repeat (first | apply Kd.S_alloc | apply Kd.S_drewN | apply Kd.S_drew)); exact HO_3.out) (Kd.R_base ho0) hb); have n1_ := Aside0.mk (Kd.R_lower ho0 (below_size (by repeat (first | exact HB.out | apply below_alloc | apply pw_below_drewN | apply below_drew1)))); have n2_ := Aside0.mk (below_step (by repeat (first | exact HB.out | apply below_alloc | apply pw_below_drewN | apply below_drew1)) hb); clear HO_3; clear HB; have HO_3 := n0_; have HO107 := n1_; have HB := n2_; clear n0_ n1_ n2_; (try clear hb); (try clear hb2); (try clear hk); (try clear hi); (try clear ho0); have p11 : 0 ≤ (x11_1 : Int) := of_decide_eq_true (by first | (with_reducible assumption) | assumption); have q11 : (x11_1 : Int) < ((x3_1.length : Int) : Int) := of_decide_eq_true (by first | (with_reducible assumption) | assumption); obtain ⟨go11, co11, eo11, gb11, gl11, cl11, HG11⟩ := Kd.S_form HO_3.out (by omega); (first | cases eo11 | (injection eo11 with ea_ en_ ec_; (first | subst ea_ | (injection ea_ with ea_; subst ea_)); subst ec_; clear en_)); have GB11 := Aside0.mk gb11; have GG11 := Aside0.mk HG11; clear gb11 gl11 HG11; obtain ⟨_, ce11, hcl11, hM11, hcc11, hfr11, _, _⟩ := Kd.S_elem HO_3.out [] (x11_1 : Int) p11 q11; obtain ⟨ve11_0, rfl, ge11_0⟩ := hM11; have hx11_0 := hcc11 0 _ rfl; have hf11_0 := hfr11 0; (try simp only [show ((Kd.slice 3 (Kd.int .i64))).sz = 1 from rfl, Nat.mul_one, Nat.add_zero] at hx11_0); (try simp only [show ((Kd.slice 3 (Kd.int .i64))).sz = 1 from rfl, Nat.mul_one, Nat.add_zero] at hf11_0); (try clear hcl11); (try clear hcc11); (try clear hfr11); (try clear hM11); replace p11 := eq_true p11; replace q11 := eq_true q11; have n_ := Aside0.mk (Kd.S_mono (ok' := (fun k_ => some k_ ≠ (v106 : Value).ownBlock)) HO_3.out (fun k_ hk => hk.2)); clear HO_3; have HO_3 := n_; clear n_; have HX13 := Aside0.mk (show Kd.S (Kd.slice 3 (Kd.int .i64)) 23 w12 w.heap.size (fun k_ => ((fun _ => True)) k_ ∧ ¬ ((fun k_ => some k_ = (v106 : Value).ownBlock)) k_) (.slice (some ⟨go11, 0, none⟩) x3_1.length co11) x3_1 from (by (with_reducible repeat (first | apply Kd.S_alloc | apply Kd.S_drewN | apply Kd.S_drew)); exact Kd.S_mono HO_3.out (fun k_ hk => ⟨trivial, fun e_ => hk e_⟩))); obtain ⟨oki13, ce13, hcl13, hM13, hcc13, hfr13, hoki13, hH13⟩ := Kd.S_elem HX13.out [] (x11_1 : Int) (of_decide_eq_true (by first | (with_reducible assumption) | assumption)) (by have h_ : (x11_1 : Int) < ((x3_1.length : Int) : Int) := of_decide_eq_true (by first | (with_reducible assumption) | assumption); first | exact h_ | (have e_ := (Kd.S_reads' HO_3.out).1; omega) | simpa using h_); obtain ⟨ve13_0, rfl, ge13_0⟩ := hM13; have HP13 := Kd.S_seg hH13 (of_decide_eq_true (by first | (with_reducible assumption) | assumption)) (by have h_ : (x11_1 : Int) < ((x3_1.length : Int) : Int) := of_decide_eq_true (by first | (with_reducible assumption) | assumption); first | exact h_ | (have e_ := (Kd.S_reads' HO_3.out).1; omega) | simpa using h_) (seg := [v106]) (j := 0) (show 1 ≤ 1 from by decide) (x' := t105) (Kd.M_row (Kd.R_mono (Kd.R_tight rfl (Kd.R_mono (ok' := fun k_ => ((fun _ => True)) k_ ∧ k_ ≠ go11) (Kd.R_apart' (HO107.out) (Kd.S_typed HO_3.out) (by decide)) (fun k_ hk => ⟨trivial, fun e_ => (hk.2) (by rw [e_]; rfl)⟩))) (fun _ h_ => Or.inr (h_)))) (fun _ hk => hk) (fun k_ hk_ => ((Kd.R_mono (ok' := fun k_ => ((fun _ => True)) k_ ∧ k_ ≠ go11) (Kd.R_apart' (HO107.out) (Kd.S_typed HO_3.out) (by decide)) (fun k_ hk => ⟨trivial, fun e_ => (hk.2) (by rw [e_]; rfl)⟩))).1 k_ hk_.symm); have hx13_0 := hcc13 0 _ rfl; (try simp only [show ((Kd.slice 3 (Kd.int .i64))).sz = 1 from rfl, Nat.mul_one, Nat.add_zero] at hx13_0); have hf13_0 := hfr13 0; (try simp only [show ((Kd.slice 3 (Kd.int .i64))).sz = 1 from rfl, Nat.mul_one, Nat.add_zero] at hf13_0); (try clear hcl13); (try clear hcc13); (try clear hfr13); (try clear hM13); (try clear hoki13); (try clear hH13); (try simp only [show ((Kd.slice 3 (Kd.int .i64))).sz = 1 from rfl, Nat.mul_one, Nat.add_zero] at HP13)) | ((with_reducible refine gate_store (t := 23) (p := 22) rfl ?_); refine store_event (t := 23) (p := 22) (v := ?vo_w14) (w1 := (w12.setCell ⟨go11, (x11_1 : Int).toNat, none⟩ (v106))) ?hg ?ho ?hn ?hr ?_; (case ho => rfl); (case hg => rfl); (case hn => rfl); (case hr => first | (obtain ⟨A_, c_, e_⟩ := Kd.R_slice HO107.out; subst e_; go_simp; done) | (obtain ⟨A_, c_, e_⟩ := Kd.R_slice HO107.out; subst e_; go_simp; rfl) | (go_simp; done) | (go_simp; rfl)); intro w14 hw; have hg : w12.grownBy w14 (some go11) := (by rw [hw]; exact HP13.2); have hp_ : Kd.S (Kd.slice 3 (Kd.int .i64)) 23 w14 w.heap.size (fun _ => True) (.slice (some ⟨go11, 0, none⟩) x3_1.length co11) y108 := (by rw [hw, Ny108.out]; exact HP13.1); clear HP13; have n0_ := Aside0.mk (hp_); have n1_ := Aside0.mk ((by rw [hw]; exact below_set (HB.out) GB11.out : Below w.heap.size w w14)); clear HO_3; clear HB; clear HO107; have HO_3 := n0_; have HB := n1_; clear n0_ n1_; clear hg hw hp_))
                  go_roundg k1
                  case measure => have := HK1.out; omega
                  case rel => exact ⟨(y108), (wrap64 (x11_1 + 1)), (by first | rfl | (simp; done) | (simp [*]; done)), H', ⟨by have := HK1.out; omega⟩, ⟨by (with_reducible repeat (first | apply Kd.S_alloc | apply Kd.S_drewN | apply Kd.S_drew)); exact HO_3.out⟩, ⟨by repeat (first | exact HB.out | apply below_alloc | apply pw_below_drewN | apply below_drew1)⟩⟩
                · rw [if_neg c10] at H
                  exact absurd H (by simp)
              · rw [if_neg c8] at H
                exact absurd H (by simp)
            · rw [if_neg c7] at H
              exact absurd H (by simp)
          · rw [if_neg c6] at H
            have c6b0 : decide (x11_1 < (l0.length : Int)) = false := decide_eq_false c6
            clear c6
            obtain rfl := Option.some.inj H
            go_wp2
            go_ret
            exact ⟨_, by first | rfl | (simp [errW_none, errW_some] <;> rfl) | (simp [*, errW_none, errW_some] <;> rfl), by (with_reducible repeat (first | apply Kd.S_alloc | apply Kd.S_drewN | apply Kd.S_drew)); exact HO_3.out, by repeat (first | exact HB.out | apply below_alloc | apply pw_below_drewN | apply below_drew1)⟩
    · rw [if_neg c3] at H
      exact absurd H (by simp)
  · rw [if_neg c2] at H
    exact absurd H (by simp)

end Go.Proofs.Ytnmeomdjhjgnfaa.X
end
section
set_option linter.unusedSimpArgs false
namespace Go.Proofs.Ytnmeomdjhjgnfaa.X
open Go.RowKit Go.Proofs.YtnmeomdjhjgnfaaW.PrintWords Go.Proofs.YtnmeomdjhjgnfaaW.PrintLast Go.Proofs.YtnmeomdjhjgnfaaW.PrintMore
set_option linter.unusedVariables false

/-! ### what is plain -/
def overStep (rows : List (List Int)) (k : Nat) (s : List Bool × List Int) (b : Int) : Option (List Bool × List Int) :=
  if s.1.getD b.toNat false = true then some s else overL rows k b s
theorem overL_eq (rows : List (List Int)) (k : Nat) (a : Int) (s : List Bool × List Int) :
    overL rows (k + 1) a s = ((rows.getD a.toNat []).foldlM (overStep rows k) (s.1.set a.toNat true, s.2)).map fun s => (s.1, s.2 ++ [a]) := rfl
theorem count_set (t : List Bool) : ∀ (i : Nat), i < t.length → t.getD i false = false → (t.set i true).count true = t.count true + 1 := by
  induction t with
  | nil => intro i h; simp at h
  | cons x t ih =>
    intro i h hf
    cases i with
    | zero =>
      simp at hf
      subst hf
      simp
    | succ i =>
      have := ih i (by simpa using h) (by simpa using hf)
      simp only [List.set_cons_succ, List.count_cons, this]
      omega
/-- How long what is left may be: never more than what has been come to. -/
theorem over_good (rows : List (List Int)) (n : Nat) (hrows : ∀ row ∈ rows, ∀ b ∈ row, 0 ≤ b ∧ b < n) : ∀ (k : Nat) (a : Int) (s s' : List Bool × List Int) (c : Nat),
    overL rows k a s = some s' → s.1.length = n → 0 ≤ a → a < n → s.1.getD a.toNat false = false → s.2.length + c ≤ s.1.count true →
    s'.1.length = n ∧ s'.2.length + c ≤ s'.1.count true := by
  intro k
  induction k with
  | zero => intro a s s' c h; simp [overL] at h
  | succ k ih =>
    have key : ∀ (l : List Int) (s s' : List Bool × List Int) (c : Nat), (∀ b ∈ l, 0 ≤ b ∧ b < n) → l.foldlM (overStep rows k) s = some s' → s.1.length = n → s.2.length + c ≤ s.1.count true →
        s'.1.length = n ∧ s'.2.length + c ≤ s'.1.count true := by
      intro l
      induction l with
      | nil => intro s s' c _ h h1 h2; simp only [List.foldlM_nil] at h; cases h; exact ⟨h1, h2⟩
      | cons b l ihl =>
        intro s s' c hl h h1 h2
        rw [List.foldlM_cons] at h
        obtain ⟨s1, hs1, h⟩ := Option.bind_eq_some_iff.1 h
        have hb := hl b (by simp)
        unfold overStep at hs1
        by_cases ht : s.1.getD b.toNat false = true
        · rw [if_pos ht] at hs1
          cases hs1
          exact ihl s s' c (fun x hx => hl x (by simp [hx])) h h1 h2
        · rw [if_neg ht] at hs1
          obtain ⟨g1, g2⟩ := ih b s s1 c hs1 h1 hb.1 hb.2 (by simpa using ht) h2
          exact ihl s1 s' c (fun x hx => hl x (by simp [hx])) h g1 g2
    intro a s s' c h h1 ha0 ha1 ht h2
    rw [overL_eq] at h
    obtain ⟨s1, hs1, rfl⟩ := Option.map_eq_some_iff.1 h
    have hcs := count_set s.1 a.toNat (by omega) ht
    have := key _ _ _ (c + 1) (by
      intro b hb
      by_cases hlt : a.toNat < rows.length
      · refine hrows (rows.getD a.toNat []) ?_ b hb
        rw [List.getD_eq_getElem?_getD, List.getElem?_eq_getElem hlt]
        exact List.getElem_mem hlt
      · rw [List.getD_eq_getElem?_getD, List.getElem?_eq_none (by omega)] at hb
        simp at hb) hs1 (by simpa using h1) (by simp only [hcs]; omega)
    exact ⟨this.1, by simp; omega⟩

/-! ### the closure -/
/-- What lies in memory while blocks are gone over: W1: the world when the rows had been made. -/
structure OverInv (W1 : World) (AR : Option Addr) (cR : Nat) (rows : List (List Int)) (br gt bt bu bo cT : Nat) (W : World) (there : List Bool) (out : List Int) (vout : Value) : Prop where
  bel : Below W1.heap.size W1 W
  ge : W1.heap.size ≤ br ∧ W1.heap.size ≤ gt ∧ W1.heap.size ≤ bt ∧ W1.heap.size ≤ bu ∧ W1.heap.size ≤ bo
  hrows : W.heap[br]? = some (.cells #[.slice AR rows.length cR] 22 (0, 0))
  hthere : W.heap[bt]? = some (.cells #[.slice (some ⟨gt, 0, none⟩) there.length cT] 32 (0, 0))
  hover : W.heap[bo]? = some (.cells #[.func (.func 70) #[] #[.pointer (some ⟨bt, 0, none⟩), .pointer (some ⟨br, 0, none⟩), .pointer (some ⟨bo, 0, none⟩), .pointer (some ⟨bu, 0, none⟩)]] 90 (0, 0))
  hout : W.heap[bu]? = some (.cells #[vout] 23 (0, 0))
  T : Kd.R Kd.bool 4 W W1.heap.size (fun _ => True) (.slice (some ⟨gt, 0, none⟩) there.length cT) there
  O : Kd.R (Kd.int .i64) 3 W W1.heap.size (fun _ => True) vout out

theorem OverInv.seen {W1 W : World} {AR : Option Addr} {cR : Nat} {rows : List (List Int)} {br gt bt bu bo cT : Nat} {there : List Bool} {out : List Int} {vout : Value} (h : OverInv W1 AR cR rows br gt bt bu bo cT W there out vout) (i : Nat) (hi : i < there.length) :
    OverInv W1 AR cR rows br gt bt bu bo cT (W.setCell ⟨gt, i, none⟩ (.bool true)) (there.set i true) out vout := by
  obtain ⟨cg, hcg⟩ := Kd.R_typed h.T gt rfl
  refine ⟨h.bel.setCell (p := ⟨gt, i, none⟩) h.ge.2.1 _, h.ge, blk_far h.hrows (blk_ne h.hrows hcg (by decide)) _, ?_, blk_far h.hover (blk_ne h.hover hcg (by decide)) _, blk_far h.hout (blk_ne h.hout hcg (by decide)) _, ?_, ?_⟩
  · rw [List.length_set]; exact blk_far h.hthere (blk_ne h.hthere hcg (by decide)) _
  · have := Kd.R_put h.T (i : Int) true
    rw [List.length_set]
    exact this.1
  · exact Kd.R_set h.O hcg (by decide) i _

theorem OverInv.left {W1 W W2 : World} {AR : Option Addr} {cR : Nat} {rows : List (List Int)} {br gt bt bu bo cT : Nat} {there : List Bool} {out out2 : List Int} {vout v2 : Value} (h : OverInv W1 AR cR rows br gt bt bu bo cT W there out vout)
    (hg : W.grownBy W2 vout.ownBlock) (hO : Kd.R (Kd.int .i64) 3 W2 W1.heap.size (fun _ => True) v2 out2) :
    OverInv W1 AR cR rows br gt bt bu bo cT (W2.setCell ⟨bu, 0, none⟩ v2) there out2 v2 := by
  have e1 := blk_grown h.hrows hg (Kd.R_ne h.O h.hrows (by decide))
  have e2 := blk_grown h.hthere hg (Kd.R_ne h.O h.hthere (by decide))
  have e3 := blk_grown h.hover hg (Kd.R_ne h.O h.hover (by decide))
  have e4 := blk_grown h.hout hg (Kd.R_ne h.O h.hout (by decide))
  have T2 := Kd.R_over' h.T (Kd.R_typed h.O) (by decide) hg
  refine ⟨(h.bel.grown hg h.bel.size (fun k hk => Kd.R_base h.O k hk)).setCell (p := ⟨bu, 0, none⟩) h.ge.2.2.2.1 _, h.ge, blk_far e1 (blk_ne e1 e4 (by decide)) _, blk_far e2 (blk_ne e2 e4 (by decide)) _, blk_far e3 (blk_ne e3 e4 (by decide)) _, ?_, ?_, ?_⟩
  · simpa using blk_set e4 0 v2
  · exact Kd.R_set T2 e4 (by decide) 0 _
  · exact Kd.R_set hO e4 (by decide) 0 _

theorem OverInv.alloc {W1 W : World} {AR : Option Addr} {cR : Nat} {rows : List (List Int)} {br gt bt bu bo cT : Nat} {there : List Bool} {out : List Int} {vout : Value} (h : OverInv W1 AR cR rows br gt bt bu bo cT W there out vout) (o : Obj) :
    OverInv W1 AR cR rows br gt bt bu bo cT (W.alloc o) there out vout :=
  ⟨below_alloc h.bel o, h.ge, blk_alloc h.hrows o, blk_alloc h.hthere o, blk_alloc h.hover o, blk_alloc h.hout o, Kd.R_alloc h.T o, Kd.R_alloc h.O o⟩

theorem OverInv.cells {W1 W : World} {AR : Option Addr} {cR : Nat} {rows : List (List Int)} {br gt bt bu bo cT : Nat} {there : List Bool} {out : List Int} {vout : Value} (h : OverInv W1 AR cR rows br gt bt bu bo cT W there out vout) :
    W.cell? ⟨br, 0, none⟩ = some (.slice AR rows.length cR) ∧ W.cell? ⟨bt, 0, none⟩ = some (.slice (some ⟨gt, 0, none⟩) there.length cT) ∧
    W.cell? ⟨bo, 0, none⟩ = some (.func (.func 70) #[] #[.pointer (some ⟨bt, 0, none⟩), .pointer (some ⟨br, 0, none⟩), .pointer (some ⟨bo, 0, none⟩), .pointer (some ⟨bu, 0, none⟩)]) ∧
    W.cell? ⟨bu, 0, none⟩ = some vout ∧ W.frozen? ⟨bu, 0, none⟩ = false :=
  ⟨by simpa using blk_cell h.hrows 0, by simpa using blk_cell h.hthere 0, by simpa using blk_cell h.hover 0, by simpa using blk_cell h.hout 0, blk_frozen h.hout 0⟩

set_option maxHeartbeats 4000000 in
set_option maxRecDepth 100000 in
theorem order1_calls (W1 : World) (AR : Option Addr) (cR : Nat) (rows : List (List Int)) (n br gt bt bu bo cT : Nat) (hC : Kd.C (Kd.slice 3 (Kd.int .i64)) W1 AR rows.length rows)
    (hrows : ∀ row ∈ rows, ∀ b ∈ row, 0 ≤ b ∧ b < n) (hn : rows.length = n) (hn2 : n ≤ 1000000) : ∀ (k : Nat) (a : Int) (there : List Bool) (out : List Int) (s' : List Bool × List Int) (c : Nat) (W : World) (vout : Value),
    OverInv W1 AR cR rows br gt bt bu bo cT W there out vout → there.length = n → out.length + c ≤ there.count true → 0 ≤ a → a < n → there.getD a.toNat false = false → overL rows k a (there, out) = some s' →
    Calls Try.prog 70 #[.int .i64 a, .pointer (some ⟨bt, 0, none⟩), .pointer (some ⟨br, 0, none⟩), .pointer (some ⟨bo, 0, none⟩), .pointer (some ⟨bu, 0, none⟩)] W fun e W' =>
      e = .returned (.tuple #[]) ∧ ∃ vout', OverInv W1 AR cR rows br gt bt bu bo cT W' s'.1 s'.2 vout' := by
  intro k
  induction k with
  | zero => intro a there out s' c W vout _ _ _ _ _ _ h; simp [overL] at h
  | succ k ih =>
    intro a there out s' c W vout hI hl hcn ha0 ha1 hta h
    have IH := Aside0.mk ih
    clear ih
    rw [overL_eq] at h
    obtain ⟨s1, hs1, rfl⟩ := Option.map_eq_some_iff.1 h
    have HS := Aside0.mk hs1
    have HN := Aside0.mk hn
    have HC := Aside0.mk hC
    have HRW := Aside0.mk hrows
    have HL := Aside0.mk hl
    have hcs := Aside0.mk (count_set there a.toNat (by omega) hta)
    have HCN := Aside0.mk hcn
    have HI := Aside0.mk hI
    clear h hs1 hcn hn hl hI hta hC hrows
    obtain ⟨_, ct, _, _, _⟩ := HI.out.cells
    obtain ⟨cg, fg⟩ := Kd.R_cell false HI.out.T a ha0 (by have := HL.out; omega)
    have hat : a < there.length := by have := HL.out; omega
    have hat2 : a < rows.length := by have := HN.out; omega
    obtain ⟨ad, Ar, cr, ear, hxr, hcr, hCr⟩ := at_L1 HC.out a ha0 hat2
    subst ear
    have HXR := Aside0.mk hxr
    have HCR := Aside0.mk hCr
    have HRow : Aside0 (rd_L1 rows a = rows.getD a.toNat []) := ⟨rfl⟩
    have HIn : Aside0 (∀ b ∈ rd_L1 rows a, 0 ≤ b ∧ b < n) := ⟨by
      intro b hb
      refine HRW.out (rd_L1 rows a) ?_ b hb
      unfold rd_L1
      rw [List.getD_eq_getElem?_getD, List.getElem?_eq_getElem (by omega)]
      exact List.getElem_mem _⟩
    have HLen : Aside0 ((rd_L1 rows a).length ≤ 9223372036854775807) := ⟨Kd.C_max hCr⟩
    clear hxr hCr
    go_enter Try.func70, Try.ntmps70
    go_wp2_with ((with_reducible refine gate_store (t := 4) (p := 10) rfl ?_); refine store_event (t := 4) (p := 10) (v := ?vo) (w1 := W.setCell ⟨gt, a.toNat, none⟩ (.bool true)) ?hg ?ho ?hn ?hr ?_; (case ho => rfl); (case hg => rfl); (case hn => rfl); (case hr => first | (go_simp; done) | (go_simp; rfl)); intro w2 hw; have I2 := Aside0.mk (show OverInv W1 (some ad) cR rows br gt bt bu bo cT w2 (there.set a.toNat true) out vout from by rw [hw]; exact HI.out.seen a.toNat (by omega)); clear hw ct cg fg HI; obtain ⟨cr0, ct, _, _, _⟩ := I2.out.cells; have hxr := (I2.out.bel.cell (World.block_lt_of_cell? W1 _ HXR.out)).trans HXR.out)
    rw [← HRow.out] at HS
    go_loopg [16] (rd_L1 rows a).length (fun kq v16 w' => ∃ (i : Nat) (t : List Bool) (o : List Int) (vo : Value), v16 = .int .i64 i ∧ Aside0 (kq + i = (rd_L1 rows a).length) ∧ Aside0 (List.foldlM (overStep rows k) (t, o) ((rd_L1 rows a).drop i) = some s1) ∧ Aside0 (t.length = n ∧ o.length + (c + 1) ≤ t.count true) ∧ Aside0 (OverInv W1 (some ad) cR rows br gt bt bu bo cT w' t o vo))
    case atStart => exact ⟨0, _, _, _, rfl, ⟨rfl⟩, ⟨by simpa using HS.out⟩, ⟨by simpa using HL.out, by have := hcs.out; have := HCN.out; omega⟩, I2⟩
    case round =>
      obtain ⟨i, t, o, vo, rfl, HK, HF, HG, HI⟩ := hrel
      clear cr0 ct hxr I2 HXR hcs HCN hat hat2 HS
      cases gk with
      | zero =>
        have hi : i = (rd_L1 rows a).length := by have := HK.out; omega
        subst hi
        have he : (t, o) = s1 := by have := HF.out; rw [List.drop_length] at this; simpa using this
        subst he
        have HOL : Aside0 (o.length < 1000001) := ⟨by have h1 := HG.out; have h2 := List.count_le_length (a := true) (l := t); omega⟩
        obtain ⟨_, _, _, cu, fu⟩ := HI.out.cells
        have hlen0 := HLen.out
        go_wp2_with (first | ((with_reducible refine gate_builtin (b := .append) (xs := #[.tmp 29, .tmp 31]) rfl ?_); at_builtin; refine Kd.R_append (Kd.int .i64) (w0 := W1) W1.heap.size rfl (.tmp 29) (.tmp 31) 23 3 (.int .i64 0) 8 rfl Try.underlying23 info3 rfl (by decide) (by omega) vo o a [.int .i64 a] (fun _ => True) (fun _ => False) rfl rfl ?aP (fun _ hk => hk.elim) ?aF ?aO ?aB ?aS ?aL ?_; (case aP => exact rfl); (case aB => exact HI.out.bel); (case aF => exact (fun _ _ => trivial)); (case aO => exact HI.out.O); (case aS => exact HI.out.bel.size); (case aL => have := HOL.out; omega); intro v154 w7 ho hb hg hat; have HI2 := HI.out; have hu7 := blk_grown HI2.hout hg (Kd.R_ne HI2.O HI2.hout (by decide)); have cu7 : w7.cell? ⟨bu, 0, none⟩ = some vo := (by simpa using blk_cell hu7 0); have fu7 : w7.frozen? ⟨bu, 0, none⟩ = false := blk_frozen hu7 0; have HI3 := Aside0.mk (HI2.left hg ho); obtain ⟨A7, c7, e7⟩ := Kd.R_slice ho; clear HI2 hu7 ho hb hg hat cu fu; subst e7) | ((with_reducible refine gate_store (t := 23) (p := 4) rfl ?_); refine store_event (t := 23) (p := 4) (v := ?vo) (w1 := ?w1) ?hg ?ho ?hn ?hr ?_; (case ho => rfl); (case hg => rfl); (case hn => rfl); (case hr => first | (go_simp; done) | (go_simp; rfl)); intro w8 hw; subst hw))
        go_end0
        refine ⟨rfl, .slice A7 (o ++ [a]).length c7, ?_⟩
        rw [show o.length + 1 = (o ++ [a]).length from by simp]
        exact HI3.out
      | succ k1 =>
        have hi : i < (rd_L1 rows a).length := by have := HK.out; omega
        have hlen0 := HLen.out
        obtain ⟨ae, rfl, hb0⟩ := Kd.at_int HCR.out (i : Int) (by omega) (by omega)
        replace hb0 := (HI.out.bel.cell (World.block_lt_of_cell? W1 _ hb0)).trans hb0
        simp only [Int.toNat_natCast] at hb0
        obtain ⟨hbn, hbm⟩ := HIn.out (rd (rd_L1 rows a) i) (by
          have e : rd (rd_L1 rows a) i = (rd_L1 rows a)[i] := by simp [rd, hi]
          rw [e]; exact List.getElem_mem _)
        have hbt : rd (rd_L1 rows a) i < t.length := by have := HG.out.1; omega
        obtain ⟨ct, _⟩ := Kd.R_cell false HI.out.T (rd (rd_L1 rows a) i) hbn hbt
        obtain ⟨_, cth, cov, _, _⟩ := HI.out.cells
        have HF2 := HF.out
        have ed : (rd_L1 rows a).drop i = rd (rd_L1 rows a) i :: (rd_L1 rows a).drop (i + 1) := by
          rw [List.drop_eq_getElem_cons hi]; simp [rd, hi]
        rw [ed, List.foldlM_cons] at HF2
        obtain ⟨s2, hs2, hF2⟩ := Option.bind_eq_some_iff.1 HF2
        have HF3 := Aside0.mk hF2
        clear HF2 HF ed hF2
        unfold overStep at hs2
        have eqt : t.getD (rd (rd_L1 rows a) i).toNat false = rdOf false t (rd (rd_L1 rows a) i) := rfl
        cases hv : rdOf false t (rd (rd_L1 rows a) i) with
        | true =>
          rw [hv] at ct
          rw [eqt, hv, if_pos rfl] at hs2
          have hs2' := Option.some.inj hs2
          subst hs2'
          clear hv eqt hs2
          go_wp2
          go_roundg k1
          case measure => omega
          case rel => exact ⟨i + 1, t, o, vo, by go_num, ⟨by have := HK.out; omega⟩, HF3, HG, HI⟩
        | false =>
          rw [hv] at ct
          rw [eqt, hv, if_neg (by decide)] at hs2
          have HX := Aside0.mk hs2
          have HTF : Aside0 (t.getD (rd (rd_L1 rows a) i).toNat false = false) := ⟨by rw [eqt]; exact hv⟩
          clear hv eqt hs2
          have HG2 := Aside0.mk (over_good rows n HRW.out k _ _ _ (c + 1) HX.out HG.out.1 hbn hbm HTF.out HG.out.2)
          go_wp2_with fail
          refine (IH.out (rd (rd_L1 rows a) i) t o s2 (c + 1) wr vo HI.out HG.out.1 HG.out.2 hbn hbm HTF.out HX.out).mono ?_
          rintro e w9 ⟨rfl, v9, hI9⟩
          have HI9 := Aside0.mk hI9
          clear hI9 cth cov ct hb0 HI
          go_wp2
          go_roundg k1
          case measure => omega
          case rel => exact ⟨i + 1, s2.1, s2.2, v9, by go_num, ⟨by have := HK.out; omega⟩, HF3, HG2, HI9⟩

/-! ### the rows -/
theorem okG_len {g : List (List Int)} (h : okG g = true) : g.length ≤ 1000000 ∧ ∀ r ∈ g, r.length ≤ 1000000 := by
  unfold okG at h
  simp only [Bool.and_eq_true, decide_eq_true_eq, List.all_eq_true] at h
  exact h
theorem clean_loop (g : List (List Int)) (hg : okG g = true) : ∀ (d i : Nat) (x3 : List (List Int)), i + d = g.length → x3 = (g.take i).map (fun row => keptL row g.length) ++ List.replicate d [] →
    graph_clean.l0 (d + 1) g x3 g (g.length : Int) i = some (cleanL g) := by
  intro d
  induction d with
  | zero =>
    intro i x3 hi hx
    rw [graph_clean.l0, if_neg (by omega), hx]
    have : g.take i = g := List.take_of_length_le (by omega)
    simp [this, cleanL]
  | succ d ih =>
    intro i x3 hi hx
    have hlt : i < g.length := by omega
    have hrow : rd_L1 g i = g[i] := by simp [rd_L1, hlt]
    have hk : graph_kept.f (rd_L1 g i) (g.length : Int) = some (keptL g[i] g.length) := by
      unfold graph_kept.f
      rw [hrow, if_pos ((okG_len hg).2 _ (List.getElem_mem _))]
    have hl3 : x3.length = g.length := by rw [hx]; simp; omega
    rw [graph_clean.l0, if_pos (by omega), if_pos (by omega), if_pos (by omega), hk]
    simp only [Option.bind_some]
    rw [if_pos (by omega)]
    have hw : wrap64 ((i : Int) + 1) = ((i + 1 : Nat) : Int) := by unfold wrap64; have := (okG_len hg).1; omega
    rw [hw]
    refine ih (i + 1) _ (by omega) ?_
    rw [hx, Int.toNat_natCast]
    have e1 : ((g.take i).map (fun row => keptL row g.length)).length = i := by simp; omega
    rw [List.set_append_right _ _ (by omega), e1, Nat.sub_self, List.take_succ_eq_append_getElem hlt, List.replicate_succ, List.set_cons_zero]
    simp only [List.map_append, List.map_cons, List.map_nil, List.append_assoc, List.cons_append, List.nil_append]
theorem clean_some (g : List (List Int)) (hg : okG g = true) : graph_clean.f (g.length + 1) g = some (cleanL g) := by
  unfold graph_clean.f
  have := (okG_len hg).1
  rw [if_pos (by omega), if_pos (by omega)]
  have := clean_loop g hg g.length 0 (List.replicate g.length []) (by omega) (by simp)
  simpa using this
theorem cleanL_length (g : List (List Int)) : (cleanL g).length = g.length := by simp [cleanL]
theorem cleanL_in (g : List (List Int)) : ∀ row ∈ cleanL g, ∀ b ∈ row, 0 ≤ b ∧ b < g.length := by
  intro row hr b hb
  unfold cleanL at hr
  obtain ⟨r0, _, rfl⟩ := List.mem_map.1 hr
  exact ((mem_keptL _ _ _).1 hb).2

set_option maxHeartbeats 4000000 in
set_option maxRecDepth 100000 in
theorem graph_Order.calls (k : Nat) (A0 : Option Addr) (c0 : Nat) (l0 : List (List Int)) (r : List Int) (w : World) (hr0 : Kd.C (Kd.slice 3 (Kd.int .i64)) w A0 l0.length l0) (hc0 : l0.length ≤ c0) (h : graph_Order.f k l0 = some r) :
    Calls Try.prog 26 #[.slice A0 l0.length c0] w fun e w' => ∃ v0_ : Value, e = .returned (v0_) ∧ Kd.R (Kd.int .i64) 3 w' w.heap.size (fun _ => True) v0_ r ∧ Below w.heap.size w w' := by
  have hok : okG l0 = true := by
    cases hk : okG l0 with
    | true => rfl
    | false => simp [graph_Order.f, hk] at h
  have hlen := (okG_len hok).1
  have HR0 := Aside0.mk hr0
  have HC0 := Aside0.mk hc0
  have HOK := Aside0.mk hok
  clear hr0 hc0
  unfold graph_Order.f at h
  rw [if_pos hok] at h
  by_cases hz : l0.length = 0
  · rw [if_pos hz] at h
    have HE := Aside0.mk (Option.some.inj h)
    have hz2 : ((l0.length : Int) == 0) = true := by simp [hz]
    have hz3 : l0 = [] := List.length_eq_zero_iff.1 hz
    clear h hok hz
    subst hz3
    go_enter Try.func26, Try.ntmps26
    go_wp2
    go_ret
    exact ⟨_, rfl, by rw [← HE.out]; exact Kd.R_nil _ _ _ _ _, Below.refl _ _⟩
  · rw [if_neg hz] at h
    obtain ⟨s', hs', hr⟩ := Option.map_eq_some_iff.1 h
    have hz2 : ((l0.length : Int) == 0) = false := by simpa using hz
    have hz4 : 0 < l0.length := by omega
    have HS := Aside0.mk hs'
    have HE := Aside0.mk hr
    clear h hr hs' hok hz
    go_enter Try.func26, Try.ntmps26
    go_wp2_with fail
    refine (graph_clean.calls (l0.length + 1) A0 c0 l0 (cleanL l0) _ HR0.out HC0.out (clean_some l0 HOK.out)).mono ?_
    rintro e W1 ⟨v0, rfl, hS, hB⟩
    have HB := Aside0.mk hB
    obtain ⟨AR, cR, rfl, hcl, hC⟩ := Kd.S_reads hS
    have HC := Aside0.mk hC
    clear hS hB hcl hC
    go_wp2_with ((with_reducible refine gate_dst (N := 14) rfl ?_); refine Kd.R_make Kd.bool (w0 := W1) W1.heap.size 4 rfl (N := 14) rfl 32 _ _ rfl (l0.length : Int) rfl rfl Try.underlying32 (.bool false) 1 info4 rfl (by decide) (by omega) false (ok := fun _ => True) (okp := fun _ => True) rfl (fun _ hk => hk) trivial (by omega) (by omega) (below_alloc (Below.refl _ _) _) (by simp) ?_; intro v1 w6 hT hB6 hg6 hn6; rw [Int.toNat_natCast] at hT; obtain ⟨gt, cT, e1, hgt, _, _⟩ := Kd.R_form hT (by simpa using hz4); subst e1; rw [List.length_replicate] at hT; have HT := Aside0.mk hT; have HB6 := Aside0.mk hB6; have HG := Aside0.mk hgt; have HR6 := Aside0.mk (blk_grown (heap_alloc_new W1 (.cells #[.slice AR (cleanL l0).length cR] 22)) hg6 (by simp)); rw [List.length_replicate]; clear hT hB6 hg6 hn6 hgt)
    have hI : OverInv W1 AR cR (cleanL l0) W1.heap.size gt w6.heap.size (w6.heap.size + 1) (w6.heap.size + 1 + 1) cT
        (((w6.alloc (.cells #[.slice (some ⟨gt, 0, none⟩) l0.length cT] 32)).alloc (.cells #[.slice none 0 0] 23)).alloc (.cells #[.func (.func 70) #[] #[.pointer (some ⟨w6.heap.size, 0, none⟩), .pointer (some ⟨W1.heap.size, 0, none⟩), .pointer (some ⟨w6.heap.size + 1 + 1, 0, none⟩), .pointer (some ⟨w6.heap.size + 1, 0, none⟩)]] 90))
        (List.replicate l0.length false) [] (.slice none 0 0) := by
      have hs6 := HB6.out.size
      have h2 := heap_alloc_new (w6.alloc (.cells #[.slice (some ⟨gt, 0, none⟩) l0.length cT] 32)) (.cells #[.slice none 0 0] 23)
      rw [World.size_alloc] at h2
      have h3 := heap_alloc_new ((w6.alloc (.cells #[.slice (some ⟨gt, 0, none⟩) l0.length cT] 32)).alloc (.cells #[.slice none 0 0] 23)) (.cells #[.func (.func 70) #[] #[.pointer (some ⟨w6.heap.size, 0, none⟩), .pointer (some ⟨W1.heap.size, 0, none⟩), .pointer (some ⟨w6.heap.size + 1 + 1, 0, none⟩), .pointer (some ⟨w6.heap.size + 1, 0, none⟩)]] 90)
      rw [World.size_alloc, World.size_alloc] at h3
      refine ⟨below_alloc (below_alloc (below_alloc HB6.out _) _) _, ⟨Nat.le_refl _, HG.out, hs6, by omega, by omega⟩, ?_, ?_, h3, blk_alloc h2 _, ?_, ?_⟩
      · exact blk_alloc (blk_alloc (blk_alloc HR6.out _) _) _
      · rw [List.length_replicate]; exact blk_alloc (blk_alloc (heap_alloc_new w6 _) _) _
      · rw [List.length_replicate]; exact Kd.R_alloc (Kd.R_alloc (Kd.R_alloc HT.out _) _) _
      · exact Kd.R_nil _ _ _ _ _
    have HI := Aside0.mk hI
    clear hI
    refine (order1_calls W1 AR cR (cleanL l0) l0.length W1.heap.size gt w6.heap.size (w6.heap.size + 1) (w6.heap.size + 1 + 1) cT HC.out (cleanL_in l0) (cleanL_length l0) (by omega) k 0 (List.replicate l0.length false) [] s' 0 _ _ HI.out (by simp) (by simp) (by omega) (by omega) (by simp [List.getD_eq_getElem?_getD, List.getElem?_replicate, hz4]) HS.out).mono ?_
    rintro e w8 ⟨rfl, vo, hI8⟩
    have HI8 := Aside0.mk hI8
    clear hI8
    obtain ⟨_, _, _, cu, _⟩ := HI8.out.cells
    have HLn := Aside0.mk (over_good (cleanL l0) l0.length (cleanL_in l0) k 0 _ _ 0 HS.out (by simp) (by omega) (by omega) (by simp [List.getD_eq_getElem?_getD, List.getElem?_replicate, hz4]) (by simp))
    have HL2 : Aside0 (s'.2.length ≤ 100000000) := ⟨by
      have h1 := HLn.out
      have h2 := List.count_le_length (a := true) (l := s'.1)
      omega⟩
    go_wp2_with fail
    refine (reverse_R HI8.out.O HL2.out).mono ?_
    rintro e w9 ⟨rfl, hO9, hg9⟩
    have hu9 := blk_grown HI8.out.hout hg9 (Kd.R_ne HI8.out.O HI8.out.hout (by decide))
    have cu9 : w9.cell? ⟨w6.heap.size + 1, 0, none⟩ = some vo := by simpa using blk_cell hu9 0
    have HB9 : Aside0 (Below w.heap.size w w9) := ⟨HB.out.trans ((HI8.out.bel.grown hg9 HI8.out.bel.size (fun k hk => Kd.R_base HI8.out.O k hk)).mono HB.out.size)⟩
    have HO9 : Aside0 (Kd.R (Kd.int .i64) 3 w9 w.heap.size (fun _ => True) vo r) := ⟨by rw [← HE.out]; exact Kd.R_lower hO9 HB.out.size⟩
    clear hO9 hg9 hu9 cu
    go_wp2
    go_ret
    exact ⟨_, rfl, HO9.out, HB9.out⟩
end Go.Proofs.Ytnmeomdjhjgnfaa.X
end
section
set_option linter.unusedSimpArgs false
namespace Go.Proofs.Ytnmeomdjhjgnfaa.X
open Go.RowKit Go.Shelf Go.Proofs.YtnmeomdjhjgnfaaW.PrintWords Go.Proofs.YtnmeomdjhjgnfaaW.PrintLast Go.Proofs.YtnmeomdjhjgnfaaW.PrintMore
set_option linter.unusedVariables false
attribute [local go_sem] Oper.semAt_some

/-- An edge within n blocks. -/
abbrev Ed (n : Nat) := {e : Int × Int // 0 ≤ e.1 ∧ e.1 < n ∧ 0 ≤ e.2 ∧ e.2 < n}
def edEnc {n : Nat} (x : Ed n) : Array Value := #[.int .i64 x.1.1, .int .i64 x.1.2]

/-- What a round that goes on keeps. -/
structure EdKp (B : Nat) (M : World → Nat → Prop) (W W' : World) : Prop where
  size : W.heap.size ≤ W'.heap.size
  same : ∀ k c t f, B ≤ k → ¬ M W k → W.heap[k]? = some (.cells c t f) → W'.heap[k]? = some (.cells c t f)
  mine : ∀ k, M W' k → M W k ∨ W.heap.size ≤ k
/-- M is told by what lies below B. -/
def Told (B : Nat) (M : World → Nat → Prop) : Prop := ∀ W W' : World, (∀ b, b < B → W'.heap[b]? = W.heap[b]?) → ∀ k, M W' k → M W k
theorem EdKp.refl (B : Nat) (M : World → Nat → Prop) (W : World) : EdKp B M W W := ⟨Nat.le_refl _, fun _ _ _ _ _ _ h => h, fun _ h => .inl h⟩
theorem EdKp.trans {B : Nat} {M : World → Nat → Prop} {X Y Z : World} (h : EdKp B M X Y) (k : EdKp B M Y Z) : EdKp B M X Z :=
  ⟨Nat.le_trans h.size k.size, fun i c t f hB hM hc => by
    refine k.same i c t f hB (fun hm => ?_) (h.same i c t f hB hM hc)
    rcases h.mine i hm with hm | hm
    · exact hM hm
    · have := blk_lt hc; omega,
   fun i hm => by
    rcases k.mine i hm with hm | hm
    · exact h.mine i hm
    · exact .inr (Nat.le_trans h.size hm)⟩
theorem EdKp.put {B : Nat} {M : World → Nat → Prop} (hM : Told B M) (W : World) (l : Nat) (o o' : Obj) (hl : B ≤ l) (h : W.heap[l]? = some o) (hc : o.isCells = false) (_ : o.isWalk = false) : EdKp B M W (W.putObj l o') :=
  ⟨by simp, fun k c t f _ _ hk => by
    by_cases e : k = l
    · subst e; rw [h] at hk; cases hk; simp [Obj.isCells] at hc
    · exact (World.putObj_heap_other e).trans hk,
   fun k hm => .inl (hM _ _ (fun b hb => World.putObj_heap_other (by omega)) k hm)⟩

/-- What the iterator leans on between two rounds; W2: the world when its rows had been made. -/
structure EdIn (B : Nat) (M : World → Nat → Prop) (W2 W : World) : Prop where
  size : W2.heap.size ≤ W.heap.size
  same : ∀ k c t f, B ≤ k → W2.heap[k]? = some (.cells c t f) → W.heap[k]? = some (.cells c t f)
  mine : ∀ k, M W k → k < B ∨ W2.heap.size ≤ k
theorem EdIn.step {B : Nat} {M : World → Nat → Prop} {W2 X Y : World} (h : EdIn B M W2 X) (k : EdKp B M X Y) : EdIn B M W2 Y :=
  ⟨Nat.le_trans h.size k.size, fun i c t f hB hc => k.same i c t f hB (fun hm => by
      have := blk_lt hc
      rcases h.mine i hm with h1 | h1 <;> omega) (h.same i c t f hB hc),
   fun i hm => by
    rcases k.mine i hm with hm | hm
    · exact h.mine i hm
    · exact .inr (Nat.le_trans h.size hm)⟩
theorem EdIn.rows {B : Nat} {M : World → Nat → Prop} {W2 W : World} {base : Nat} {v : Value} {rows : List (List Int)} (h : EdIn B M W2 W) (hb : B ≤ base) (hS : Kd.S (Kd.slice 3 (Kd.int .i64)) 23 W2 base (fun _ => True) v rows) :
    Kd.S (Kd.slice 3 (Kd.int .i64)) 23 W base (fun _ => True) v rows := by
  refine Kd.S_mono (Kd.S_step (Kd.S_bound hS) (fun k hk _ => ?_)) (fun _ _ => trivial)
  obtain ⟨_, hk1, _, q, _, cells, hc⟩ := hk
  rw [h.same k _ _ _ (by omega) hc, hc]

theorem EdIn.heap {B : Nat} {M : World → Nat → Prop} {W2 W : World} {base k : Nat} {q : TypeId} (h : EdIn B M W2 W) (hb : B ≤ base) (hk : base ≤ k) (hc : ∃ cells, W2.heap[k]? = some (.cells cells q (0, 0))) : W.heap[k]? = W2.heap[k]? := by
  obtain ⟨cells, hc⟩ := hc
  rw [h.same k _ _ _ (by omega) hc, hc]
theorem EdIn.row {B : Nat} {M : World → Nat → Prop} {W2 W : World} {base : Nat} {v : Value} {row : List Int} (h : EdIn B M W2 W) (hb : B ≤ base) (hR : Kd.R (Kd.int .i64) 3 W2 base (fun _ => True) v row) : Kd.R (Kd.int .i64) 3 W base (fun _ => True) v row := by
  refine Kd.R_mono (Kd.R_step (Kd.R_bound hR) (fun k hk _ => ?_)) (fun _ _ => trivial)
  obtain ⟨_, hk1, _, q, _, hc⟩ := hk
  exact h.heap hb hk1 hc
/-- A row of the rows, and the cell that holds it. -/
theorem row_own {W2 : World} {base n c : Nat} {ad : Addr} {rows : List (List Int)} (hS : Kd.S (Kd.slice 3 (Kd.int .i64)) 23 W2 base (fun _ => True) (.slice (some ad) n c) rows) (i : Nat) (hi : i < n) :
    ∃ Ar cr, W2.cell? (ad.add i) = some (.slice Ar (rd_L1 rows i).length cr) ∧ Kd.R (Kd.int .i64) 3 W2 base (fun _ => True) (.slice Ar (rd_L1 rows i).length cr) (rd_L1 rows i) := by
  obtain ⟨cs, hl, hM, hc⟩ := Kd.S_get hS [] (i : Int) (by omega) (by omega)
  obtain ⟨v, rfl, hR⟩ := hM
  have hR2 : Kd.R (Kd.int .i64) 3 W2 base _ v (rd_L1 rows i) := hR
  obtain ⟨Ar, cr, rfl⟩ := Kd.R_slice hR2
  refine ⟨Ar, cr, ?_, Kd.R_mono hR2 (fun _ _ => trivial)⟩
  have := hc 0 _ rfl
  rwa [Int.toNat_natCast, show (Kd.slice 3 (Kd.int .i64)).sz = 1 from rfl, Nat.mul_one, Nat.add_zero] at this
theorem add_block (ad : Addr) (i : Nat) : (ad.add i).block = ad.block := by unfold Addr.add; split <;> rfl
theorem EdIn.cellAt {B : Nat} {M : World → Nat → Prop} {W2 W : World} {base n c : Nat} {ad : Addr} {rows : List (List Int)} (h : EdIn B M W2 W) (hb : B ≤ base) (hS : Kd.S (Kd.slice 3 (Kd.int .i64)) 23 W2 base (fun _ => True) (.slice (some ad) n c) rows) (i : Nat) : W.cell? (ad.add i) = W2.cell? (ad.add i) :=
  World.cell?_of_block (by rw [add_block]; exact h.heap hb (Kd.S_base hS ad.block rfl) (Kd.S_typed hS ad.block rfl))

/-! ### the edges, by rows -/
theorem edgesFrom_append (i : Nat) (a b : List (List Int)) : edgesFrom i (a ++ b) = edgesFrom i a ++ edgesFrom (i + a.length) b := by
  induction a generalizing i with
  | nil => simp [edgesFrom]
  | cons x a ih =>
    simp only [List.cons_append, edgesFrom, ih, List.append_assoc, List.length_cons]
    rw [show i + 1 + a.length = i + (a.length + 1) from by omega]
theorem edges_row (rows : List (List Int)) (i : Nat) (h : i < rows.length) : edgesFrom 0 (rows.take (i + 1)) = edgesFrom 0 (rows.take i) ++ (rd_L1 rows i).map (fun b => ((i : Int), b)) := by
  have e : rd_L1 rows i = rows[i] := by simp [rd_L1, h]
  rw [List.take_succ_eq_append_getElem h, edgesFrom_append, e]
  simp [edgesFrom, List.length_take, Nat.min_eq_left (Nat.le_of_lt h)]
theorem edges_cut (rows : List (List Int)) (i j : Nat) (h : i < rows.length) : (edgesFrom 0 (rows.take i) ++ ((rd_L1 rows i).take j).map (fun b => ((i : Int), b))) <+: edgesFrom 0 rows := by
  have h1 : edgesFrom 0 rows = edgesFrom 0 (rows.take (i + 1)) ++ edgesFrom (0 + (rows.take (i + 1)).length) (rows.drop (i + 1)) := by rw [← edgesFrom_append, List.take_append_drop]
  rw [h1, edges_row rows i h]
  refine ⟨((rd_L1 rows i).drop j).map (fun b => ((i : Int), b)) ++ edgesFrom (0 + (rows.take (i + 1)).length) (rows.drop (i + 1)), ?_⟩
  have h2 : (rd_L1 rows i).map (fun b => ((i : Int), b)) = ((rd_L1 rows i).take j).map (fun b => ((i : Int), b)) ++ ((rd_L1 rows i).drop j).map (fun b => ((i : Int), b)) := by rw [← List.map_append, List.take_append_drop]
  rw [h2]
  simp only [List.append_assoc]
theorem take_snoc_rd (l : List Int) (j : Nat) (h : j < l.length) : l.take (j + 1) = l.take j ++ [rd l j] := by
  rw [List.take_succ_eq_append_getElem h]; simp [rd, h]

theorem cleanL_at (g : List (List Int)) (i : Nat) (h : i < g.length) : ∀ b ∈ rd_L1 (cleanL g) i, 0 ≤ b ∧ b < g.length := by
  intro b hb
  have hl : i < (cleanL g).length := by rw [cleanL_length]; exact h
  refine cleanL_in g (rd_L1 (cleanL g) i) ?_ b hb
  have e : rd_L1 (cleanL g) i = (cleanL g)[i] := by simp [rd_L1, hl]
  rw [e]; exact List.getElem_mem _

set_option maxHeartbeats 4000000 in
set_option maxRecDepth 100000 in
theorem edges1_in (m : Nat) (hm : 3 ≤ m) (l bx : Nat) (A0 : Option Addr) (c0 : Nat) (g : List (List Int)) (hok : okG g = true) (B : Nat) (M : World → Nat → Prop) (W : World) (hMW : ∀ W', Below W.heap.size W W' → ∀ k, M W' k → k < B) (hB : B ≤ W.heap.size)
    (hR : Kd.C (Kd.slice 3 (Kd.int .i64)) W A0 g.length g) (hc0 : g.length ≤ c0) (hbx : W.cell? ⟨bx, 0, none⟩ = some (.slice A0 g.length c0)) (J Jx : List (Ed g.length) → World → Prop) (hJ : AbidesFrom W.heap.size J)
    (hY : ∀ pre x W1, J pre W1 → pre.length < (edgesL g).length → YieldAt Fence.wide (m - 1) Try.prog l (edEnc x) W1 fun e W' =>
      (e = .returned (.bool true) ∧ J (pre ++ [x]) W' ∧ EdKp B M W1 W') ∨ (e = .returned (.bool false) ∧ Jx (pre ++ [x]) W')) (h0 : J [] W) :
    CallsIn Fence.wide m Try.prog 104 #[.func (.yield l) #[] #[], .pointer (some ⟨bx, 0, none⟩)] W fun e W' => (∃ v, e = .returned v) ∧
      ((∃ xs : List (Ed g.length), xs.map Subtype.val = edgesL g ∧ J xs W') ∨ (∃ pre : List (Ed g.length), pre.map Subtype.val <+: edgesL g ∧ Jx pre W')) := by
  have hlen := (okG_len hok).1
  have HY := Aside0.mk hY
  have HJ := Aside0.mk hJ
  have HM := Aside0.mk hMW
  have H0 := Aside0.mk h0
  have HR := Aside0.mk hR
  have HC0 := Aside0.mk hc0
  have HOK := Aside0.mk hok
  clear hY hJ hMW h0 hR hc0 hok
  refine callsIn_of_wp Try.func104 rfl trivial ?_ rfl
  simp only [Try.ntmps104, List.size_toArray, List.length_cons, List.length_nil, Nat.reduceAdd, Nat.reduceSub, Array.replicate_succ, Array.replicate_zero, List.push_toArray, List.append_toArray, List.nil_append, List.cons_append]
  gi_wp2_with fail
  refine ⟨trivial, fun _ => by omega, ?_⟩
  refine (callsIn_wide.2 (graph_clean.calls (g.length + 1) A0 c0 g (cleanL g) _ HR.out HC0.out (clean_some g HOK.out))).mono ?_
  rintro e W2 ⟨v0, rfl, hS, hBl⟩
  have HS := Aside0.mk hS
  obtain ⟨AR, cR, rfl, _, _⟩ := Kd.S_reads hS
  have e1 := cleanL_length g
  have HI0 : Aside0 (EdIn B M W2 W2) := ⟨⟨Nat.le_refl _, fun _ _ _ _ _ h => h, fun k hk => .inl (HM.out W2 hBl k hk)⟩⟩
  have HJ0 : Aside0 (J [] W2) := ⟨HJ.out [] W W2 none H0.out (grown_of_below hBl none) (fun r e => by cases e)⟩
  have HE1 := Aside0.mk e1
  clear hS hBl H0 e1 hbx
  gi_wp2_with fail
  gi_loopw [10] (fun v10 wr => ∃ (i : Nat) (pre : List (Ed g.length)), v10 = .int .i64 i ∧ i ≤ g.length ∧ Aside0 (pre.map Subtype.val = edgesFrom 0 ((cleanL g).take i)) ∧ Aside0 (EdIn B M W2 wr) ∧ Aside0 (J pre wr)) (fun v10 _ => g.length - (intOf v10).toNat)
  case atStart => exact ⟨0, [], rfl, by omega, ⟨by simp [edgesFrom]⟩, HI0, HJ0⟩
  case round =>
    obtain ⟨i, pre, rfl, hi, HP, HI, HJ1⟩ := hrel
    clear HI0 HJ0
    by_cases hlt : i < g.length
    · obtain ⟨ad, _, _, ear, _⟩ := at_L1 (Kd.S_reads' HS.out).2.2 (i : Int) (by omega) (by have := HE1.out; omega)
      subst ear
      obtain ⟨Ar, cr, hxr, hRow⟩ := row_own HS.out i (by have := HE1.out; omega)
      rw [← HI.out.cellAt hB HS.out i] at hxr
      have HRow := Aside0.mk hRow
      have HRL : Aside0 ((rd_L1 (cleanL g) i).length ≤ 1000000) := ⟨by
        have e : rd_L1 (cleanL g) i = keptL (g[i]) g.length := by simp [rd_L1, cleanL, hlt]
        rw [e]; have := keptL_length (g[i]) g.length; omega⟩
      have hlc : i < (cleanL g).length := by have := HE1.out; omega
      clear hRow
      gi_wp2_with fail
      gi_loopw [17] (fun v17 wr => ∃ (j : Nat) (pre : List (Ed g.length)), v17 = .int .i64 j ∧ j ≤ (rd_L1 (cleanL g) i).length ∧ Aside0 (pre.map Subtype.val = edgesFrom 0 ((cleanL g).take i) ++ ((rd_L1 (cleanL g) i).take j).map (fun b => ((i : Int), b))) ∧ Aside0 (EdIn B M W2 wr) ∧ Aside0 (J pre wr)) (fun v17 _ => (rd_L1 (cleanL g) i).length - (intOf v17).toNat)
      case atStart => exact ⟨0, pre, rfl, by omega, ⟨by simpa using HP.out⟩, HI, HJ1⟩
      case round =>
        obtain ⟨j, pre, rfl, hj, HP, HI, HJ1⟩ := hrel
        clear hxr
        have hrl := HRL.out
        by_cases hjt : j < (rd_L1 (cleanL g) i).length
        · obtain ⟨ae, eae, hb0⟩ := Kd.at_int (Kd.R_reads' (HI.out.row hB HRow.out)).2.2 (j : Int) (by omega) (by omega)
          subst eae
          rw [Int.toNat_natCast] at hb0
          obtain ⟨hbn, hbm⟩ := cleanL_at g i hlt (rd (rd_L1 (cleanL g) i) j) (by
            have e : rd (rd_L1 (cleanL g) i) j = (rd_L1 (cleanL g) i)[j] := by simp [rd, hjt]
            rw [e]; exact List.getElem_mem _)
          have HPN : Aside0 ((pre ++ [(⟨((i : Int), rd (rd_L1 (cleanL g) i) j), by constructor <;> omega⟩ : Ed g.length)]).map Subtype.val = edgesFrom 0 ((cleanL g).take i) ++ ((rd_L1 (cleanL g) i).take (j + 1)).map (fun b => ((i : Int), b))) := ⟨by
            rw [List.map_append, HP.out, take_snoc_rd _ _ hjt]; simp⟩
          have HPL : Aside0 (pre.length < (edgesL g).length) := ⟨by
            have h1 := (edges_cut (cleanL g) i (j + 1) (by omega)).length_le
            rw [← HPN.out] at h1
            simp only [List.length_map, List.length_append, List.length_cons, List.length_nil] at h1
            unfold edgesL; omega⟩
          obtain ⟨fn, tmps, assign, body, hy, hRd⟩ := HY.out pre ⟨((i : Int), rd (rd_L1 (cleanL g) i) j), by constructor <;> omega⟩ wr HJ1.out HPL.out
          simp only [edEnc] at hy
          gi_wp2
          refine ⟨fun _ => by omega, ?_⟩
          refine hRd.mono ?_
          rintro e W3 (⟨rfl, hJ3, hk3⟩ | ⟨rfl, hJx3⟩)
          · have HI3 := Aside0.mk (HI.out.step hk3)
            have HJ3 := Aside0.mk hJ3
            clear hJ3 hk3 hy hRd hb0
            gi_wp2
            go_roundw
            case rel => exact ⟨j + 1, _, by go_num, by omega, HPN, HI3, HJ3⟩
            case measure => simp [intOf]; omega
          · have HJX := Aside0.mk hJx3
            have HPX : Aside0 ((pre ++ [(⟨((i : Int), rd (rd_L1 (cleanL g) i) j), by constructor <;> omega⟩ : Ed g.length)]).map Subtype.val <+: edgesL g) := ⟨by
              rw [HPN.out]; exact edges_cut (cleanL g) i (j + 1) (by omega)⟩
            clear hJx3 hy hRd hb0
            gi_wp2
            refine bodyPost_ret (results_none rfl _ _ _) rfl ?_
            exact ⟨⟨_, rfl⟩, .inr ⟨_, HPX.out, HJX.out⟩⟩
        · obtain rfl : j = (rd_L1 (cleanL g) i).length := by omega
          have HPN : Aside0 (pre.map Subtype.val = edgesFrom 0 ((cleanL g).take (i + 1))) := ⟨by
            rw [HP.out, edges_row _ _ (by omega), List.take_length]⟩
          gi_wp2
          go_roundw
          case rel => exact ⟨i + 1, _, by go_num, by omega, HPN, HI, HJ1⟩
          case measure => simp [intOf]; omega
    · obtain rfl : i = g.length := by omega
      have hl2 : (cleanL g).length ≤ g.length := by have := HE1.out; omega
      have HPN : Aside0 (pre.map Subtype.val = edgesL g) := ⟨by
        rw [HP.out, List.take_of_length_le hl2]; rfl⟩
      gi_wp2
      go_end0
      exact ⟨⟨_, rfl⟩, .inl ⟨_, HPN.out, HJ1.out⟩⟩

/-- graph.edges: the rows' slice is boxed; the function value captures the box. -/
theorem edges_calls (a : Option Addr) (len cap : Nat) (w : World) :
    Calls Try.prog 84 #[.slice a len cap] w fun e w' => e = .returned (.func (.func 104) #[] #[.pointer (some ⟨w.heap.size, 0, none⟩)]) ∧ w' = w.alloc (.cells #[.slice a len cap] 22) := by
  go_enter Try.func84, Try.ntmps84
  go_wp2
  go_ret
  exact ⟨rfl, rfl⟩

theorem edges_stops (m : Nat) (hm : 3 ≤ m) (bx : Nat) (A0 : Option Addr) (c0 : Nat) (g : List (List Int)) (hok : okG g = true) (M : World → Nat → Prop) (w : World) (hMd : Told w.heap.size M) (hMW : ∀ k, M w k → k < w.heap.size)
    (hR : Kd.C (Kd.slice 3 (Kd.int .i64)) w A0 g.length g) (hc0 : g.length ≤ c0) (hbx : w.cell? ⟨bx, 0, none⟩ = some (.slice A0 g.length c0)) :
    SeqStopsK Fence.wide m Try.prog 104 #[.pointer (some ⟨bx, 0, none⟩)] (edEnc (n := g.length)) (EdKp w.heap.size M) (fun xs => xs.map Subtype.val = edgesL g) (fun pre => pre.map Subtype.val <+: edgesL g) (edgesL g).length w := by
  intro l J Jx W hW hJ _ hY h0
  refine edges1_in m hm l bx A0 c0 g hok w.heap.size M W (fun W' hW' k hk => ?_) hW.size (Kd.C_below hR hW) hc0 ((hW.cell (World.block_lt_of_cell? w _ hbx)).trans hbx) J Jx hJ hY h0
  refine hMW k (hMd w W' (fun b hb => ?_) k hk)
  rw [hW'.block b (Nat.lt_of_lt_of_le hb hW.size), hW.block b hb]
end Go.Proofs.Ytnmeomdjhjgnfaa.X
end
section
set_option linter.unusedSimpArgs false
/-! A region within a round of a range over a function, by its plain walk: what the fence asks beyond is nothing (Fence.wide). -/
namespace Go
variable {l n : Nat} {P : Program} {ops : Array Oper} {Q : Exit → Act → World → Prop} {a : Act} {w : World}

theorem Oper.wp_inRound {o : Oper} {next : Act → World → Prop} (hd : ∀ c, o.op ≠ .defer c) (h : o.wp P a w next Q) : o.wpIn (Fence.wide.inRound l) n P a w next Q := by
  refine ⟨fun _ _ => trivial, ?_⟩
  rw [Oper.semAt_eq _ _ _ hd]
  unfold Oper.wp at h
  generalize (execOp a.eval o).run P w = r at h ⊢
  cases r with
  | ok x w' =>
    cases x with
    | value v => exact h
    | skip => exact h
    | defer d => exact h
    | enter f args => exact ⟨fun hh => by simp [Fence.wide] at hh, CallsIn.inRound l (callsIn_wide.2 h)⟩
    | row row args => exact ⟨fun hh => by simp [Fence.wide] at hh, fun c cs _ => let ⟨v, w', r, s⟩ := h c cs; ⟨v, w', r, (stepsIn_wide (P := P)).2 s⟩⟩
    | _ => exact h.elim
  | halt s w' => cases s <;> exact h

def noDefer (ops : Array Oper) : Bool := ops.all fun o => match o.op with | .defer _ => false | _ => true
theorem noDefer_at (h : noDefer ops = true) {i : Nat} {o : Oper} (ho : ops[i]? = some o) : ∀ c, o.op ≠ .defer c := by
  intro c hc
  have := (Array.all_eq_true.1 h) i (Array.getElem?_eq_some_iff.1 ho).1
  rw [(Array.getElem?_eq_some_iff.1 ho).2, hc] at this
  cases this

theorem wpOps_inRound (hd : noDefer ops = true) (hQ : ¬ LetsOut Q) : ∀ (is : List Nat) (a : Act) (w : World), wpOps P ops Q is a w → wpOpsIn (Fence.wide.inRound l) n P ops Q is a w
  | [], _, _, h => h
  | i :: rest, a, w, h => by
    have ih := wpOps_inRound hd hQ rest
    unfold wpOps at h
    unfold wpOpsIn
    cases ho : ops[i]? with
    | none => simp only [ho] at h ⊢; exact ih _ _ h
    | some o =>
      simp only [ho] at h ⊢
      split
      · rename_i hw
        rw [if_pos hw] at h
        rcases h with h | h
        · exact Oper.wp_inRound (noDefer_at hd ho) (Oper.wp_mono ih h)
        · exact absurd h.2 hQ
      · rename_i hw
        rw [if_neg hw] at h
        exact ⟨fun _ _ => trivial, ih _ _ h⟩

/-- A region that draws its order. -/
theorem wpIn_draw_plain {id : Nat} {l' : List Oper} (hm : P.follows .mixedOrders = true) (hd : noDefer l'.toArray = true) (hQ : ¬ LetsOut Q)
    (h : wpAny P .any l'.toArray Q l'.toArray.size (Array.replicate l'.toArray.size false) a w.drew) : (Code.region id l'.toArray true).wpIn (Fence.wide.inRound l) n P Q a w :=
  wpIn_region_draw fun t => by
    simp only [Region.schedule, hm, Bool.true_or, if_true]
    exact wpOps_inRound hd hQ _ _ _ (wpAny_sound _ t _ a _ h)

theorem wpIn_list_plain {id : Nat} {l' : List Oper} (hd : noDefer l'.toArray = true) (hQ : ¬ LetsOut Q)
    (h : wpList P l'.toArray Q l' a w) : (Code.region id l'.toArray false).wpIn (Fence.wide.inRound l) n P Q a w := by
  refine wpIn_region ?_
  refine wpOps_inRound hd hQ _ _ _ ?_
  rw [List.range_eq_range', show l'.toArray.size = l'.length from rfl, wpOps_eq_wpList l' 0 (by simp)]
  exact h

end Go
namespace Go.Proofs.Ytnmeomdjhjgnfaa.X
open Go.RowKit Go.Shelf Go.Proofs.YtnmeomdjhjgnfaaW.PrintWords Go.Proofs.YtnmeomdjhjgnfaaW.PrintLast Go.Proofs.YtnmeomdjhjgnfaaW.PrintMore
set_option linter.unusedVariables false
attribute [local go_sem] Oper.semAt_some

theorem S_nocells {α : Type} {d : Kd α} {e base : Nat} {ok : Nat → Prop} {W W' : World} {v : Value} {xs : List α} {row : Option Nat} (h : Kd.S d e W base ok v xs) (hg : W.grownBy W' row)
    (hr : ∀ r, row = some r → ∃ o : Obj, W.heap[r]? = some o ∧ o.isCells = false) : Kd.S d e W' base ok v xs := by
  refine Kd.S_mono (Kd.S_grown (Kd.S_bound h) hg (fun k hk he => ?_)) (fun _ hk => hk.1)
  obtain ⟨_, _, _, q, _, cells, hc⟩ := hk
  obtain ⟨o, ho, hn⟩ := hr k he.symm
  rw [hc] at ho; cases ho; cases hn
theorem cell_of_box' {W : World} {B : Nat} {v : Value} {t : TypeId} (h : W.heap[B]? = some (.cells #[v] t (0, 0))) : W.cell? ⟨B, 0, none⟩ = some v ∧ W.frozen? ⟨B, 0, none⟩ = false := by
  constructor <;> simp [World.cell?, World.frozen?, h]
theorem cell_new_c' (W : World) (v : Value) (t : TypeId) : (W.alloc (.cells #[v] t)).cell? ⟨W.heap.size, 0, none⟩ = some v ∧ (W.alloc (.cells #[v] t)).frozen? ⟨W.heap.size, 0, none⟩ = false :=
  cell_of_box' (World.alloc_heap_new W _)
/-- The box of the rows' slice, the rows. -/
structure PrIn (w : World) (bx n c : Nat) (AR : Option Addr) (rows : List (List Int)) (W : World) : Prop where
  cell : W.cell? ⟨bx, 0, none⟩ = some (.slice AR n c)
  dim : rows.length = n
  own : Kd.S (Kd.slice 3 (Kd.int .i64)) 23 W w.heap.size (fun k => k ≠ bx) (.slice AR n c) rows
  below : Below w.heap.size w W
theorem cell_alloc' {W : World} {a : Addr} {v : Value} (o : Obj) (h : W.cell? a = some v) : (W.alloc o).cell? a = some v := cell_kept h (World.grownBy_alloc W o none) (fun r e => by cases e)
/-- The rows' own blocks. -/
def PrM (AR : Option Addr) (n : Nat) (W : World) (k : Nat) : Prop := ∃ ad i v, AR = some ad ∧ i < n ∧ W.cell? ⟨ad.block, i, none⟩ = some v ∧ v.ownBlock = some k
theorem PrM.told {AR : Option Addr} {n B : Nat} (h : ∀ ad, AR = some ad → ad.block < B) : Told B (PrM AR n) := by
  rintro W W' hb k ⟨ad, i, v, rfl, hi, hc, hk⟩
  exact ⟨ad, i, v, rfl, hi, (World.cell?_of_block (a := ⟨ad.block, i, none⟩) (hb _ (h ad rfl))).symm.trans hc, hk⟩
theorem PrIn.kept {w : World} {bx n c : Nat} {AR : Option Addr} {rows : List (List Int)} {W W' : World} {row : Option Nat} (h : PrIn w bx n c AR rows W) (hg : W.grownBy W' row)
    (hr : ∀ r, row = some r → w.heap.size ≤ r ∧ ∃ o : Obj, W.heap[r]? = some o ∧ o.isCells = false) : PrIn w bx n c AR rows W' :=
  ⟨cell_kept h.cell hg (fun r e => (hr r e).2), h.dim, S_nocells h.own hg (fun r e => (hr r e).2), h.below.grown hg h.below.size (fun k e => (hr k e).1)⟩
theorem grownBy_setCell_b (w : World) (b i : Nat) (v : Value) : w.grownBy (w.setCell ⟨b, i, none⟩ v) (some b) :=
  ⟨rfl, rfl, rfl, by simp [World.setCell], fun k _ hk => Below.heap_setCell w ⟨b, i, none⟩ v k (fun h => hk (by rw [h]))⟩
/-- What a round of Preds does to memory: one row has grown or moved, one cell of the rows was written. -/
theorem PrM.round {B g n b : Nat} {W W7 : World} {v18 v21 : Value} {e : TypeId} {cells : Array Value} (hgc : W.heap[g]? = some (.cells cells e (0, 0))) (hB : g < B) (hb : b < n)
    (hc : W.cell? ⟨g, b, none⟩ = some v18) (hne : v18.ownBlock ≠ some g) (ht : ∀ k, v18.ownBlock = some k → ∃ c q, W.heap[k]? = some (.cells c q (0, 0)))
    (hg7 : W.grownBy W7 v18.ownBlock) (hat : v21.ownBlock = v18.ownBlock ∨ ∃ k, v21.ownBlock = some k ∧ W.heap.size ≤ k) :
    KeepsFrom B W (W7.setCell ⟨g, b, none⟩ v21) ∧ EdKp B (PrM (some ⟨g, 0, none⟩) n) W (W7.setCell ⟨g, b, none⟩ v21) := by
  have hs7 := hg7.size
  have hs8 : (W7.setCell ⟨g, b, none⟩ v21).heap.size = W7.heap.size := by simp [World.setCell]
  have hblk : ∀ k, k < W.heap.size → some k ≠ v18.ownBlock → k ≠ g → (W7.setCell ⟨g, b, none⟩ v21).heap[k]? = W.heap[k]? := fun k hk h1 h2 =>
    (Below.heap_setCell W7 ⟨g, b, none⟩ v21 k h2).trans (hg7.block k hk h1)
  have h7g : W7.heap[g]? = W.heap[g]? := hg7.block g (blk_lt hgc) (fun h => hne h.symm)
  refine ⟨⟨by omega, fun k o hBk hk hn => ?_⟩, ⟨by omega, fun k c t f hBk hM hk => ?_, ?_⟩⟩
  · refine (hblk k (Array.getElem?_eq_some_iff.1 hk).1 (fun h => ?_) (by omega)).trans hk
    obtain ⟨c, q, h2⟩ := ht k h.symm
    rw [hk] at h2
    injection h2 with h2
    subst h2
    cases hn
  · exact (hblk k (Array.getElem?_eq_some_iff.1 hk).1 (fun h => hM ⟨_, b, v18, rfl, hb, hc, h.symm⟩) (by omega)).trans hk
  · rintro k ⟨ad, i, v, ead, hi, hv, hk⟩
    injection ead with ead
    subst ead
    by_cases hib : i = b
    · subst hib
      have h7c : W7.cell? ⟨g, i, none⟩ = some v18 := (World.cell?_of_block (a := ⟨g, i, none⟩) h7g).trans hc
      rw [show (W7.setCell ⟨g, i, none⟩ v21).cell? ⟨g, i, none⟩ = some v21 from World.cell?_setCell_same _ _ _ h7c] at hv
      injection hv with hv
      subst hv
      rcases hat with h | ⟨k', h, hk'⟩
      · exact .inl ⟨_, i, v18, rfl, hi, hc, h ▸ hk⟩
      · rw [h] at hk; injection hk with hk; omega
    · rw [show (W7.setCell ⟨g, b, none⟩ v21).cell? ⟨g, i, none⟩ = W.cell? ⟨g, i, none⟩ from (World.cell?_setCell_other _ _ _ _ (fun h => hib (by injection h with _ h2 _; exact h2.symm))).trans (World.cell?_of_block (a := ⟨g, i, none⟩) h7g)] at hv
      exact .inl ⟨_, i, v, rfl, hi, hv, hk⟩
theorem preds_len (es : List (Int × Int)) : ∀ (rows : List (List Int)) (k : Nat), (∀ r ∈ rows, r.length ≤ k) → ∀ r : List Int, r = [] ∨ r ∈ es.foldl predStep rows → r.length ≤ k + es.length := by
  induction es with
  | nil => intro rows k h r hr; rcases hr with rfl | hr; simp; exact h r hr
  | cons e es ih =>
    intro rows k h r hr
    have := ih (predStep rows e) (k + 1) (fun r hr => ?_) r hr
    · simp only [List.length_cons]; omega
    · rcases List.mem_or_eq_of_mem_set hr with hr | rfl
      · exact Nat.le_succ_of_le (h r hr)
      · simp only [List.length_append, List.length_cons, List.length_nil]
        have h2 : (rows.getD e.2.toNat []).length ≤ k := by
          rcases Nat.lt_or_ge e.2.toNat rows.length with h1 | h1
          · simpa [h1] using h _ (List.getElem_mem h1)
          · simp [h1]
        omega
theorem getD_mem (l : List (List Int)) (i : Nat) : l.getD i [] = [] ∨ l.getD i [] ∈ l := by
  rcases Nat.lt_or_ge i l.length with h | h
  · exact .inr (by simp [h])
  · exact .inl (by simp [h])
theorem edgesFrom_length (n : Nat) : ∀ (rows : List (List Int)) (i : Nat), (∀ r ∈ rows, r.length ≤ n) → (edgesFrom i rows).length ≤ rows.length * n
  | [], _, _ => by simp [edgesFrom]
  | r :: rows, i, h => by
    have h1 := edgesFrom_length n rows (i + 1) (fun r hr => h r (List.mem_cons_of_mem _ hr))
    have h2 := h r List.mem_cons_self
    simp only [edgesFrom, List.length_append, List.length_map, List.length_cons, Nat.succ_mul]
    omega
theorem edgesL_length (g : List (List Int)) : (edgesL g).length ≤ g.length * g.length := by
  have := edgesFrom_length g.length (cleanL g) 0 (fun r hr => by
    obtain ⟨row, _, rfl⟩ := List.mem_map.1 hr
    have := keptL_length row g.length
    omega)
  rwa [cleanL_length] at this
set_option maxHeartbeats 4000000 in
set_option maxRecDepth 100000 in
theorem graph_Preds.calls (A0 : Option Addr) (c0 : Nat) (l0 : List (List Int)) (r : List (List Int)) (w : World) (hr0 : Kd.C (Kd.slice 3 (Kd.int .i64)) w A0 l0.length l0) (hc0 : l0.length ≤ c0) (h : graph_Preds.f l0 = some r) :
    Calls Try.prog 47 #[.slice A0 l0.length c0] w fun e w' => ∃ v0_ : Value, e = .returned (v0_) ∧ Kd.S (Kd.slice 3 (Kd.int .i64)) 23 w' w.heap.size (fun _ => True) v0_ r ∧ Below w.heap.size w w' := by
  unfold graph_Preds.f at h
  split at h
  case isFalse => cases h
  rename_i hok
  injection h with h
  have hlen := (okG_len hok).1
  have HR := Aside0.mk hr0
  have HC0 := Aside0.mk hc0
  have HOK := Aside0.mk hok
  clear hr0 hc0 hok
  have HE := Aside0.mk h
  clear h
  refine (callsIn_wide (n := 6)).1 ?_
  refine callsIn_of_wp_marks Try.func47 rfl trivial ?_ rfl
  simp only [Try.ntmps47, List.size_toArray, List.length_cons, List.length_nil, Nat.reduceAdd, Nat.reduceSub, Array.replicate_succ, Array.replicate_zero, List.push_toArray, List.append_toArray, List.nil_append, List.cons_append]
  refine wpIn_seq (wpIn_wide.2 ?_)
  go_wp2
  refine wpIn_seq (wpIn_wide.2 ?_)
  have hl30 : 0 ≤ (l0.length : Int) := by omega
  go_wp2_with ((with_reducible refine gate_dst (N := 8) rfl ?_); refine Kd.S_make (Kd.slice 3 (Kd.int .i64)) (w0 := w) w.heap.size 23 rfl (N := 8) rfl 22 _ _ rfl (l0.length : Int) rfl rfl Try.underlying22 (.slice none 0 0) 24 info23 rfl (by decide) (by omega) [] (ok := fun _ => True) (okp := fun _ => True) ⟨_, rfl, Kd.R_nil _ _ _ _ _⟩ (fun _ hk => hk) trivial (by omega) (by omega) (Below.refl _ _) (Nat.le_refl _) ?_; intro v8 w4 ho5 hb hg_ hnew_; obtain ⟨AR, cR, rfl, _, _⟩ := Kd.S_reads ho5; clear hg_ hnew_)
  have HB4 := Aside0.mk hb
  have hn : (List.replicate (l0.length : Int).toNat ([] : List Int)).length = l0.length := by simp
  have hcc := cell_new_c' w4 (.slice AR l0.length cR) 22
  rw [hn] at ho5
  have HW4 := Aside0.mk ho5
  clear ho5 hb
  refine wpIn_seq (wpIn_seq ?_)
  gi_wp2
  refine ⟨trivial, ?_⟩
  refine (callsIn_wide.2 (edges_calls A0 l0.length c0 _)).mono ?_
  rintro e w' ⟨rfl, rfl⟩
  gi_wp2
  have hMd : Told (w4.heap.size + 2) (PrM AR l0.length) := PrM.told (fun ad e => by
    have := Kd.S_lt HW4.out ad.block (by rw [e]; rfl); omega)
  have hMW : ∀ k, PrM AR l0.length ((w4.alloc (Obj.cells #[Value.slice AR l0.length cR] 22)).alloc (Obj.cells #[Value.slice A0 l0.length c0] 22)) k → k < w4.heap.size + 2 := by
    rintro k ⟨ad, i, v, rfl, hi, hc, hk⟩
    obtain ⟨g, rfl⟩ := Kd.R_head (Kd.S_R HW4.out)
    obtain ⟨Ar, cr, h1, h2⟩ := row_own HW4.out i hi
    have h3 : (⟨g, 0, none⟩ : Addr).add i = ⟨g, i, none⟩ := by rw [Addr.add_lit, Nat.zero_add]
    rw [h3] at h1
    have h4 := World.block_lt_of_cell? _ _ h1
    have h5 := hc.symm.trans ((((Below.refl w4.heap.size w4).alloc (Nat.le_refl _) _).alloc (by simp) _).cell (p := ⟨g, i, none⟩) h4 |>.trans h1)
    injection h5 with h5
    subst h5
    have := Kd.R_lt h2 k hk
    omega
  have hbxe := cell_new_c' (w4.alloc (Obj.cells #[Value.slice AR l0.length cR] 22)) (.slice A0 l0.length c0) 22
  have hB2 : Below w4.heap.size w4 ((w4.alloc (Obj.cells #[Value.slice AR l0.length cR] 22)).alloc (Obj.cells #[Value.slice A0 l0.length c0] 22)) := ((Below.refl _ w4).alloc (Nat.le_refl _) _).alloc (by simp) _
  simp only [World.size_alloc] at hbxe
  obtain ⟨wL, hwL⟩ : ∃ wL, (w4.alloc (Obj.cells #[Value.slice AR l0.length cR] 22)).alloc (Obj.cells #[Value.slice A0 l0.length c0] 22) = wL := ⟨_, rfl⟩
  have hsz : wL.heap.size = w4.heap.size + 2 := by rw [← hwL]; simp
  have HI0 : Aside0 (PrIn w w4.heap.size l0.length cR AR (List.replicate l0.length []) wL) := ⟨by
    rw [← hwL]
    refine ⟨cell_alloc' _ hcc.1, by simp, Kd.S_below (Kd.S_mono (Kd.S_bound HW4.out) (fun k hk => Nat.ne_of_lt hk.2.2.1)) hB2, below_alloc (below_alloc HB4.out _) _⟩⟩
  rw [hwL] at hMW hbxe hB2 ⊢
  rw [← hsz] at hMd hMW
  refine wpIn_rangeFunc_ownG rfl (by omega) (gf := 104) (lb := #[.pointer (some ⟨w4.heap.size + 1, 0, none⟩)]) rfl trivial (enters_of Try.func104 (by kernel_rfl) rfl)
    (edges_stops 5 (by omega) (w4.heap.size + 1) A0 c0 l0 HOK.out (PrM AR l0.length) wL hMd hMW (Kd.C_below HR.out (HB4.out.trans (hB2.mono HB4.out.size))) HC0.out hbxe.1) EdKp.trans (EdKp.put hMd) (Below.refl _ _) (fun _ => rfl)
    (fun pre W => PrIn w w4.heap.size l0.length cR AR ((pre.map Subtype.val).foldl predStep (List.replicate l0.length [])) W)
    (fun _ _ _ => False)
    (fun s A B row hs hg hr => hs.kept hg (fun r e => ⟨by have := (hr r e).1; have := HB4.out.size; omega, (hr r e).2⟩))
    (fun _ _ _ _ _ hs _ _ => hs)
    HI0.out
    (fun x => { tmps := #[Value.slice A0 l0.length c0, undef, Value.slice none 0 0, Value.pointer (some { block := w4.heap.size, off := 0 }), .int .i64 x.1.1, .int .i64 x.1.2, Value.slice A0 l0.length c0,
          Value.int IntKind.i64 ↑l0.length, Value.slice AR l0.length cR, Value.slice A0 l0.length c0,
          Value.func (Fn.func 104) #[] #[Value.pointer (some { block := w4.heap.size + 1, off := 0 })], .int .i64 x.1.1, .int .i64 x.1.2,
          undef, undef, undef, undef, undef, undef, undef, undef, undef, undef, undef], defers := [] }) ?assign ?body ?done ?stop
  case assign =>
    intro l x W K hK
    simp only [edEnc]
    gi_wp2
    exact hK
  case body =>
    rintro l pre ⟨⟨a, b⟩, ha0, ha1, hb0, hb1⟩ W hI hlt
    have hgB : ∀ ad, AR = some ad → ad.block < w4.heap.size := fun ad e => Kd.S_lt HW4.out ad.block (by rw [e]; rfl)
    clear hMd hMW hB2 hcc hbxe HI0 hwL HW4
    simp only at ha0 ha1 hb0 hb1
    have hI' := hI
    obtain ⟨rows, hrows⟩ : ∃ rows, (pre.map Subtype.val).foldl predStep (List.replicate l0.length []) = rows := ⟨_, rfl⟩
    rw [hrows] at hI
    have hfin : ∀ W', PrIn w w4.heap.size l0.length cR AR (rows.set b.toNat (rows.getD b.toNat [] ++ [a])) W' → PrIn w w4.heap.size l0.length cR AR (((pre ++ [(⟨(a, b), by omega⟩ : Ed l0.length)]).map Subtype.val).foldl predStep (List.replicate l0.length [])) W' := by
      intro W' h'
      rw [List.map_append, List.foldl_append, hrows]
      exact h'
    have HFIN := Aside0.mk hfin
    have HRL : Aside0 ((rows.getD b.toNat []).length + 1 ≤ 1000000000001) := ⟨by
      have h1 := preds_len (pre.map Subtype.val) (List.replicate l0.length []) 0 (fun r hr => by rw [List.eq_of_mem_replicate hr]; simp) (rows.getD b.toNat []) (by rw [hrows]; exact getD_mem _ _)
      rw [List.length_map] at h1
      have h2 := edgesL_length l0
      have h3 : l0.length * l0.length ≤ 1000000 * 1000000 := Nat.mul_le_mul hlen hlen
      omega⟩
    clear hfin hrows
    obtain ⟨hcell, hdim, hown, hbel⟩ := hI
    obtain ⟨g, cg, eg, hg0, hg1, cells, hgc⟩ := Kd.S_form hown (by omega)
    rw [hdim] at eg
    injection eg with e1 e2 e3
    subst e1
    subst e3
    have hgB := hgB _ rfl
    simp only at hgB
    have hbxW : w4.heap.size < W.heap.size := World.block_lt_of_cell? _ _ hcell
    obtain ⟨oki, c, hcl, hM, hcj, hoki, hH⟩ := Kd.S_lend (Kd.S_mono (ok' := fun k => k ≠ w4.heap.size ∧ k < W.heap.size) (Kd.S_bound hown) (fun k hk => ⟨hk.1, hk.2.2.1⟩)) [] b hb0 (by omega)
    obtain ⟨row, hrow⟩ : ∃ row, rows.getD b.toNat [] = row := ⟨_, rfl⟩
    rw [hrow] at hM HFIN HRL
    obtain ⟨v18, rfl, hR18⟩ := hM
    have hc18 := hcj 0 v18 rfl
    simp only [show (Kd.slice 3 (Kd.int .i64)).sz = 1 from rfl, Nat.mul_one, Nat.add_zero] at hc18
    obtain ⟨A18, c18, rfl⟩ := Kd.R_slice hR18
    have HH := Aside0.mk hH
    have HR18 := Aside0.mk hR18
    have HOKI := Aside0.mk hoki
    have HBEL := Aside0.mk hbel
    have HGC := Aside0.mk hgc
    clear hH hR18 hoki hbel hgc hcl hcj hown hrow
    gi_wp2
    refine wpIn_mono (Q := Exit.then (fun _ W' => KeepsFrom wL.heap.size W W' ∧ EdKp wL.heap.size (PrM (some ⟨g, 0, none⟩) l0.length) W W' ∧ PrIn w w4.heap.size l0.length cR (some ⟨g, 0, none⟩) (rows.set b.toNat (row ++ [a])) W') (fun _ _ _ => False)) ?reg ?post
    case post =>
      intro e a' W' h'
      cases e <;> first | exact h'.elim | exact ⟨h'.1, h'.2.1, HFIN.out _ h'.2.2⟩
    case reg =>
      refine wpIn_draw_plain (by kernel_rfl) (by kernel_rfl) (fun ⟨_, _, h'⟩ => h') (wpAny_of_last (S := fun w' => w'.cell? ⟨w4.heap.size, 0, none⟩ = some (.slice (some ⟨g, 0, none⟩) l0.length cR) ∧ w'.cell? ⟨g, b.toNat, none⟩ = some (.slice A18 row.length c18)) (ds := [10]) _ _ _ _ ?_)
      have hHeld : (fun w' : World => w'.cell? ⟨w4.heap.size, 0, none⟩ = some (.slice (some ⟨g, 0, none⟩) l0.length cR) ∧ w'.cell? ⟨g, b.toNat, none⟩ = some (.slice A18 row.length c18)) W.drew := ⟨hcell, hc18⟩
      have H1 := Aside0.mk (Kd.H_drew HH.out)
      have R1 := Aside0.mk (Kd.R_drew HR18.out)
      have B1 := Aside0.mk (below_drew HBEL.out)
      have E1 : Aside0 (∀ W7, W.drew.grownBy W7 (Value.slice A18 row.length c18).ownBlock → W.grownBy W7 (Value.slice A18 row.length c18).ownBlock) := ⟨fun W7 h => ⟨h.os, h.tape, h.output, h.size, h.block⟩⟩
      have S1 : Aside0 (W.drew.heap.size = W.heap.size) := ⟨rfl⟩
      obtain ⟨W1, hW1⟩ : ∃ W1, W.drew = W1 := ⟨_, rfl⟩
      rw [hW1] at hHeld H1 R1 B1 E1 S1 ⊢
      clear hW1
      have hHeld1 := Aside0.mk hHeld
      show wpAnyLast Try.prog .any _ _ _ _ 11 #[false, false, false, false, false, false, false, false, false, false, false] _ _
      refine take_ (i := 0) (N := some 13) (v := ?_) (a' := ?_) #[true, false, false, false, false, false, false, false, false, false, false] rfl rfl (by kernel_rfl) (fun _ _ _ h => h) (Or.inl ⟨by rfl, ?_⟩) (by assumption) ?_ ?_
      rotate_left
      · rintro w' ⟨s0, s1⟩
        go_simp
        with_reducible rfl
      rotate_left
      · simp only [Act.put, List.setIfInBounds_toArray, List.set_cons_zero, List.set_cons_succ]
        rfl
      refine pure_ (i := 1) (N := some 14) (v := ?_) (a' := ?_) #[true, true, false, false, false, false, false, false, false, false, false] rfl rfl (by kernel_rfl) (fun _ _ _ h => h) (Or.inl ⟨by rfl, ?_⟩) ?_ ?_
      rotate_left
      · intro w'
        go_simp
        with_reducible rfl
      rotate_left
      · simp only [Act.put, List.setIfInBounds_toArray, List.set_cons_zero, List.set_cons_succ]
        rfl
      refine take_ (i := 2) (N := some 15) (v := ?_) (a' := ?_) #[true, true, true, false, false, false, false, false, false, false, false] rfl rfl (by kernel_rfl) (fun _ _ _ h => h) (Or.inl ⟨by rfl, ?_⟩) (by assumption) ?_ ?_
      rotate_left
      · rintro w' ⟨s0, s1⟩
        go_simp
        with_reducible rfl
      rotate_left
      · simp only [Act.put, List.setIfInBounds_toArray, List.set_cons_zero, List.set_cons_succ]
        rfl
      refine pure_ (i := 3) (N := some 16) (v := ?_) (a' := ?_) #[true, true, true, true, false, false, false, false, false, false, false] rfl rfl (by kernel_rfl) (fun _ _ _ h => h) (Or.inl ⟨by rfl, ?_⟩) ?_ ?_
      rotate_left
      · intro w'
        go_simp
        with_reducible rfl
      rotate_left
      · simp only [Act.put, List.setIfInBounds_toArray, List.set_cons_zero, List.set_cons_succ]
        rfl
      refine pure_ (i := 4) (N := some 17) (v := ?_) (a' := ?_) #[true, true, true, true, true, false, false, false, false, false, false] rfl rfl (by kernel_rfl) (fun _ _ _ h => h) (Or.inl ⟨by rfl, ?_⟩) ?_ ?_
      rotate_left
      · intro w'
        go_simp
        with_reducible rfl
      rotate_left
      · simp only [Act.put, List.setIfInBounds_toArray, List.set_cons_zero, List.set_cons_succ]
        rfl
      refine take_ (i := 5) (N := some 18) (v := ?_) (a' := ?_) #[true, true, true, true, true, true, false, false, false, false, false] rfl rfl (by kernel_rfl) (fun _ _ _ h => h) (Or.inl ⟨by rfl, ?_⟩) (by assumption) ?_ ?_
      rotate_left
      · rintro w' ⟨s0, s1⟩
        go_simp
        with_reducible rfl
      rotate_left
      · simp only [Act.put, List.setIfInBounds_toArray, List.set_cons_zero, List.set_cons_succ]
        rfl
      refine pure_ (i := 6) (N := some 19) (v := ?_) (a' := ?_) #[true, true, true, true, true, true, true, false, false, false, false] rfl rfl (by kernel_rfl) (fun _ _ _ h => h) (Or.inl ⟨by rfl, ?_⟩) ?_ ?_
      rotate_left
      · intro w'
        go_simp
        with_reducible rfl
      rotate_left
      · simp only [Act.put, List.setIfInBounds_toArray, List.set_cons_zero, List.set_cons_succ]
        rfl
      refine one_ (i := 7) (N := some 20) #[true, true, true, true, true, true, true, true, false, false, false] rfl rfl (by kernel_rfl) (by decide) (fun K hK => ?_)
      refine value_ (w1 := ?_) (v := ?_) (by rfl) rfl ?_ ?_
      rotate_left 2
      · go_simp
        constructor
        · rfl
        · rfl
      refine hK.out _ _ ⟨cell_alloc' _ hHeld.1, cell_alloc' _ hHeld.2⟩ ?_
      intro hHeld
      clear hK K
      refine norm_ (a' := ?_) ?_ ?_
      rotate_left
      · show Act.put _ (some 20) _ = _
        simp only [Act.put, List.setIfInBounds_toArray, List.set_cons_zero, List.set_cons_succ]
        rfl
      refine one_ (i := 8) (N := some 21) #[true, true, true, true, true, true, true, true, true, false, false] rfl rfl (by kernel_rfl) (by decide) (fun K hK => ?_)
      refine Kd.R_append_step (Kd.int .i64) (w0 := w) (W := W1) w.heap.size (by rfl) (.tmp 18) (.tmp 20) 23 3 (.int .i64 0) 8 rfl Try.underlying23 info3 rfl (by decide) (by omega) (.slice A18 row.length c18) row a [.int .i64 a] (fun k => oki k ∨ W.heap.size ≤ k) (fun _ => False) rfl rfl ?aP (fun _ hk => hk.elim) ?aF ?aO ?aB ?aS ?aL ?_
      case aP => rfl
      case aF => intro k hk; exact .inr (S1.out ▸ hk)
      case aO => exact Kd.R_mono R1.out (fun _ hk => .inl hk)
      case aB => exact B1.out
      case aS => exact B1.out.size
      case aL => exact Nat.le_trans (Nat.mul_le_mul_right 8 (show row.length + 1 ≤ 1000000000001 from HRL.out)) (by omega)
      intro v21 W7 hR7 hb7 hg7 hat7
      have hA : ∀ k, (Value.slice A18 row.length c18).ownBlock = some k → oki k := R1.out.1
      refine hK.out _ _ ⟨(World.cell?_of_block (hg7.block _ (by have := World.block_lt_of_cell? _ _ hHeld1.out.1; exact this) (fun h => ((HOKI.out _ (hA _ h.symm)).1.1 rfl)))).trans hHeld1.out.1, (World.cell?_of_block (hg7.block _ (by have := World.block_lt_of_cell? _ _ hHeld1.out.2; exact this) (fun h => ((HOKI.out _ (hA _ h.symm)).2 rfl)))).trans hHeld1.out.2⟩ ?_
      intro hHeld
      clear hK K
      obtain ⟨A21, c21, rfl⟩ := Kd.R_slice hR7
      refine norm_ (a' := ?_) ?_ ?_
      rotate_left
      · show Act.put _ (some 21) _ = _
        simp only [Act.put, List.setIfInBounds_toArray, List.set_cons_zero, List.set_cons_succ]
        rfl
      refine pure_ (i := 9) (N := some 22) (v := ?_) (a' := ?_) #[true, true, true, true, true, true, true, true, true, true, false] rfl rfl (by kernel_rfl) (fun _ _ _ h => h) (Or.inl ⟨by rfl, ?_⟩) ?_ ?_
      rotate_left
      · intro w'
        go_simp
        with_reducible rfl
      rotate_left
      · simp only [Act.put, List.setIfInBounds_toArray, List.set_cons_zero, List.set_cons_succ]
        rfl
      refine last_ (i := 10) (N := none) #[true, true, true, true, true, true, true, true, true, true, true] rfl rfl (by kernel_rfl) (by decide) (fun K hK => ?_)
      have hg7W := E1.out _ hg7
      have hneg : (Value.slice A18 row.length c18).ownBlock ≠ some g := fun h => (HOKI.out g (hA g h)).2 rfl
      have h7g : W7.heap[g]? = W.heap[g]? := hg7W.block g hg1 (fun h => hneg h.symm)
      have hcg := hHeld.2
      have hfg : W7.frozen? ⟨g, b.toNat, none⟩ = false := by simp [World.frozen?, h7g, HGC.out]
      have hround := PrM.round (B := wL.heap.size) (b := b.toNat) (n := l0.length) (v21 := .slice A21 (row ++ [a]).length c21) HGC.out (by omega) (by omega) hc18 hneg (fun k hk => ⟨_, _, (Kd.R_typed HR18.out k hk).choose_spec⟩) hg7W (hat7.imp id (fun ⟨k, h1, h2⟩ => ⟨k, h1, by have := S1.out; omega⟩))
      obtain ⟨hS8, hg8⟩ := Kd.S_seg (okg := fun k => W.heap.size ≤ k) (ok := fun k => k ≠ w4.heap.size) (okp := fun k => oki k ∨ W.heap.size ≤ k) (seg := [.slice A21 (row ++ [a]).length c21]) (j := 0) (x' := row ++ [a]) (Kd.H_mono (Kd.H_grown H1.out hg7 hA) (fun k hk => ⟨hk.1, Nat.not_le.2 hk.2⟩)) hb0 hb1 (Nat.le_refl 1) ⟨_, rfl, hR7⟩ (fun k hk => hk) (fun k hk => ⟨by omega, by omega⟩)
      simp only [show (Kd.slice 3 (Kd.int .i64)).sz = 1 from rfl, Nat.mul_one, Nat.add_zero, World.setCells] at hS8
      have hin : PrIn w w4.heap.size l0.length cR (some ⟨g, 0, none⟩) (rows.set b.toNat (row ++ [a])) (W7.setCell ⟨g, b.toNat, none⟩ (.slice A21 (row ++ [a]).length c21)) := by
        refine ⟨?_, by simp [hdim], hS8, ?_⟩
        · exact (World.cell?_setCell_other _ _ _ _ (fun h => by injection h with h1 _ _; omega)).trans hHeld.1
        · exact hb7.grown (grownBy_setCell_b W7 g b.toNat _) hb7.size (fun k e => by cases e; exact hg0)
      refine skip_ (w1 := W7.setCell ⟨g, b.toNat, none⟩ (.slice A21 (row ++ [a]).length c21)) (by rfl) rfl ?_ ?_
      · go_simp
      · refine hK.out _ _ ?_
        refine done_ (by kernel_rfl) ?_
        exact ⟨hround.1, hround.2, hin⟩
  case done =>
    rintro D ys W hD hys hI hK
    obtain ⟨hcell, hdim, hown, hbel⟩ := hI
    gi_wp2
    refine ⟨by simp, .inl ⟨_, _, rfl, run_takeDeferred hK, ?_⟩⟩
    refine ⟨_, results_tmp rfl _ _ _, _, rfl, ?_, ?_⟩
    · have hr : List.foldl predStep (List.replicate l0.length []) (ys.map Subtype.val) = r := by rw [hys]; exact HE.out
      rw [hr] at hown
      exact Kd.S_mono (S_nocells hown (grownBy_putObj' _ D _) (fun r e => by cases e; exact ⟨_, hK, rfl⟩)) (fun _ _ => trivial)
    · exact hbel.grown (grownBy_putObj' _ D _) hbel.size (fun k e => by cases e; have := HB4.out.size; omega)
  case stop =>
    rintro D c pre W _ _ h _
    exact h.elim
end Go.Proofs.Ytnmeomdjhjgnfaa.X
end
section
set_option linter.unusedSimpArgs false
namespace Go.Proofs.Ytnmeomdjhjgnfaa.X
open Go.RowKit Go.Shelf Go.Proofs.YtnmeomdjhjgnfaaW.PrintWords Go.Proofs.YtnmeomdjhjgnfaaW.PrintLast Go.Proofs.YtnmeomdjhjgnfaaW.PrintMore
set_option linter.unusedVariables false
attribute [local go_sem] Oper.semAt_some

/-- What a box's row owns. -/
def BxM (bx : Nat) (W : World) (k : Nat) : Prop := ∃ v, W.cell? ⟨bx, 0, none⟩ = some v ∧ v.ownBlock = some k
theorem BxM.told {bx B : Nat} (h : bx < B) : Told B (BxM bx) := by
  rintro W W' hb k ⟨v, hc, hk⟩
  exact ⟨v, (World.cell?_of_block (a := ⟨bx, 0, none⟩) (hb _ h)).symm.trans hc, hk⟩
theorem KeepsFrom.of_below {B : Nat} {W W' : World} (h : Below W.heap.size W W') : KeepsFrom B W W' :=
  ⟨h.size, fun k o _ hk _ => (h.block k (Array.getElem?_eq_some_iff.1 hk).1).trans hk⟩
theorem EdKp.of_below {B : Nat} {M : World → Nat → Prop} {W W' : World} (hM : Told B M) (hB : B ≤ W.heap.size) (h : Below W.heap.size W W') : EdKp B M W W' :=
  ⟨h.size, fun k c t f _ _ hk => (h.block k (Array.getElem?_eq_some_iff.1 hk).1).trans hk, fun k hk => .inl (hM _ _ (fun b hb => h.block b (by omega)) k hk)⟩
/-- A round that appends to the box's row. -/
theorem BxM.round {B bx : Nat} {W W7 : World} {v18 v21 : Value} {e : TypeId} {cells : Array Value} (hgc : W.heap[bx]? = some (.cells cells e (0, 0))) (hB : bx < B)
    (hc : W.cell? ⟨bx, 0, none⟩ = some v18) (hne : v18.ownBlock ≠ some bx) (ht : ∀ k, v18.ownBlock = some k → ∃ c q, W.heap[k]? = some (.cells c q (0, 0)))
    (hg7 : W.grownBy W7 v18.ownBlock) (hat : v21.ownBlock = v18.ownBlock ∨ ∃ k, v21.ownBlock = some k ∧ W.heap.size ≤ k) :
    KeepsFrom B W (W7.setCell ⟨bx, 0, none⟩ v21) ∧ EdKp B (BxM bx) W (W7.setCell ⟨bx, 0, none⟩ v21) := by
  have h := PrM.round (b := 0) (n := 1) hgc hB (by omega) hc hne ht hg7 hat
  refine ⟨h.1, h.2.size, fun k c t f hBk hM hk => h.2.same k c t f hBk (fun h2 => hM ?_) hk, fun k hk => ?_⟩
  · obtain ⟨ad, i, v, ead, hi, hv, hk⟩ := h2
    injection ead with ead
    subst ead
    obtain rfl : i = 0 := by omega
    exact ⟨v, hv, hk⟩
  · obtain ⟨v, hv, hk⟩ := hk
    refine (h.2.mine k ⟨_, 0, v, rfl, by omega, hv, hk⟩).imp (fun h2 => ?_) id
    obtain ⟨ad, i, v, ead, hi, hv, hk⟩ := h2
    injection ead with ead
    subst ead
    obtain rfl : i = 0 := by omega
    exact ⟨v, hv, hk⟩
theorem R_nocells {α : Type} {d : Kd α} {e base : Nat} {ok : Nat → Prop} {W W' : World} {v : Value} {xs : List α} {row : Option Nat} (h : d.R e W base ok v xs) (hg : W.grownBy W' row)
    (hr : ∀ r, row = some r → ∃ o : Obj, W.heap[r]? = some o ∧ o.isCells = false) : d.R e W' base ok v xs := by
  refine Kd.R_mono (Kd.R_step (Kd.R_bound h) (fun k hk hlt => hg.block k hlt (fun he => ?_))) (fun _ hk => hk.1)
  obtain ⟨_, _, _, q, _, cells, hc⟩ := hk
  obtain ⟨o, ho, hn⟩ := hr k he.symm
  rw [hc] at ho; cases ho; cases hn

theorem heap_box {W : World} {B : Nat} {v : Value} {t : TypeId} (h : W.heap[B]? = some (.cells #[v] t (0, 0))) (u : Value) : (W.setCell ⟨B, 0, none⟩ u).heap[B]? = some (.cells #[u] t (0, 0)) := by
  simp [World.setCell, Array.getElem?_modify, h]
def crB (rows preds : List (List Int)) (e : Int × Int) : Bool := decide (1 < (rows.getD e.1.toNat []).length) && decide (1 < (preds.getD e.2.toNat []).length)
def crL (rows preds : List (List Int)) (es : List (Int × Int)) : List S73 := (es.filter (crB rows preds)).map fun e => ⟨e.1, e.2⟩
structure CrIn (w : World) (b3 : Nat) (n c9 c11 : Nat) (A9 A11 : Option Addr) (rows preds : List (List Int)) (bl : Nat) (out : List S73) (W : World) : Prop where
  cell3 : W.cell? ⟨b3, 0, none⟩ = some (.slice A9 n c9)
  cell4 : W.cell? ⟨b3 + 1, 0, none⟩ = some (.slice A11 n c11)
  own3 : Kd.S (Kd.slice 3 (Kd.int .i64)) 23 W w.heap.size (fun k => k < b3) (.slice A9 n c9) rows
  own4 : Kd.S (Kd.slice 3 (Kd.int .i64)) 23 W w.heap.size (fun k => k < b3) (.slice A11 n c11) preds
  out5 : ∃ v, W.heap[b3 + 2]? = some (.cells #[v] 74 (0, 0)) ∧ Kd.R k73 73 W w.heap.size (fun k => bl ≤ k) v out
  below : Below w.heap.size w W
  far : bl ≤ W.heap.size
theorem CrIn.kept {w : World} {b3 n c9 c11 bl : Nat} {A9 A11 : Option Addr} {rows preds : List (List Int)} {out : List S73} {W W' : World} {row : Option Nat} (h : CrIn w b3 n c9 c11 A9 A11 rows preds bl out W) (hg : W.grownBy W' row)
    (hr : ∀ r, row = some r → w.heap.size ≤ r ∧ ∃ o : Obj, W.heap[r]? = some o ∧ o.isCells = false) : CrIn w b3 n c9 c11 A9 A11 rows preds bl out W' := by
  obtain ⟨v, hv, hR⟩ := h.out5
  refine ⟨cell_kept h.cell3 hg (fun r e => (hr r e).2), cell_kept h.cell4 hg (fun r e => (hr r e).2), S_nocells h.own3 hg (fun r e => (hr r e).2), S_nocells h.own4 hg (fun r e => (hr r e).2), ⟨v, ?_, R_nocells hR hg (fun r e => (hr r e).2)⟩, h.below.grown hg h.below.size (fun k e => (hr k e).1), Nat.le_trans h.far hg.size⟩
  exact (grownBy_keeps_cells hg (fun r e => (hr r e).2) hv rfl).trans hv
theorem preds_fold_length (es : List (Int × Int)) : ∀ rows : List (List Int), (es.foldl predStep rows).length = rows.length := by
  induction es with
  | nil => intro rows; rfl
  | cons e es ih => intro rows; rw [List.foldl_cons, ih]; simp [predStep]
theorem predsL_length (g : List (List Int)) : (predsL g).length = g.length := by unfold predsL; rw [preds_fold_length]; simp
set_option maxHeartbeats 4000000 in
set_option maxRecDepth 100000 in
theorem graph_Critical.calls (A0 : Option Addr) (c0 : Nat) (l0 : List (List Int)) (r : List S73) (w : World) (hr0 : Kd.C (Kd.slice 3 (Kd.int .i64)) w A0 l0.length l0) (hc0 : l0.length ≤ c0) (h : graph_Critical.f l0 = some r) :
    Calls Try.prog 48 #[.slice A0 l0.length c0] w fun e w' => ∃ v0_ : Value, e = .returned (v0_) ∧ Kd.R k73 73 w' w.heap.size (fun _ => True) v0_ r ∧ Below w.heap.size w w' := by
  unfold graph_Critical.f at h
  split at h
  case isFalse => cases h
  rename_i hok
  injection h with h
  have hlen := (okG_len hok).1
  have HR := Aside0.mk hr0
  have HC0 := Aside0.mk hc0
  have HOK := Aside0.mk hok
  have HE := Aside0.mk h
  clear hr0 hc0 hok h
  refine (callsIn_wide (n := 6)).1 ?_
  refine callsIn_of_wp_marks Try.func48 rfl trivial ?_ rfl
  simp only [Try.ntmps48, List.size_toArray, List.length_cons, List.length_nil, Nat.reduceAdd, Nat.reduceSub, Array.replicate_succ, Array.replicate_zero, List.push_toArray, List.append_toArray, List.nil_append, List.cons_append]
  refine wpIn_seq (wpIn_wide.2 ?_)
  go_wp2
  refine wpIn_seq (wpIn_wide.2 ?_)
  go_wp2_with fail
  refine (graph_clean.calls (l0.length + 1) A0 c0 l0 (cleanL l0) _ HR.out HC0.out (clean_some l0 HOK.out)).mono ?_
  rintro e W2 ⟨v9, rfl, hS9, hB2⟩
  obtain ⟨A9, c9, rfl, _, _⟩ := Kd.S_reads hS9
  rw [cleanL_length] at hS9 ⊢
  have H9 := Aside0.mk hS9
  have HB2 := Aside0.mk hB2
  clear hS9 hB2
  go_wp2_with fail
  refine (graph_Preds.calls A0 c0 l0 (predsL l0) _ (Kd.C_below HR.out HB2.out) HC0.out (by unfold graph_Preds.f; rw [if_pos HOK.out])).mono ?_
  rintro e W4 ⟨v11, rfl, hS11, hB4⟩
  obtain ⟨A11, c11, rfl, _, _⟩ := Kd.S_reads hS11
  rw [predsL_length] at hS11 ⊢
  have H11 := Aside0.mk (Kd.S_lower hS11 HB2.out.size)
  have H92 := Aside0.mk (Kd.S_below H9.out hB4)
  have HB4 := Aside0.mk (below_step HB2.out hB4)
  clear hS11 hB4 H9
  go_wp2_with fail
  refine wpIn_seq (wpIn_wide.2 ?_)
  go_wp2
  refine wpIn_seq (wpIn_seq ?_)
  gi_wp2
  refine ⟨trivial, ?_⟩
  refine (callsIn_wide.2 (edges_calls A0 l0.length c0 _)).mono ?_
  rintro e w' ⟨rfl, rfl⟩
  gi_wp2
  have c3 := cell_new_c' W4 (.slice A9 l0.length c9) 22
  have c4 := cell_new_c' (W4.alloc (.cells #[.slice A9 l0.length c9] 22)) (.slice A11 l0.length c11) 22
  have c5 := World.alloc_heap_new ((W4.alloc (.cells #[.slice A9 l0.length c9] 22)).alloc (.cells #[.slice A11 l0.length c11] 22)) (.cells #[.slice none 0 0] 74)
  have c6 := cell_new_c' (((W4.alloc (.cells #[.slice A9 l0.length c9] 22)).alloc (.cells #[.slice A11 l0.length c11] 22)).alloc (.cells #[.slice none 0 0] 74)) (.slice A0 l0.length c0) 22
  have hB5 : Below W4.heap.size W4 ((((W4.alloc (.cells #[.slice A9 l0.length c9] 22)).alloc (.cells #[.slice A11 l0.length c11] 22)).alloc (.cells #[.slice none 0 0] 74)).alloc (.cells #[.slice A0 l0.length c0] 22)) := below_alloc (below_alloc (below_alloc (below_alloc (Below.refl _ _) _) _) _) _
  simp only [World.size_alloc] at c4 c5 c6
  obtain ⟨wL, hwL⟩ : ∃ wL, ((((W4.alloc (.cells #[.slice A9 l0.length c9] 22)).alloc (.cells #[.slice A11 l0.length c11] 22)).alloc (.cells #[.slice none 0 0] 74)).alloc (.cells #[.slice A0 l0.length c0] 22)) = wL := ⟨_, rfl⟩
  have hsz : wL.heap.size = W4.heap.size + 4 := by rw [← hwL]; simp
  have HI0 : Aside0 (CrIn w W4.heap.size l0.length c9 c11 A9 A11 (cleanL l0) (predsL l0) wL.heap.size [] wL) := ⟨by
    have k5 : wL.heap[W4.heap.size + 2]? = some (.cells #[.slice none 0 0] 74 (0, 0)) := by
      rw [← hwL]
      exact (below_alloc (Below.refl _ _) _ : Below _ _ _).block _ (by simp) |>.trans c5
    refine ⟨?_, ?_, Kd.S_below (Kd.S_mono (Kd.S_bound H92.out) (fun k hk => hk.2.2.1)) ?_, Kd.S_below (Kd.S_mono (Kd.S_bound H11.out) (fun k hk => hk.2.2.1)) ?_, ⟨_, k5, Kd.R_nil _ _ _ _ _⟩, ?_, Nat.le_refl _⟩
    · rw [← hwL]; exact cell_alloc' _ (cell_alloc' _ (cell_alloc' _ c3.1))
    · rw [← hwL]; exact cell_alloc' _ (cell_alloc' _ c4.1)
    · rw [← hwL]; exact hB5
    · rw [← hwL]; exact hB5
    · rw [← hwL]; exact HB4.out.trans (hB5.mono HB4.out.size)⟩
  have hMW : ∀ k, BxM (W4.heap.size + 2) wL k → k < wL.heap.size := by
    rintro k ⟨v, hv, hk⟩
    obtain ⟨v2, h2, h3⟩ := HI0.out.out5
    have h4 := (cell_of_box' h2).1
    rw [h4] at hv
    injection hv with hv
    subst hv
    exact Kd.R_lt h3 k hk
  have hMd : Told wL.heap.size (BxM (W4.heap.size + 2)) := BxM.told (by omega)
  rw [hwL] at c6 hB5 ⊢
  refine wpIn_rangeFunc_ownG rfl (by omega) (gf := 104) (lb := #[.pointer (some ⟨W4.heap.size + 1 + 1 + 1, 0, none⟩)]) rfl trivial (enters_of Try.func104 (by kernel_rfl) rfl)
    (edges_stops 5 (by omega) (W4.heap.size + 1 + 1 + 1) A0 c0 l0 HOK.out (BxM (W4.heap.size + 2)) wL hMd hMW (Kd.C_below HR.out (HB4.out.trans (hB5.mono HB4.out.size))) HC0.out c6.1) EdKp.trans (EdKp.put hMd) (Below.refl _ _) (fun _ => rfl)
    (fun pre W => CrIn w W4.heap.size l0.length c9 c11 A9 A11 (cleanL l0) (predsL l0) wL.heap.size (crL (cleanL l0) (predsL l0) (pre.map Subtype.val)) W)
    (fun _ _ _ => False)
    (fun s A B row hs hg hr => hs.kept hg (fun r e => ⟨by have := (hr r e).1; have := HB4.out.size; omega, (hr r e).2⟩))
    (fun _ _ _ _ _ hs _ _ => hs)
    HI0.out
    (fun x => { tmps := #[Value.slice A0 l0.length c0, undef, Value.slice none 0 0,
          Value.pointer (some { block := W4.heap.size, off := 0 }),
          Value.pointer (some { block := W4.heap.size + 1, off := 0 }),
          Value.pointer (some { block := W4.heap.size + 1 + 1, off := 0 }), .int .i64 x.1.1, .int .i64 x.1.2, Value.slice A0 l0.length c0,
          Value.slice A9 l0.length c9, Value.slice A0 l0.length c0, Value.slice A11 l0.length c11,
          Value.slice A0 l0.length c0,
          Value.func (Fn.func 104) #[] #[Value.pointer (some { block := W4.heap.size + 1 + 1 + 1, off := 0 })], .int .i64 x.1.1, .int .i64 x.1.2,
          undef, undef, undef, undef, undef, undef, undef, undef, undef, undef, undef, undef, undef,
          undef, undef, undef, undef, undef, undef, undef, undef], defers := [] }) ?assign ?body ?done ?stop
  case assign =>
    intro l x W K hK
    simp only [edEnc]
    gi_wp2
    exact hK
  case body =>
    rintro l pre ⟨⟨a, b⟩, ha0, ha1, hb0, hb1⟩ W hI hlt
    clear hMd hMW hB5 c3 c4 c5 c6 HI0 hwL H11 H92
    simp only at ha0 ha1 hb0 hb1
    obtain ⟨out, hout⟩ : ∃ out, crL (cleanL l0) (predsL l0) (pre.map Subtype.val) = out := ⟨_, rfl⟩
    rw [hout] at hI
    have HOL : Aside0 (out.length ≤ 1000000000000) := ⟨by
      have h1 : out.length ≤ pre.length := by
        rw [← hout]; unfold crL; rw [List.length_map]; exact Nat.le_trans (List.length_filter_le _ _) (by simp)
      have h2 := edgesL_length l0
      have h3 : l0.length * l0.length ≤ 1000000 * 1000000 := Nat.mul_le_mul hlen hlen
      omega⟩
    have hfin : ∀ W', CrIn w W4.heap.size l0.length c9 c11 A9 A11 (cleanL l0) (predsL l0) wL.heap.size (if crB (cleanL l0) (predsL l0) (a, b) = true then out ++ [⟨a, b⟩] else out) W' →
        CrIn w W4.heap.size l0.length c9 c11 A9 A11 (cleanL l0) (predsL l0) wL.heap.size (crL (cleanL l0) (predsL l0) ((pre ++ [(⟨(a, b), by omega⟩ : Ed l0.length)]).map Subtype.val)) W' := by
      intro W' h'
      have e : crL (cleanL l0) (predsL l0) ((pre ++ [(⟨(a, b), by omega⟩ : Ed l0.length)]).map Subtype.val) = if crB (cleanL l0) (predsL l0) (a, b) = true then out ++ [⟨a, b⟩] else out := by
        rw [List.map_append, ← hout]
        unfold crL
        rw [List.filter_append, List.map_append]
        simp only [List.map_cons, List.map_nil, List.filter_cons, List.filter_nil]
        split <;> simp
      rw [e]
      exact h'
    have HFIN := Aside0.mk hfin
    have HIN := Aside0.mk hI
    clear hfin hout
    obtain ⟨hcell3, hcell4, hown3, hown4, ⟨v, h5, hRv⟩, hbel, hfar⟩ := hI
    obtain ⟨i, rfl⟩ := Int.eq_ofNat_of_zero_le ha0
    obtain ⟨j, rfl⟩ := Int.eq_ofNat_of_zero_le hb0
    obtain ⟨ad3, _, _, ear, _⟩ := at_L1 (Kd.S_reads' hown3).2.2 (i : Int) (by omega) (by have := cleanL_length l0; omega)
    subst ear
    obtain ⟨ad4, _, _, ear, _⟩ := at_L1 (Kd.S_reads' hown4).2.2 (j : Int) (by omega) (by have := predsL_length l0; omega)
    subst ear
    obtain ⟨Ar3, cr3, hx3, _⟩ := row_own (Kd.S_mono (ok' := fun _ => True) hown3 (fun _ _ => trivial)) i (by omega)
    obtain ⟨Ar4, cr4, hx4, _⟩ := row_own (Kd.S_mono (ok' := fun _ => True) hown4 (fun _ _ => trivial)) j (by omega)
    obtain ⟨hc5, hf5⟩ := cell_of_box' h5
    obtain ⟨Av, cv, rfl⟩ := Kd.R_slice hRv
    have HRv := Aside0.mk hRv
    have HBEL := Aside0.mk hbel
    have H5 := Aside0.mk h5
    have HO3 := Aside0.mk hown3
    have HO4 := Aside0.mk hown4
    clear hRv hbel h5 hown3 hown4
    obtain ⟨n3, hn3⟩ : ∃ n3, (rd_L1 (cleanL l0) i).length = n3 := ⟨_, rfl⟩
    obtain ⟨n4, hn4⟩ : ∃ n4, (rd_L1 (predsL l0) j).length = n4 := ⟨_, rfl⟩
    rw [hn3] at hx3
    rw [hn4] at hx4
    have HCR : Aside0 (crB (cleanL l0) (predsL l0) ((i : Int), (j : Int)) = (decide (1 < n3) && decide (1 < n4))) := ⟨by
      rw [← hn3, ← hn4]; rfl⟩
    clear hn3 hn4
    by_cases h3 : 1 < n3
    · have k3 : decide ((1 : Int) < (n3 : Int)) = true := decide_eq_true (by omega)
      by_cases h4 : 1 < n4
      · have k4 : decide ((1 : Int) < (n4 : Int)) = true := decide_eq_true (by omega)
        refine wpIn_block ?_
        refine wpIn_seq (wpIn_list_plain (by kernel_rfl) (fun ⟨_, _, h'⟩ => h') ?_)
        go_wp2
        refine wpIn_cond_true rfl ?_
        refine wpIn_list_plain (by kernel_rfl) (fun ⟨_, _, h'⟩ => h') ?_
        go_wp2_with (first | ((with_reducible refine gate_builtin (b := .append) (xs := #[.tmp 30, .tmp 34]) rfl ?_); at_builtin; refine Kd.R_append k73 (w0 := w) (W := W) w.heap.size rfl (.tmp 30) (.tmp 34) 74 73 (.agg #[(.int .i64 0), (.int .i64 0)]) 16 rfl Try.underlying74 info73 rfl (by decide) (by omega) (.slice Av out.length cv) out (⟨i, j⟩ : S73) [.int .i64 i, .int .i64 j] (fun k => wL.heap.size ≤ k) (fun _ => False) rfl rfl ?aP (fun _ hk => hk.elim) ?aF ?aO ?aB ?aS ?aL ?_; (case aP => exact k73_mkM _ _ _ (⟨i, j⟩ : S73)); (case aF => intro k hk; omega); (case aO => exact HRv.out); (case aB => exact HBEL.out); (case aS => exact HBEL.out.size); (case aL => have := HOL.out; omega); intro v35 W7 ho hb hg hat; obtain ⟨A35, n35, c35, rfl⟩ : ∃ A n c, v35 = .slice A n c := ⟨_, _, _, (Kd.R_slice ho).choose_spec.choose_spec⟩; have hA : ∀ k, (Value.slice Av out.length cv).ownBlock = some k → wL.heap.size ≤ k := HRv.out.1; have h57 := (hg.block (W4.heap.size + 2) (blk_lt H5.out) (fun h => by have := hA _ h.symm; omega)).trans H5.out; obtain ⟨hc57, hf57⟩ := cell_of_box' h57) | fail)
        have e : crB (cleanL l0) (predsL l0) ((i : Int), (j : Int)) = true := by rw [HCR.out]; simp [h3, h4]
        have hround := BxM.round (B := wL.heap.size) (bx := W4.heap.size + 2) (v21 := .slice A35 n35 c35) H5.out (by omega) hc5 (fun h => by have := hA _ h; omega) (fun k hk => ⟨_, _, (Kd.R_typed HRv.out k hk).choose_spec⟩) hg hat
        have hF := HFIN.out (W7.setCell ⟨W4.heap.size + 2, 0, none⟩ (.slice A35 n35 c35))
        rw [e, if_pos rfl] at hF
        have hg8 := grownBy_setCell_b W7 (W4.heap.size + 2) 0 (.slice A35 n35 c35)
        have hg78 : ∀ k, k < W4.heap.size + 2 → (W7.setCell ⟨W4.heap.size + 2, 0, none⟩ (.slice A35 n35 c35)).heap[k]? = W.heap[k]? := fun k hk =>
          (hg8.block k (by have := hg.size; omega) (by intro h; injection h with h; omega)).trans (hg.block k (by omega) (fun h => by have := hA _ h.symm; omega))
        refine ⟨hround.1, hround.2, hF ⟨(World.cell?_of_block (hg78 _ (by simp))).trans hcell3, (World.cell?_of_block (hg78 _ (by simp))).trans hcell4, Kd.S_step HO3.out (fun k hk _ => hg78 k (by omega)), Kd.S_step HO4.out (fun k hk _ => hg78 k (by omega)), ⟨.slice A35 n35 c35, ?_, ?_⟩, hb.grown hg8 hb.size (fun k e => by cases e; have := HB4.out.size; omega), by have := hg8.size; have := hg.size; omega⟩⟩
        · exact heap_box h57 _
        · exact Kd.R_mono (Kd.R_step (Kd.R_bound ho) (fun k hk hlt => hg8.block k hlt (fun h => by injection h with h; omega))) (fun _ hk => hk.1)
      · have k4 : decide ((1 : Int) < (n4 : Int)) = false := decide_eq_false (by omega)
        gi_wp2
        have e : crB (cleanL l0) (predsL l0) ((i : Int), (j : Int)) = false := by rw [HCR.out]; simp [h4]
        have hF := HFIN.out W
        rw [e] at hF
        exact ⟨KeepsFrom.refl _ _, EdKp.refl _ _ _, hF HIN.out⟩
    · have k3 : decide ((1 : Int) < (n3 : Int)) = false := decide_eq_false (by omega)
      gi_wp2
      have e : crB (cleanL l0) (predsL l0) ((i : Int), (j : Int)) = false := by rw [HCR.out]; simp [h3]
      have hF := HFIN.out W
      rw [e] at hF
      exact ⟨KeepsFrom.refl _ _, EdKp.refl _ _ _, hF HIN.out⟩
  case done =>
    rintro D ys W hD hys hI hK
    have hr : crL (cleanL l0) (predsL l0) (ys.map Subtype.val) = r := by rw [hys]; exact HE.out
    rw [hr] at hI
    obtain ⟨v, h5, hRv⟩ := hI.out5
    obtain ⟨hc5, hf5⟩ := cell_of_box' h5
    obtain ⟨Av, cv, rfl⟩ := Kd.R_slice hRv
    gi_wp2
    refine ⟨by simp, .inl ⟨_, _, rfl, run_takeDeferred hK, ?_⟩⟩
    refine ⟨_, results_tmp rfl _ _ _, _, rfl, ?_, ?_⟩
    · exact Kd.R_mono (R_nocells hRv (grownBy_putObj' _ D _) (fun r e => by cases e; exact ⟨_, hK, rfl⟩)) (fun _ _ => trivial)
    · exact hI.below.grown (grownBy_putObj' _ D _) hI.below.size (fun k e => by cases e; have := HB4.out.size; omega)
  case stop =>
    rintro D c pre W _ _ h _
    exact h.elim
end Go.Proofs.Ytnmeomdjhjgnfaa.X
/-! A range over graph.edges whose body appends to one boxed row: what stays, what a round does. -/
namespace Go.Proofs.Ytnmeomdjhjgnfaa.X
open Go.RowKit Go.Shelf Go.Proofs.YtnmeomdjhjgnfaaW.PrintWords Go.Proofs.YtnmeomdjhjgnfaaW.PrintLast Go.Proofs.YtnmeomdjhjgnfaaW.PrintMore
set_option linter.unusedVariables false
variable {α : Type} {d : Kd α} {e t : TypeId} {wL W W' W7 : World} {bx : Nat} {out : List α}

structure OutIn (wL : World) (bx : Nat) (d : Kd α) (e t : TypeId) (out : List α) (W : World) : Prop where
  stay : Below bx wL W
  box : ∃ v, W.heap[bx]? = some (.cells #[v] t (0, 0)) ∧ d.R e W wL.heap.size (fun _ => True) v out
  far : wL.heap.size ≤ W.heap.size
theorem OutIn.kept (h : OutIn wL bx d e t out W) {row : Option Nat} (hg : W.grownBy W' row) (hr : ∀ r, row = some r → wL.heap.size ≤ r ∧ ∃ o : Obj, W.heap[r]? = some o ∧ o.isCells = false) (hbx : bx < wL.heap.size) : OutIn wL bx d e t out W' := by
  obtain ⟨v, hv, hR⟩ := h.box
  refine ⟨h.stay.grown hg (by have := h.far; omega) (fun k e => by have := (hr k e).1; omega), ⟨v, ?_, R_nocells hR hg (fun r e => (hr r e).2)⟩, Nat.le_trans h.far hg.size⟩
  exact (grownBy_keeps_cells hg (fun r e => (hr r e).2) hv rfl).trans hv
theorem OutIn.call (h : OutIn wL bx d e t out W) (hb : Below W.heap.size W W') (hbx : bx < wL.heap.size) : KeepsFrom wL.heap.size W W' ∧ EdKp wL.heap.size (BxM bx) W W' ∧ OutIn wL bx d e t out W' := by
  obtain ⟨v, hv, hR⟩ := h.box
  have hf := h.far
  refine ⟨KeepsFrom.of_below hb, EdKp.of_below (BxM.told hbx) h.far hb, h.stay.trans (hb.mono (by omega)), ⟨v, ?_, Kd.R_below hR hb⟩, Nat.le_trans hf hb.size⟩
  exact (hb.block bx (by omega)).trans hv
theorem OutIn.append (h : OutIn wL bx d e t out W) (hbx : bx < wL.heap.size) {v18 v21 : Value} {x : α} (hv : W.heap[bx]? = some (.cells #[v18] t (0, 0))) (hR : d.R e W wL.heap.size (fun _ => True) v18 out)
    (hR7 : d.R e W7 wL.heap.size (fun _ => True) v21 (out ++ [x])) (hg : W.grownBy W7 v18.ownBlock) (hat : v21.ownBlock = v18.ownBlock ∨ ∃ k, v21.ownBlock = some k ∧ W.heap.size ≤ k) :
    KeepsFrom wL.heap.size W (W7.setCell ⟨bx, 0, none⟩ v21) ∧ EdKp wL.heap.size (BxM bx) W (W7.setCell ⟨bx, 0, none⟩ v21) ∧ OutIn wL bx d e t (out ++ [x]) (W7.setCell ⟨bx, 0, none⟩ v21) := by
  have hf := h.far
  have hA : ∀ k, v18.ownBlock = some k → wL.heap.size ≤ k := Kd.R_base hR
  have hround := BxM.round (B := wL.heap.size) (v21 := v21) hv hbx (cell_of_box' hv).1 (fun h => by have := hA _ h; omega) (fun k hk => ⟨_, _, (Kd.R_typed hR k hk).choose_spec⟩) hg hat
  have hg8 := grownBy_setCell_b W7 bx 0 v21
  have h57 := (hg.block bx (blk_lt hv) (fun h => by have := hA _ h.symm; omega)).trans hv
  have hs := hg.size
  have hs8 := hg8.size
  refine ⟨hround.1, hround.2, ?_, ⟨v21, heap_box h57 _, Kd.R_mono (Kd.R_step (Kd.R_bound hR7) (fun k hk hlt => hg8.block k hlt (fun h => by injection h with h; have := hk.2.1; omega))) (fun _ _ => trivial)⟩, by omega⟩
  exact (h.stay.grown hg (by omega) (fun k e => by have := hA k e; omega)).grown hg8 (by omega) (fun k e => by injection e with e; omega)
/-- The box as the loop begins. -/
theorem OutIn.start (hv : wL.heap[bx]? = some (.cells #[.slice none 0 0] t (0, 0))) : OutIn wL bx d e t [] wL := ⟨Below.refl _ _, ⟨_, hv, Kd.R_nil _ _ _ _ _⟩, Nat.le_refl _⟩
theorem OutIn.names (h : OutIn wL bx d e t out wL) : ∀ k, BxM bx wL k → k < wL.heap.size := by
  rintro k ⟨v, hv, hk⟩
  obtain ⟨v2, h2, h3⟩ := h.box
  rw [(cell_of_box' h2).1] at hv
  injection hv with hv
  subst hv
  exact Kd.R_lt h3 k hk
end Go.Proofs.Ytnmeomdjhjgnfaa.X
end
section
set_option linter.unusedSimpArgs false
namespace Go.Proofs.Ytnmeomdjhjgnfaa.X
open Go.RowKit Go.Proofs.YtnmeomdjhjgnfaaW.PrintWords Go.Proofs.YtnmeomdjhjgnfaaW.PrintLast Go.Proofs.YtnmeomdjhjgnfaaW.PrintMore
set_option linter.unusedVariables false

theorem cell_new1 (W : World) (v : Value) (t : TypeId) : (W.alloc (.cells #[v] t)).cell? ⟨W.heap.size, 0, none⟩ = some v :=
  Go.Proofs.YtnmeomdjhjgnfaaW.PrintWords.blk_cell (heap_alloc_new W (.cells #[v] t)) 0

set_option maxHeartbeats 1000000 in
/-- The closure 'is': whether a number is one of the captured row's places. -/
theorem dom_is (g : Nat) (A0 : Option Addr) (c0 : Nat) (l0 : List Int) (x : Int) (w : World) (hc : w.cell? ⟨g, 0, none⟩ = some (.slice A0 l0.length c0)) :
    Calls Try.prog 74 #[.int .i64 x, .pointer (some ⟨g, 0, none⟩)] w fun e w' => e = .returned (.bool (isB l0 x)) ∧ w = w' := by
  by_cases h0 : 0 ≤ x
  · by_cases h1 : x < l0.length
    · have e1 : isB l0 x = true := by simp [isB, h0, h1]
      rw [e1]
      go_enter Try.func74, Try.ntmps74
      go_wp2
      go_ret
      exact ⟨rfl, rfl⟩
    · have e1 : isB l0 x = false := by simp [isB, h1]
      rw [e1]
      have h2 : decide (x < (l0.length : Int)) = false := by simpa using h1
      go_enter Try.func74, Try.ntmps74
      go_wp2
      go_ret
      exact ⟨by first | rfl | simp_all, rfl⟩
  · have e1 : isB l0 x = false := by simp [isB, h0]
    rw [e1]
    have h2 : decide (0 ≤ x) = false := by simpa using h0
    go_enter Try.func74, Try.ntmps74
    go_wp2
    go_ret
    exact ⟨by first | rfl | simp_all, rfl⟩
theorem dom_yes (g : Nat) (A0 : Option Addr) (c0 : Nat) (l0 : List Int) (x : Int) (w : World) (hc : w.cell? ⟨g, 0, none⟩ = some (.slice A0 l0.length c0)) (hx : isB l0 x = true) :
    Calls Try.prog 74 #[.int .i64 x, .pointer (some ⟨g, 0, none⟩)] w fun e w' => e = .returned (.bool true) ∧ w = w' := hx ▸ dom_is g A0 c0 l0 x w hc
theorem dom_no (g : Nat) (A0 : Option Addr) (c0 : Nat) (l0 : List Int) (x : Int) (w : World) (hc : w.cell? ⟨g, 0, none⟩ = some (.slice A0 l0.length c0)) (hx : isB l0 x = false) :
    Calls Try.prog 74 #[.int .i64 x, .pointer (some ⟨g, 0, none⟩)] w fun e w' => e = .returned (.bool false) ∧ w = w' := hx ▸ dom_is g A0 c0 l0 x w hc

set_option maxHeartbeats 4000000 in
set_option maxRecDepth 100000 in
theorem graph_Dominates.calls (A0 : Option Addr) (c0 : Nat) (l0 : List Int) (a1 a2 : Int) (r : Bool) (w : World) (hr0 : Kd.C (Kd.int .i64) w A0 l0.length l0) (hc0 : l0.length ≤ c0) (h : graph_Dominates.f l0 a1 a2 = some r) :
    Calls Try.prog 32 #[.slice A0 l0.length c0, .int .i64 a1, .int .i64 a2] w fun e w' => e = .returned (.bool r) ∧ Below w.heap.size w w' := by
  have HR0 := Aside0.mk hr0
  clear hr0 hc0
  have hlen : l0.length ≤ 1000000 := by
    by_cases hl : l0.length ≤ 1000000
    · exact hl
    · simp [graph_Dominates.f, hl] at h
  have HF : Aside0 (domL l0 a1 a2 = r) := ⟨by simpa [graph_Dominates.f, hlen] using h⟩
  clear h
  have hcell : (w.alloc (.cells #[.slice A0 l0.length c0] 23)).cell? ⟨w.heap.size, 0, none⟩ = some (.slice A0 l0.length c0) := Go.Proofs.Ytnmeomdjhjgnfaa.X.cell_new1 w _ 23
  have HB : Aside0 (Below w.heap.size w (w.alloc (.cells #[.slice A0 l0.length c0] 23))) := ⟨(Below.refl _ w).alloc (Nat.le_refl _) _⟩
  cases e1 : isB l0 a1 with
  | false =>
    have E1 := Aside0.mk e1
    have HR : Aside0 (r = false) := ⟨by rw [← HF.out]; simp [domL, e1]⟩
    clear e1
    go_enter Try.func32, Try.ntmps32
    go_wp2_with (go_at_call 74; refine (dom_no _ A0 c0 l0 _ _ hcell E1.out).mono ?_; rintro e w' ⟨rfl, rfl⟩)
    go_ret
    exact ⟨by rw [HR.out]; rfl, HB.out⟩
  | true =>
    have E1 := Aside0.mk e1
    clear e1
    cases e2 : isB l0 a2 with
    | false =>
      have E2 := Aside0.mk e2
      have HR : Aside0 (r = false) := ⟨by rw [← HF.out]; simp [domL, e2]⟩
      clear e2
      go_enter Try.func32, Try.ntmps32
      go_wp2_with fail
      refine (dom_yes _ A0 c0 l0 _ _ hcell E1.out).mono ?_
      rintro e w' ⟨rfl, rfl⟩
      go_wp2_with fail
      refine (dom_no _ A0 c0 l0 _ _ hcell E2.out).mono ?_
      rintro e w' ⟨rfl, rfl⟩
      go_wp2_with fail
      go_ret
      exact ⟨by rw [HR.out]; rfl, HB.out⟩
    | true =>
      have E2 := Aside0.mk e2
      have HL : Aside0 (domLoop l0 a1 (l0.length + 1) a2 = r) := ⟨by rw [← HF.out]; simp [domL, E1.out, e2]⟩
      clear e2 HF
      go_enter Try.func32, Try.ntmps32
      go_wp2_with fail
      refine (dom_yes _ A0 c0 l0 _ _ hcell E1.out).mono ?_
      rintro e w' ⟨rfl, rfl⟩
      go_wp2_with fail
      refine (dom_yes _ A0 c0 l0 _ _ hcell E2.out).mono ?_
      rintro e w' ⟨rfl, rfl⟩
      go_wp2_with fail
      go_loopg [2, 22] (l0.length + 1) (fun kq v2 v22 w' => ∃ (b : Int) (i : Nat), v2 = .int .i64 b ∧ v22 = .int .i64 i ∧ Aside0 (domLoop l0 a1 kq b = r) ∧ Aside0 (kq + i = l0.length + 1) ∧ Aside0 (w' = w.alloc (.cells #[.slice A0 l0.length c0] 23)))
      case atStart => exact ⟨a2, 0, rfl, rfl, HL, ⟨rfl⟩, ⟨rfl⟩⟩
      case round =>
        obtain ⟨b, i, rfl, rfl, HA, HI, HW⟩ := hrel
        obtain rfl := HW.out
        clear HW HL E2
        cases gk with
        | zero =>
          have hi : i = l0.length + 1 := by have := HI.out; omega
          subst hi
          have HR : Aside0 (r = false) := ⟨by rw [← HA.out]; simp [domLoop]⟩
          go_wp2
          go_ret
          exact ⟨by rw [HR.out]; rfl, HB.out⟩
        | succ k1 =>
          have hi : i < l0.length + 1 := by have := HI.out; omega
          have H := HA.out
          clear HA
          rw [domLoop] at H
          by_cases hab : a1 = b
          · rw [if_pos hab] at H
            have HR : Aside0 (r = true) := ⟨H.symm⟩
            subst hab
            clear H
            go_wp2
            go_ret
            exact ⟨by rw [HR.out]; rfl, HB.out⟩
          · rw [if_neg hab] at H
            have hab2 : (a1 == b) = false := by simpa using hab
            clear hab
            cases e3 : isB l0 b with
            | false =>
              have E3 := Aside0.mk e3
              rw [e3] at H
              have HR : Aside0 (r = false) := ⟨by simpa using H.symm⟩
              clear H e3
              go_wp2_with (go_at_call 74; refine (dom_no _ A0 c0 l0 _ _ hcell E3.out).mono ?_; rintro e w' ⟨rfl, rfl⟩)
              go_ret
              exact ⟨by rw [HR.out]; rfl, HB.out⟩
            | true =>
              have E3 := Aside0.mk e3
              rw [e3] at H
              have HL : Aside0 (domLoop l0 a1 k1 (rd l0 b) = r) := ⟨by simpa using H⟩
              have hb : 0 ≤ b ∧ b < l0.length := by simpa [isB] using e3
              obtain ⟨hb0, hb1⟩ := hb
              clear H e3
              obtain ⟨ad, rfl, hcx⟩ := Kd.at_int HR0.out b hb0 hb1
              replace hcx := (HB.out.cell (World.block_lt_of_cell? w _ hcx)).trans hcx
              go_wp2_with (go_at_call 74; refine (dom_yes _ (some ad) c0 l0 _ _ hcell E3.out).mono ?_; rintro e w' ⟨rfl, rfl⟩)
              go_roundg k1
              case measure => omega
              case rel => exact ⟨_, i + 1, rfl, by go_num, HL, ⟨by have := HI.out; omega⟩, ⟨rfl⟩⟩
set_option maxHeartbeats 4000000 in
set_option maxRecDepth 100000 in
theorem graph_common.calls (k : Nat) (A0 : Option Addr) (c0 : Nat) (l0 : List Int) (A1 : Option Addr) (c1 : Nat) (l1 : List Int) (a2 a3 : Int) (r : Int) (w : World) (hr0 : Kd.C (Kd.int .i64) w A0 l0.length l0) (hc0 : l0.length ≤ c0) (hr1 : Kd.C (Kd.int .i64) w A1 l1.length l1) (hc1 : l1.length ≤ c1) (h : graph_common.f k l0 l1 a2 a3 = some r) :
    Calls Try.prog 73 #[.slice A0 l0.length c0, .slice A1 l1.length c1, .int .i64 a2, .int .i64 a3] w fun e w' => e = .returned (.int .i64 r) ∧ Drawn0 w w' := by
  have HR0 := Aside0.mk hr0
  have HR1 := Aside0.mk hr1
  have HF := Aside0.mk h
  have HD := Drawn0.refl w
  clear hr0 hr1 h hc0 hc1
  go_enter Try.func73, Try.ntmps73
  go_wp2
  go_step3
  go_wp2
  go_step3
  go_wp2
  go_loopg [2, 3] k (fun kq v2 v3 w' => ∃ a b : Int, v2 = .int .i64 a ∧ v3 = .int .i64 b ∧ Aside0 (graph_common.f kq l0 l1 a b = some r) ∧ Aside0 (Drawn0 w w'))
  case atStart => exact ⟨a2, a3, rfl, rfl, HF, ⟨HD⟩⟩
  case round =>
    obtain ⟨a, b, rfl, rfl, HA, HD2⟩ := hrel
    cases gk with
    | zero => exact absurd HA.out (by simp [graph_common.f])
    | succ k1 =>
      have H := HA.out
      clear HA HF HD
      rw [graph_common.f] at H
      by_cases hr : 0 ≤ a ∧ a < l1.length ∧ 0 ≤ b ∧ b < l1.length
      · rw [if_pos hr] at H
        obtain ⟨ha0, ha1, hb0, hb1⟩ := hr
        obtain ⟨ad, rfl, hca⟩ := Kd.at_int HR1.out a ha0 ha1
        obtain ⟨ad', ead, hcb⟩ := Kd.at_int HR1.out b hb0 hb1
        cases ead
        replace hca := (HD2.out.below.cell (World.block_lt_of_cell? w _ hca)).trans hca
        replace hcb := (HD2.out.below.cell (World.block_lt_of_cell? w _ hcb)).trans hcb
        by_cases h1 : rd l1 b < rd l1 a
        · rw [if_pos h1] at H
          by_cases h2 : a < l0.length
          · rw [if_pos h2] at H
            obtain ⟨ae, eae, hce⟩ := Kd.at_int HR0.out a ha0 h2
            subst eae
            replace hce := (HD2.out.below.cell (World.block_lt_of_cell? w _ hce)).trans hce
            have HH := Aside0.mk H
            clear H
            have HD3 := HD2.out
            clear HD2
            go_wp2
            go_quiet (fail)
            go_wp2
            go_roundg k1
            case measure => omega
            case rel => exact ⟨_, _, rfl, rfl, HH, ⟨HD3.step _⟩⟩
          · rw [if_neg h2] at H
            exact absurd H (by simp)
        · rw [if_neg h1] at H
          by_cases h3 : rd l1 a < rd l1 b
          · rw [if_pos h3] at H
            by_cases h2 : b < l0.length
            · rw [if_pos h2] at H
              obtain ⟨ae, eae, hce⟩ := Kd.at_int HR0.out b hb0 h2
              subst eae
              replace hce := (HD2.out.below.cell (World.block_lt_of_cell? w _ hce)).trans hce
              have HH := Aside0.mk H
              clear H
              have HD3 := HD2.out
              clear HD2
              go_wp2
              go_quiet (fail)
              go_wp2
              go_quiet (fail)
              go_wp2
              go_roundg k1
              case measure => omega
              case rel => exact ⟨_, _, rfl, rfl, HH, ⟨HD3.step _⟩⟩
            · rw [if_neg h2] at H
              exact absurd H (by simp)
          · rw [if_neg h3] at H
            obtain rfl := Option.some.inj H
            clear H
            have HD3 := HD2.out
            clear HD2
            go_wp2
            go_quiet (fail)
            go_wp2
            go_quiet (fail)
            go_wp2
            rw [Exit.noGoto_ret]
            go_ret
            exact ⟨rfl, (HD3.step _).step _⟩
      · rw [if_neg hr] at H
        exact absurd H (by simp)
end Go.Proofs.Ytnmeomdjhjgnfaa.X
end
