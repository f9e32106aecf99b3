/- graph.edges: the iterator's contract, by hand. What a round keeps: all rows of cells made since the loop began, but for those that the caller's own words (M) name as its own. -/
import Derived.RangeFuncNested
import Derived.RangeFuncBound
import Derived.RangeFuncCalls
import Derived.RangeFuncLeaves
import Derived.Shelf.Abstract
import Derived.Shelf.RegionOpen
import Derived.WalkKit
import Derived.OwnWalkIn
import Derived.TacticsInMore
import Derived.LoopNIn
import Derived.LoopIn
import Derived.Test.YtnmeomdjhjgnfaaGorder
set_option linter.unusedSimpArgs false
namespace Go.Proofs.Ytnmeomdjhjgnfaa.X
open Go.RowKit Go.Shelf Go.Proofs.YtnmeomdjhjgnfaaW.PrintWords Go.Proofs.YtnmeomdjhjgnfaaW.PrintLast Go.Proofs.YtnmeomdjhjgnfaaW.PrintMore
set_option linter.unusedVariables false
attribute [local go_sem] Oper.semAt_some

/-- An edge within n blocks. -/
abbrev Ed (n : Nat) := {e : Int × Int // 0 ≤ e.1 ∧ e.1 < n ∧ 0 ≤ e.2 ∧ e.2 < n}
def edEnc {n : Nat} (x : Ed n) : Array Value := #[.int .i64 x.1.1, .int .i64 x.1.2]

/-- What a round that goes on keeps. -/
structure EdKp (B : Nat) (M : World → Nat → Prop) (W W' : World) : Prop where
  size : W.heap.size ≤ W'.heap.size
  same : ∀ k c t f, B ≤ k → ¬ M W k → W.heap[k]? = some (.cells c t f) → W'.heap[k]? = some (.cells c t f)
  mine : ∀ k, M W' k → M W k ∨ W.heap.size ≤ k
/-- M is told by what lies below B. -/
def Told (B : Nat) (M : World → Nat → Prop) : Prop := ∀ W W' : World, (∀ b, b < B → W'.heap[b]? = W.heap[b]?) → ∀ k, M W' k → M W k
theorem EdKp.refl (B : Nat) (M : World → Nat → Prop) (W : World) : EdKp B M W W := ⟨Nat.le_refl _, fun _ _ _ _ _ _ h => h, fun _ h => .inl h⟩
theorem EdKp.trans {B : Nat} {M : World → Nat → Prop} {X Y Z : World} (h : EdKp B M X Y) (k : EdKp B M Y Z) : EdKp B M X Z :=
  ⟨Nat.le_trans h.size k.size, fun i c t f hB hM hc => by
    refine k.same i c t f hB (fun hm => ?_) (h.same i c t f hB hM hc)
    rcases h.mine i hm with hm | hm
    · exact hM hm
    · have := blk_lt hc; omega,
   fun i hm => by
    rcases k.mine i hm with hm | hm
    · exact h.mine i hm
    · exact .inr (Nat.le_trans h.size hm)⟩
theorem EdKp.put {B : Nat} {M : World → Nat → Prop} (hM : Told B M) (W : World) (l : Nat) (o o' : Obj) (hl : B ≤ l) (h : W.heap[l]? = some o) (hc : o.isCells = false) (_ : o.isWalk = false) : EdKp B M W (W.putObj l o') :=
  ⟨by simp, fun k c t f _ _ hk => by
    by_cases e : k = l
    · subst e; rw [h] at hk; cases hk; simp [Obj.isCells] at hc
    · exact (World.putObj_heap_other e).trans hk,
   fun k hm => .inl (hM _ _ (fun b hb => World.putObj_heap_other (by omega)) k hm)⟩

/-- What the iterator leans on between two rounds; W2: the world when its rows had been made. -/
structure EdIn (B : Nat) (M : World → Nat → Prop) (W2 W : World) : Prop where
  size : W2.heap.size ≤ W.heap.size
  same : ∀ k c t f, B ≤ k → W2.heap[k]? = some (.cells c t f) → W.heap[k]? = some (.cells c t f)
  mine : ∀ k, M W k → k < B ∨ W2.heap.size ≤ k
theorem EdIn.step {B : Nat} {M : World → Nat → Prop} {W2 X Y : World} (h : EdIn B M W2 X) (k : EdKp B M X Y) : EdIn B M W2 Y :=
  ⟨Nat.le_trans h.size k.size, fun i c t f hB hc => k.same i c t f hB (fun hm => by
      have := blk_lt hc
      rcases h.mine i hm with h1 | h1 <;> omega) (h.same i c t f hB hc),
   fun i hm => by
    rcases k.mine i hm with hm | hm
    · exact h.mine i hm
    · exact .inr (Nat.le_trans h.size hm)⟩
theorem EdIn.rows {B : Nat} {M : World → Nat → Prop} {W2 W : World} {base : Nat} {v : Value} {rows : List (List Int)} (h : EdIn B M W2 W) (hb : B ≤ base) (hS : Kd.S (Kd.slice 3 (Kd.int .i64)) 23 W2 base (fun _ => True) v rows) :
    Kd.S (Kd.slice 3 (Kd.int .i64)) 23 W base (fun _ => True) v rows := by
  refine Kd.S_mono (Kd.S_step (Kd.S_bound hS) (fun k hk _ => ?_)) (fun _ _ => trivial)
  obtain ⟨_, hk1, _, q, _, cells, hc⟩ := hk
  rw [h.same k _ _ _ (by omega) hc, hc]

theorem EdIn.heap {B : Nat} {M : World → Nat → Prop} {W2 W : World} {base k : Nat} {q : TypeId} (h : EdIn B M W2 W) (hb : B ≤ base) (hk : base ≤ k) (hc : ∃ cells, W2.heap[k]? = some (.cells cells q (0, 0))) : W.heap[k]? = W2.heap[k]? := by
  obtain ⟨cells, hc⟩ := hc
  rw [h.same k _ _ _ (by omega) hc, hc]
theorem EdIn.row {B : Nat} {M : World → Nat → Prop} {W2 W : World} {base : Nat} {v : Value} {row : List Int} (h : EdIn B M W2 W) (hb : B ≤ base) (hR : Kd.R (Kd.int .i64) 3 W2 base (fun _ => True) v row) : Kd.R (Kd.int .i64) 3 W base (fun _ => True) v row := by
  refine Kd.R_mono (Kd.R_step (Kd.R_bound hR) (fun k hk _ => ?_)) (fun _ _ => trivial)
  obtain ⟨_, hk1, _, q, _, hc⟩ := hk
  exact h.heap hb hk1 hc
/-- A row of the rows, and the cell that holds it. -/
theorem row_own {W2 : World} {base n c : Nat} {ad : Addr} {rows : List (List Int)} (hS : Kd.S (Kd.slice 3 (Kd.int .i64)) 23 W2 base (fun _ => True) (.slice (some ad) n c) rows) (i : Nat) (hi : i < n) :
    ∃ Ar cr, W2.cell? (ad.add i) = some (.slice Ar (rd_L1 rows i).length cr) ∧ Kd.R (Kd.int .i64) 3 W2 base (fun _ => True) (.slice Ar (rd_L1 rows i).length cr) (rd_L1 rows i) := by
  obtain ⟨cs, hl, hM, hc⟩ := Kd.S_get hS [] (i : Int) (by omega) (by omega)
  obtain ⟨v, rfl, hR⟩ := hM
  have hR2 : Kd.R (Kd.int .i64) 3 W2 base _ v (rd_L1 rows i) := hR
  obtain ⟨Ar, cr, rfl⟩ := Kd.R_slice hR2
  refine ⟨Ar, cr, ?_, Kd.R_mono hR2 (fun _ _ => trivial)⟩
  have := hc 0 _ rfl
  rwa [Int.toNat_natCast, show (Kd.slice 3 (Kd.int .i64)).sz = 1 from rfl, Nat.mul_one, Nat.add_zero] at this
theorem add_block (ad : Addr) (i : Nat) : (ad.add i).block = ad.block := by unfold Addr.add; split <;> rfl
theorem EdIn.cellAt {B : Nat} {M : World → Nat → Prop} {W2 W : World} {base n c : Nat} {ad : Addr} {rows : List (List Int)} (h : EdIn B M W2 W) (hb : B ≤ base) (hS : Kd.S (Kd.slice 3 (Kd.int .i64)) 23 W2 base (fun _ => True) (.slice (some ad) n c) rows) (i : Nat) : W.cell? (ad.add i) = W2.cell? (ad.add i) :=
  World.cell?_of_block (by rw [add_block]; exact h.heap hb (Kd.S_base hS ad.block rfl) (Kd.S_typed hS ad.block rfl))

/-! ### the edges, by rows -/
theorem edgesFrom_append (i : Nat) (a b : List (List Int)) : edgesFrom i (a ++ b) = edgesFrom i a ++ edgesFrom (i + a.length) b := by
  induction a generalizing i with
  | nil => simp [edgesFrom]
  | cons x a ih =>
    simp only [List.cons_append, edgesFrom, ih, List.append_assoc, List.length_cons]
    rw [show i + 1 + a.length = i + (a.length + 1) from by omega]
theorem edges_row (rows : List (List Int)) (i : Nat) (h : i < rows.length) : edgesFrom 0 (rows.take (i + 1)) = edgesFrom 0 (rows.take i) ++ (rd_L1 rows i).map (fun b => ((i : Int), b)) := by
  have e : rd_L1 rows i = rows[i] := by simp [rd_L1, h]
  rw [List.take_succ_eq_append_getElem h, edgesFrom_append, e]
  simp [edgesFrom, List.length_take, Nat.min_eq_left (Nat.le_of_lt h)]
theorem edges_cut (rows : List (List Int)) (i j : Nat) (h : i < rows.length) : (edgesFrom 0 (rows.take i) ++ ((rd_L1 rows i).take j).map (fun b => ((i : Int), b))) <+: edgesFrom 0 rows := by
  have h1 : edgesFrom 0 rows = edgesFrom 0 (rows.take (i + 1)) ++ edgesFrom (0 + (rows.take (i + 1)).length) (rows.drop (i + 1)) := by rw [← edgesFrom_append, List.take_append_drop]
  rw [h1, edges_row rows i h]
  refine ⟨((rd_L1 rows i).drop j).map (fun b => ((i : Int), b)) ++ edgesFrom (0 + (rows.take (i + 1)).length) (rows.drop (i + 1)), ?_⟩
  have h2 : (rd_L1 rows i).map (fun b => ((i : Int), b)) = ((rd_L1 rows i).take j).map (fun b => ((i : Int), b)) ++ ((rd_L1 rows i).drop j).map (fun b => ((i : Int), b)) := by rw [← List.map_append, List.take_append_drop]
  rw [h2]
  simp only [List.append_assoc]
theorem take_snoc_rd (l : List Int) (j : Nat) (h : j < l.length) : l.take (j + 1) = l.take j ++ [rd l j] := by
  rw [List.take_succ_eq_append_getElem h]; simp [rd, h]

theorem cleanL_at (g : List (List Int)) (i : Nat) (h : i < g.length) : ∀ b ∈ rd_L1 (cleanL g) i, 0 ≤ b ∧ b < g.length := by
  intro b hb
  have hl : i < (cleanL g).length := by rw [cleanL_length]; exact h
  refine cleanL_in g (rd_L1 (cleanL g) i) ?_ b hb
  have e : rd_L1 (cleanL g) i = (cleanL g)[i] := by simp [rd_L1, hl]
  rw [e]; exact List.getElem_mem _

set_option maxHeartbeats 4000000 in
set_option maxRecDepth 100000 in
theorem edges1_in (m : Nat) (hm : 3 ≤ m) (l bx : Nat) (A0 : Option Addr) (c0 : Nat) (g : List (List Int)) (hok : okG g = true) (B : Nat) (M : World → Nat → Prop) (W : World) (hMW : ∀ W', Below W.heap.size W W' → ∀ k, M W' k → k < B) (hB : B ≤ W.heap.size)
    (hR : Kd.C (Kd.slice 3 (Kd.int .i64)) W A0 g.length g) (hc0 : g.length ≤ c0) (hbx : W.cell? ⟨bx, 0, none⟩ = some (.slice A0 g.length c0)) (J Jx : List (Ed g.length) → World → Prop) (hJ : AbidesFrom W.heap.size J)
    (hY : ∀ pre x W1, J pre W1 → pre.length < (edgesL g).length → YieldAt Fence.wide (m - 1) Try.prog l (edEnc x) W1 fun e W' =>
      (e = .returned (.bool true) ∧ J (pre ++ [x]) W' ∧ EdKp B M W1 W') ∨ (e = .returned (.bool false) ∧ Jx (pre ++ [x]) W')) (h0 : J [] W) :
    CallsIn Fence.wide m Try.prog 104 #[.func (.yield l) #[] #[], .pointer (some ⟨bx, 0, none⟩)] W fun e W' => (∃ v, e = .returned v) ∧
      ((∃ xs : List (Ed g.length), xs.map Subtype.val = edgesL g ∧ J xs W') ∨ (∃ pre : List (Ed g.length), pre.map Subtype.val <+: edgesL g ∧ Jx pre W')) := by
  have hlen := (okG_len hok).1
  have HY := Aside0.mk hY
  have HJ := Aside0.mk hJ
  have HM := Aside0.mk hMW
  have H0 := Aside0.mk h0
  have HR := Aside0.mk hR
  have HC0 := Aside0.mk hc0
  have HOK := Aside0.mk hok
  clear hY hJ hMW h0 hR hc0 hok
  refine callsIn_of_wp Try.func104 rfl trivial ?_ rfl
  simp only [Try.ntmps104, List.size_toArray, List.length_cons, List.length_nil, Nat.reduceAdd, Nat.reduceSub, Array.replicate_succ, Array.replicate_zero, List.push_toArray, List.append_toArray, List.nil_append, List.cons_append]
  gi_wp2_with fail
  refine ⟨trivial, fun _ => by omega, ?_⟩
  refine (callsIn_wide.2 (graph_clean.calls (g.length + 1) A0 c0 g (cleanL g) _ HR.out HC0.out (clean_some g HOK.out))).mono ?_
  rintro e W2 ⟨v0, rfl, hS, hBl⟩
  have HS := Aside0.mk hS
  obtain ⟨AR, cR, rfl, _, _⟩ := Kd.S_reads hS
  have e1 := cleanL_length g
  have HI0 : Aside0 (EdIn B M W2 W2) := ⟨⟨Nat.le_refl _, fun _ _ _ _ _ h => h, fun k hk => .inl (HM.out W2 hBl k hk)⟩⟩
  have HJ0 : Aside0 (J [] W2) := ⟨HJ.out [] W W2 none H0.out (grown_of_below hBl none) (fun r e => by cases e)⟩
  have HE1 := Aside0.mk e1
  clear hS hBl H0 e1 hbx
  gi_wp2_with fail
  gi_loopw [10] (fun v10 wr => ∃ (i : Nat) (pre : List (Ed g.length)), v10 = .int .i64 i ∧ i ≤ g.length ∧ Aside0 (pre.map Subtype.val = edgesFrom 0 ((cleanL g).take i)) ∧ Aside0 (EdIn B M W2 wr) ∧ Aside0 (J pre wr)) (fun v10 _ => g.length - (intOf v10).toNat)
  case atStart => exact ⟨0, [], rfl, by omega, ⟨by simp [edgesFrom]⟩, HI0, HJ0⟩
  case round =>
    obtain ⟨i, pre, rfl, hi, HP, HI, HJ1⟩ := hrel
    clear HI0 HJ0
    by_cases hlt : i < g.length
    · obtain ⟨ad, _, _, ear, _⟩ := at_L1 (Kd.S_reads' HS.out).2.2 (i : Int) (by omega) (by have := HE1.out; omega)
      subst ear
      obtain ⟨Ar, cr, hxr, hRow⟩ := row_own HS.out i (by have := HE1.out; omega)
      rw [← HI.out.cellAt hB HS.out i] at hxr
      have HRow := Aside0.mk hRow
      have HRL : Aside0 ((rd_L1 (cleanL g) i).length ≤ 1000000) := ⟨by
        have e : rd_L1 (cleanL g) i = keptL (g[i]) g.length := by simp [rd_L1, cleanL, hlt]
        rw [e]; have := keptL_length (g[i]) g.length; omega⟩
      have hlc : i < (cleanL g).length := by have := HE1.out; omega
      clear hRow
      gi_wp2_with fail
      gi_loopw [17] (fun v17 wr => ∃ (j : Nat) (pre : List (Ed g.length)), v17 = .int .i64 j ∧ j ≤ (rd_L1 (cleanL g) i).length ∧ Aside0 (pre.map Subtype.val = edgesFrom 0 ((cleanL g).take i) ++ ((rd_L1 (cleanL g) i).take j).map (fun b => ((i : Int), b))) ∧ Aside0 (EdIn B M W2 wr) ∧ Aside0 (J pre wr)) (fun v17 _ => (rd_L1 (cleanL g) i).length - (intOf v17).toNat)
      case atStart => exact ⟨0, pre, rfl, by omega, ⟨by simpa using HP.out⟩, HI, HJ1⟩
      case round =>
        obtain ⟨j, pre, rfl, hj, HP, HI, HJ1⟩ := hrel
        clear hxr
        have hrl := HRL.out
        by_cases hjt : j < (rd_L1 (cleanL g) i).length
        · obtain ⟨ae, eae, hb0⟩ := Kd.at_int (Kd.R_reads' (HI.out.row hB HRow.out)).2.2 (j : Int) (by omega) (by omega)
          subst eae
          rw [Int.toNat_natCast] at hb0
          obtain ⟨hbn, hbm⟩ := cleanL_at g i hlt (rd (rd_L1 (cleanL g) i) j) (by
            have e : rd (rd_L1 (cleanL g) i) j = (rd_L1 (cleanL g) i)[j] := by simp [rd, hjt]
            rw [e]; exact List.getElem_mem _)
          have HPN : Aside0 ((pre ++ [(⟨((i : Int), rd (rd_L1 (cleanL g) i) j), by constructor <;> omega⟩ : Ed g.length)]).map Subtype.val = edgesFrom 0 ((cleanL g).take i) ++ ((rd_L1 (cleanL g) i).take (j + 1)).map (fun b => ((i : Int), b))) := ⟨by
            rw [List.map_append, HP.out, take_snoc_rd _ _ hjt]; simp⟩
          have HPL : Aside0 (pre.length < (edgesL g).length) := ⟨by
            have h1 := (edges_cut (cleanL g) i (j + 1) (by omega)).length_le
            rw [← HPN.out] at h1
            simp only [List.length_map, List.length_append, List.length_cons, List.length_nil] at h1
            unfold edgesL; omega⟩
          obtain ⟨fn, tmps, assign, body, hy, hRd⟩ := HY.out pre ⟨((i : Int), rd (rd_L1 (cleanL g) i) j), by constructor <;> omega⟩ wr HJ1.out HPL.out
          simp only [edEnc] at hy
          gi_wp2
          refine ⟨fun _ => by omega, ?_⟩
          refine hRd.mono ?_
          rintro e W3 (⟨rfl, hJ3, hk3⟩ | ⟨rfl, hJx3⟩)
          · have HI3 := Aside0.mk (HI.out.step hk3)
            have HJ3 := Aside0.mk hJ3
            clear hJ3 hk3 hy hRd hb0
            gi_wp2
            go_roundw
            case rel => exact ⟨j + 1, _, by go_num, by omega, HPN, HI3, HJ3⟩
            case measure => simp [intOf]; omega
          · have HJX := Aside0.mk hJx3
            have HPX : Aside0 ((pre ++ [(⟨((i : Int), rd (rd_L1 (cleanL g) i) j), by constructor <;> omega⟩ : Ed g.length)]).map Subtype.val <+: edgesL g) := ⟨by
              rw [HPN.out]; exact edges_cut (cleanL g) i (j + 1) (by omega)⟩
            clear hJx3 hy hRd hb0
            gi_wp2
            refine bodyPost_ret (results_none rfl _ _ _) rfl ?_
            exact ⟨⟨_, rfl⟩, .inr ⟨_, HPX.out, HJX.out⟩⟩
        · obtain rfl : j = (rd_L1 (cleanL g) i).length := by omega
          have HPN : Aside0 (pre.map Subtype.val = edgesFrom 0 ((cleanL g).take (i + 1))) := ⟨by
            rw [HP.out, edges_row _ _ (by omega), List.take_length]⟩
          gi_wp2
          go_roundw
          case rel => exact ⟨i + 1, _, by go_num, by omega, HPN, HI, HJ1⟩
          case measure => simp [intOf]; omega
    · obtain rfl : i = g.length := by omega
      have hl2 : (cleanL g).length ≤ g.length := by have := HE1.out; omega
      have HPN : Aside0 (pre.map Subtype.val = edgesL g) := ⟨by
        rw [HP.out, List.take_of_length_le hl2]; rfl⟩
      gi_wp2
      go_end0
      exact ⟨⟨_, rfl⟩, .inl ⟨_, HPN.out, HJ1.out⟩⟩

/-- graph.edges: the rows' slice is boxed; the function value captures the box. -/
theorem edges_calls (a : Option Addr) (len cap : Nat) (w : World) :
    Calls Try.prog 84 #[.slice a len cap] w fun e w' => e = .returned (.func (.func 104) #[] #[.pointer (some ⟨w.heap.size, 0, none⟩)]) ∧ w' = w.alloc (.cells #[.slice a len cap] 22) := by
  go_enter Try.func84, Try.ntmps84
  go_wp2
  go_ret
  exact ⟨rfl, rfl⟩

theorem edges_stops (m : Nat) (hm : 3 ≤ m) (bx : Nat) (A0 : Option Addr) (c0 : Nat) (g : List (List Int)) (hok : okG g = true) (M : World → Nat → Prop) (w : World) (hMd : Told w.heap.size M) (hMW : ∀ k, M w k → k < w.heap.size)
    (hR : Kd.C (Kd.slice 3 (Kd.int .i64)) w A0 g.length g) (hc0 : g.length ≤ c0) (hbx : w.cell? ⟨bx, 0, none⟩ = some (.slice A0 g.length c0)) :
    SeqStopsK Fence.wide m Try.prog 104 #[.pointer (some ⟨bx, 0, none⟩)] (edEnc (n := g.length)) (EdKp w.heap.size M) (fun xs => xs.map Subtype.val = edgesL g) (fun pre => pre.map Subtype.val <+: edgesL g) (edgesL g).length w := by
  intro l J Jx W hW hJ _ hY h0
  refine edges1_in m hm l bx A0 c0 g hok w.heap.size M W (fun W' hW' k hk => ?_) hW.size (Kd.C_below hR hW) hc0 ((hW.cell (World.block_lt_of_cell? w _ hbx)).trans hbx) J Jx hJ hY h0
  refine hMW k (hMd w W' (fun b hb => ?_) k hk)
  rw [hW'.block b (Nat.lt_of_lt_of_le hb hW.size), hW.block b hb]
end Go.Proofs.Ytnmeomdjhjgnfaa.X
