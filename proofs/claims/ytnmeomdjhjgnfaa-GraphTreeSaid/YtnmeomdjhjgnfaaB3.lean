/- Parts of the proof of GraphTree: Gawake, X26, Pdfs, Pord, Pidom, X17, Pedge, Pchk. -/
import Derived.Test.YtnmeomdjhjgnfaaB2
import Derived.Test.YtnmeomdjhjgnfaaB1
section
/-! The laws' awake, by hand: all at known graphs. -/
set_option linter.unusedSimpArgs false
namespace Go.Proofs.Ytnmeomdjhjgnfaa.X
open Go.RowKit Go.Shelf Go.Proofs.YtnmeomdjhjgnfaaW.PrintWords Go.Proofs.YtnmeomdjhjgnfaaW.PrintLast Go.Proofs.YtnmeomdjhjgnfaaW.PrintMore
set_option linter.unusedVariables false
set_option maxRecDepth 100000

def gA : List (List Int) := [[1,2],[3],[3],[1]]
def gB : List (List Int) := [[1],[2,3],[1],[]]
def gC : List (List Int) := [[1,2],[2],[]]
theorem aw1 : graph_Order.f 100 gA = some [0,2,1,3] := by kernel_rfl
theorem aw2 : graph_Idom.f 100 gA = some [-1,0,0,0] := by kernel_rfl
theorem aw3 : graph_Body.f 100 gB 1 = some [1,2] := by kernel_rfl
theorem aw4 : graph_Critical.f gC = some [⟨0,2⟩] := by kernel_rfl
theorem aw5 : graph_Reducible.f 100 gA = some false := by kernel_rfl
theorem aw6 : graph_Reducible.f 100 gB = some true := by kernel_rfl
theorem aw7 : graph_Headers.f 100 gA = some [] := by kernel_rfl
theorem aw8 : jacquardref02_Nums.f 100 [0,2,1,3] [0,2,1,3] = some true := by kernel_rfl
theorem aw9 : jacquardref02_Nums.f 100 [-1,0,0,0] [-1,0,0,0] = some true := by kernel_rfl
theorem aw10 : jacquardref02_Nums.f 100 [1,2] [1,2] = some true := by kernel_rfl
theorem aw11 : jacquardref02_Pairs.f [⟨0,2⟩] [⟨0,2⟩] = some true := by kernel_rfl

theorem C_ints {W : World} {b : Nat} {zs : List Int} (h : W.heap[b]? = some (.cells (zs.map (Value.int .i64)).toArray 3 (0, 0))) (hl : zs.length ≤ 9223372036854775807) : Kd.C (Kd.int .i64) W (some ⟨b, 0, none⟩) zs.length zs := by
  refine ⟨rfl, hl, fun _ => ⟨_, rfl, fun j p hp => ⟨[.int .i64 p], rfl, rfl, fun i u hu => ?_⟩⟩⟩
  have hi : i = 0 := by
    rcases Nat.eq_zero_or_pos i with h | h
    · exact h
    · rw [List.getElem?_eq_none (by simp; omega)] at hu; cases hu
  subst hi
  simp at hu
  subst hu
  rw [add_at]
  simp [World.cell?, h]
  rw [show j * (Kd.int .i64).sz = j from Nat.mul_one j]
  exact hp
theorem C_rows {W : World} {b : Nat} {rows : List (List Int)} {vs : List Value} (h : W.heap[b]? = some (.cells vs.toArray 23 (0, 0))) (hl : rows.length ≤ 9223372036854775807)
    (hv : ∀ (i : Nat) (row : List Int), rows[i]? = some row → ∃ A c, vs[i]? = some (Value.slice A row.length c) ∧ row.length ≤ c ∧ Kd.C (Kd.int .i64) W A row.length row) : Kd.C (Kd.slice 3 (Kd.int .i64)) W (some ⟨b, 0, none⟩) rows.length rows := by
  refine ⟨rfl, hl, fun _ => ⟨_, rfl, fun j p hp => ?_⟩⟩
  obtain ⟨A, c, hv, hc, hC⟩ := hv j p hp
  refine ⟨[.slice A p.length c], rfl, ⟨A, c, rfl, hc, hC⟩, fun i u hu => ?_⟩
  have hi : i = 0 := by
    rcases Nat.eq_zero_or_pos i with h | h
    · exact h
    · rw [List.getElem?_eq_none (by simp; omega)] at hu; cases hu
  subst hi
  simp at hu
  subst hu
  rw [add_at]
  simp [World.cell?, h]
  rw [show j * (Kd.slice 3 (Kd.int .i64)).sz = j from Nat.mul_one j]
  exact hv
theorem alloc_at (os : List Obj) : ∀ (w : World) (i : Nat), i < os.length → (os.foldl World.alloc w).heap[w.heap.size + i]? = os[i]? := by
  induction os with
  | nil => intro w i h; simp at h
  | cons o os ih =>
    intro w i h
    cases i with
    | zero =>
      have : ∀ (os : List Obj) (w : World) (k : Nat), k < w.heap.size → (os.foldl World.alloc w).heap[k]? = w.heap[k]? := by
        intro os
        induction os with
        | nil => intro w k _; rfl
        | cons o os ih => intro w k hk; rw [List.foldl_cons, ih _ _ (by simp; omega)]; exact (below_alloc (Below.refl _ w) o : Below w.heap.size w _).block k hk
      rw [List.foldl_cons, Nat.add_zero, this _ _ _ (by simp)]
      exact World.alloc_heap_new w o
    | succ i =>
      have := ih (w.alloc o) i (by simpa using h)
      rw [List.foldl_cons, List.getElem?_cons_succ, ← this]
      congr 1
      simp; omega
def iv (zs : List Int) : Obj := .cells (zs.map (Value.int .i64)).toArray 3 (0, 0)
def sl (b n : Nat) : Value := .slice (some ⟨b, 0, none⟩) n n
set_option maxHeartbeats 4000000 in
theorem jacquardlaw02_awake.calls (r : Bool) (w : World) (h : jacquardlaw02_awake.f = some r) :
    Calls Try.prog 22 #[] w fun e w' => e = .returned (.bool r) ∧ Below w.heap.size w w' := by
  obtain rfl : r = true := by unfold jacquardlaw02_awake.f at h; injection h with h; exact h.symm
  clear h
  go_enter Try.func22, Try.ntmps22
  go_wp2_with fail
  obtain ⟨W1, hW1⟩ : ∃ W1, ([iv [1,2], iv [3], iv [3], iv [1], .cells #[sl w.heap.size 2, sl (w.heap.size + 1) 1, sl (w.heap.size + 2) 1, sl (w.heap.size + 3) 1] 23, iv [1], iv [2,3], iv [1], iv [], .cells #[sl (w.heap.size + 5) 1, sl (w.heap.size + 6) 2, sl (w.heap.size + 7) 1, sl (w.heap.size + 8) 0] 23] : List Obj).foldl World.alloc w = W1 := ⟨_, rfl⟩
  have hA : ∀ i o, ([iv [1,2], iv [3], iv [3], iv [1], .cells #[sl w.heap.size 2, sl (w.heap.size + 1) 1, sl (w.heap.size + 2) 1, sl (w.heap.size + 3) 1] 23, iv [1], iv [2,3], iv [1], iv [], .cells #[sl (w.heap.size + 5) 1, sl (w.heap.size + 6) 2, sl (w.heap.size + 7) 1, sl (w.heap.size + 8) 0] 23] : List Obj)[i]? = some o → W1.heap[w.heap.size + i]? = some o := by
    intro i o h
    rw [← hW1, alloc_at _ _ _ (List.getElem?_eq_some_iff.1 h).1]
    exact h
  have hBW : Below w.heap.size w W1 := by
    rw [← hW1]
    exact below_alloc (below_alloc (below_alloc (below_alloc (below_alloc (below_alloc (below_alloc (below_alloc (below_alloc (below_alloc (Below.refl _ _) _) _) _) _) _) _) _) _) _) _
  have hCA : Kd.C (Kd.slice 3 (Kd.int .i64)) W1 (some ⟨w.heap.size + 4, 0, none⟩) gA.length gA := C_rows (hA 4 _ rfl) (by decide) (by
    intro i row hi
    match i, hi with
    | 0, hi => cases hi; exact ⟨_, _, rfl, Nat.le_refl _, C_ints (hA 0 _ rfl) (by decide)⟩
    | 1, hi => cases hi; exact ⟨_, _, rfl, Nat.le_refl _, C_ints (hA 1 _ rfl) (by decide)⟩
    | 2, hi => cases hi; exact ⟨_, _, rfl, Nat.le_refl _, C_ints (hA 2 _ rfl) (by decide)⟩
    | 3, hi => cases hi; exact ⟨_, _, rfl, Nat.le_refl _, C_ints (hA 3 _ rfl) (by decide)⟩
    | i + 4, hi => cases hi)
  have hCB : Kd.C (Kd.slice 3 (Kd.int .i64)) W1 (some ⟨w.heap.size + 9, 0, none⟩) gB.length gB := C_rows (hA 9 _ rfl) (by decide) (by
    intro i row hi
    match i, hi with
    | 0, hi => cases hi; exact ⟨_, _, rfl, Nat.le_refl _, C_ints (hA 5 _ rfl) (by decide)⟩
    | 1, hi => cases hi; exact ⟨_, _, rfl, Nat.le_refl _, C_ints (hA 6 _ rfl) (by decide)⟩
    | 2, hi => cases hi; exact ⟨_, _, rfl, Nat.le_refl _, C_ints (hA 7 _ rfl) (by decide)⟩
    | 3, hi => cases hi; exact ⟨_, _, rfl, Nat.le_refl _, C_ints (hA 8 _ rfl) (by decide)⟩
    | i + 4, hi => cases hi)
  have HCA := Aside0.mk hCA
  have HCB := Aside0.mk hCB
  have HBW := Aside0.mk hBW
  refine Calls.mono (show Calls Try.prog 26 #[.slice (some ⟨w.heap.size + 4, 0, none⟩) 4 4] _ _ from by have := graph_Order.calls 100 (some ⟨w.heap.size + 4, 0, none⟩) 4 gA _ W1 HCA.out (by decide) aw1; rw [← hW1] at this; exact this) ?_
  clear hCA hCB hBW hA
  rintro e W2 ⟨v, rfl, hR, hB⟩
  rw [hW1] at hB
  clear hW1
  obtain ⟨A, c, rfl⟩ := Kd.R_slice hR
  have H2 := Aside0.mk (And.intro (Kd.R_reads' hR).2.1 (Kd.R_reads' hR).2.2)
  have HB2 := Aside0.mk hB
  clear hR hB
  go_wp2_with fail
  have hA2 : (W2.alloc (iv [0,2,1,3])).heap[W2.heap.size]? = some (iv [0,2,1,3]) := World.alloc_heap_new _ _
  refine Calls.mono (jacquardref02_Nums.calls 100 A c [0,2,1,3] (some ⟨W2.heap.size, 0, none⟩) 4 [0,2,1,3] true (W2.alloc (iv [0,2,1,3])) (Kd.C_alloc H2.out.2 _) H2.out.1 (C_ints hA2 (by decide)) (by decide) aw8) ?_
  rintro e W3 ⟨rfl, hD⟩
  have HB3 := Aside0.mk ((below_alloc HB2.out (iv [0,2,1,3])).trans (hD.below.mono (by have := HB2.out.size; simp; omega)))
  clear hD hA2 H2 HB2
  go_wp2_with fail
  refine Calls.mono (graph_Idom.calls 100 (some ⟨w.heap.size + 4, 0, none⟩) 4 gA _ W3 (Kd.C_below HCA.out HB3.out) (by decide) aw2) ?_
  rintro e W4 ⟨v, rfl, hR, hB⟩
  obtain ⟨A, c, rfl⟩ := Kd.R_slice hR
  have H4 := Aside0.mk (And.intro (Kd.R_reads' hR).2.1 (Kd.R_reads' hR).2.2)
  have HB4 := Aside0.mk (HB3.out.trans (hB.mono HB3.out.size))
  clear hR hB
  go_wp2_with fail
  have hA4 : (W4.alloc (iv [-1,0,0,0])).heap[W4.heap.size]? = some (iv [-1,0,0,0]) := World.alloc_heap_new _ _
  refine Calls.mono (jacquardref02_Nums.calls 100 A c [-1,0,0,0] (some ⟨W4.heap.size, 0, none⟩) _ [-1,0,0,0] true (W4.alloc (iv [-1,0,0,0])) (Kd.C_alloc H4.out.2 _) H4.out.1 (C_ints hA4 (by decide)) (by decide) aw9) ?_
  rintro e W5 ⟨rfl, hD⟩
  have HB5 := Aside0.mk ((below_alloc HB4.out (iv [-1,0,0,0])).trans (hD.below.mono (by have := HB4.out.size; simp; omega)))
  clear hD hA4 H4 HB4 HB3
  go_wp2_with fail
  refine Calls.mono (graph_Body.calls 100 (some ⟨w.heap.size + 9, 0, none⟩) 4 gB 1 _ W5 (Kd.C_below HCB.out HB5.out) (by decide) aw3) ?_
  rintro e W6 ⟨v, rfl, hR, hB⟩
  obtain ⟨A, c, rfl⟩ := Kd.R_slice hR
  have H6 := Aside0.mk (And.intro (Kd.R_reads' hR).2.1 (Kd.R_reads' hR).2.2)
  have HB6 := Aside0.mk (HB5.out.trans (hB.mono HB5.out.size))
  clear hR hB
  go_wp2_with fail
  have hA6 : (W6.alloc (iv [1,2])).heap[W6.heap.size]? = some (iv [1,2]) := World.alloc_heap_new _ _
  refine Calls.mono (jacquardref02_Nums.calls 100 A c [1,2] (some ⟨W6.heap.size, 0, none⟩) _ [1,2] true (W6.alloc (iv [1,2])) (Kd.C_alloc H6.out.2 _) H6.out.1 (C_ints hA6 (by decide)) (by decide) aw10) ?_
  rintro e W7 ⟨rfl, hD⟩
  have HB7 := Aside0.mk ((below_alloc HB6.out (iv [1,2])).trans (hD.below.mono (by have := HB6.out.size; simp; omega)))
  clear hD hA6 H6 HB6 HB5
  go_wp2_with fail
  obtain ⟨W8, hW8⟩ : ∃ W8, ([iv [1,2], iv [2], iv [], .cells #[sl W7.heap.size 2, sl (W7.heap.size + 1) 1, sl (W7.heap.size + 2) 0] 23] : List Obj).foldl World.alloc W7 = W8 := ⟨_, rfl⟩
  have hA : ∀ i o, ([iv [1,2], iv [2], iv [], .cells #[sl W7.heap.size 2, sl (W7.heap.size + 1) 1, sl (W7.heap.size + 2) 0] 23] : List Obj)[i]? = some o → W8.heap[W7.heap.size + i]? = some o := by
    intro i o h
    rw [← hW8, alloc_at _ _ _ (List.getElem?_eq_some_iff.1 h).1]
    exact h
  have hBW : Below W7.heap.size W7 W8 := by
    rw [← hW8]
    exact below_alloc (below_alloc (below_alloc (below_alloc (Below.refl _ _) _) _) _) _
  have hCC : Kd.C (Kd.slice 3 (Kd.int .i64)) W8 (some ⟨W7.heap.size + 3, 0, none⟩) gC.length gC := C_rows (hA 3 _ rfl) (by decide) (by
    intro i row hi
    match i, hi with
    | 0, hi => cases hi; exact ⟨_, _, rfl, Nat.le_refl _, C_ints (hA 0 _ rfl) (by decide)⟩
    | 1, hi => cases hi; exact ⟨_, _, rfl, Nat.le_refl _, C_ints (hA 1 _ rfl) (by decide)⟩
    | 2, hi => cases hi; exact ⟨_, _, rfl, Nat.le_refl _, C_ints (hA 2 _ rfl) (by decide)⟩
    | i + 3, hi => cases hi)
  have HCC := Aside0.mk hCC
  have HB8 := Aside0.mk (HB7.out.trans (hBW.mono HB7.out.size))
  refine Calls.mono (show Calls Try.prog 48 #[.slice (some ⟨W7.heap.size + 3, 0, none⟩) 3 3] _ _ from by have := graph_Critical.calls (some ⟨W7.heap.size + 3, 0, none⟩) 3 gC _ W8 HCC.out (by decide) aw4; rw [← hW8] at this; exact this) ?_
  rintro e W9 ⟨v, rfl, hR, hB⟩
  rw [hW8] at hB
  clear hCC hA hBW hW8 HCC HB7
  obtain ⟨A, c, rfl⟩ := Kd.R_slice hR
  have H9 := Aside0.mk (And.intro (Kd.R_reads' hR).2.1 (Kd.R_reads' hR).2.2)
  have HB9 := Aside0.mk (HB8.out.trans (hB.mono HB8.out.size))
  clear hR hB HB8
  go_wp2_with fail
  have hA9 : (W9.alloc (.cells #[.int .i64 0, .int .i64 2] 73)).heap[W9.heap.size]? = some (.cells #[.int .i64 0, .int .i64 2] 73 (0, 0)) := World.alloc_heap_new _ _
  have hP : Kd.C k73 (W9.alloc (.cells #[.int .i64 0, .int .i64 2] 73)) (some ⟨W9.heap.size, 0, none⟩) ([⟨0, 2⟩] : List S73).length [⟨0, 2⟩] := by
    refine ⟨rfl, by decide, fun _ => ⟨_, rfl, fun j p hp => ?_⟩⟩
    match j, hp with
    | 0, hp =>
      cases hp
      refine ⟨[.int .i64 0, .int .i64 2], rfl, k73_mk _ ⟨0, 2⟩, fun i u hu => ?_⟩
      rw [add_at]
      match i, hu with
      | 0, hu => cases hu; exact blk_cell hA9 0
      | 1, hu => cases hu; exact blk_cell hA9 1
      | i + 2, hu => cases hu
    | j + 1, hp => cases hp
  refine Calls.mono (jacquardref02_Pairs.calls A c [⟨0, 2⟩] (some ⟨W9.heap.size, 0, none⟩) 1 [⟨0, 2⟩] true (W9.alloc (.cells #[.int .i64 0, .int .i64 2] 73)) (Kd.C_alloc H9.out.2 _) H9.out.1 hP (by decide) aw11) ?_
  rintro e W10 ⟨rfl, hD⟩
  have HB10 := Aside0.mk ((below_alloc HB9.out (.cells #[.int .i64 0, .int .i64 2] 73)).trans (hD.below.mono (by have := HB9.out.size; simp; omega)))
  clear hD hA9 hP H9 HB9
  go_wp2_with fail
  refine Calls.mono (graph_Reducible.calls 100 (some ⟨w.heap.size + 4, 0, none⟩) 4 gA false W10 (Kd.C_below HCA.out HB10.out) (by decide) aw5) ?_
  rintro e W11 ⟨rfl, hB⟩
  have HB11 := Aside0.mk (HB10.out.trans (hB.mono HB10.out.size))
  clear hB HB10
  go_wp2_with fail
  refine Calls.mono (graph_Reducible.calls 100 (some ⟨w.heap.size + 9, 0, none⟩) 4 gB true W11 (Kd.C_below HCB.out HB11.out) (by decide) aw6) ?_
  rintro e W12 ⟨rfl, hB⟩
  have HB12 := Aside0.mk (HB11.out.trans (hB.mono HB11.out.size))
  clear hB HB11
  go_wp2_with fail
  refine Calls.mono (graph_Headers.calls 100 (some ⟨w.heap.size + 4, 0, none⟩) 4 gA [] W12 (Kd.C_below HCA.out HB12.out) (by decide) aw7) ?_
  rintro e W13 ⟨v, rfl, hR, hB⟩
  have HB13 := Aside0.mk (HB12.out.trans (hB.mono HB12.out.size))
  obtain ⟨A, c, rfl⟩ := Kd.R_slice hR
  clear hR hB HB12
  go_wp2
  go_ret
  exact ⟨rfl, HBW.out.trans (HB13.out.mono HBW.out.size)⟩
end Go.Proofs.Ytnmeomdjhjgnfaa.X
end
section
-- written by a driver of this session (wip/xprint.py) over the kit's print, for this claim; Lean checks it
namespace Go.Proofs.Ytnmeomdjhjgnfaa.X
open Go.RowKit Go.Proofs.YtnmeomdjhjgnfaaW.PrintWords Go.Proofs.YtnmeomdjhjgnfaaW.PrintLast Go.Proofs.YtnmeomdjhjgnfaaW.PrintMore
attribute [local go_sem] max2_int min2_int max_two min_two max_three min_three max_four min_four   -- for this text's walks alone
set_option linter.unusedVariables false
set_option linter.unusedSimpArgs false

/-! ### jacquardlaw02_GraphTree: function 12 -/
mutual
def jacquardlaw02_GraphTree.l0 : Nat → List Int → Bool → Int → List (List Int) → Int → Option (Bool)
  | 0, _, _, _, _, _ => none
  | k + 1, x1, x5, x6, x7, x8 => if x8 < x6 then (if (wrap64 (x8 + 1)) < x6 then (if ([] : List Int).length < 17592186044416 then (jacquardlaw02_GraphTree.j1 k x1 x5 x6 x7 x8 (([] : List Int) ++ [wrap64 (x8 + 1)])) else (none)) else (jacquardlaw02_GraphTree.j1 k x1 x5 x6 x7 x8 ([] : List Int))) else ((graph_Reducible.f k x7).bind fun t499 => (if t499 = true then ((graph_Headers.f k x7).bind fun t500 => (if 0 ≤ (wrap64 (x6 - 1)) then (if (wrap64 (x6 - 1)) < (x7.length : Int) then (if (rd_L1 x7 (wrap64 (x6 - 1))).length < 17592186044416 then ((some (x7.set ((wrap64 (x6 - 1)) : Int).toNat ((rd_L1 x7 (wrap64 (x6 - 1))) ++ [0]) : List (List Int))).bind fun y507 => ((graph_Headers.f k y507).bind fun t508 => (if x5 = true then (if (t500.length : Int) = 0 then (if (t508.length : Int) = 1 then (if 0 < (t508.length : Int) then (if (rd t508 0) = 0 then ((graph_Body.f k y507 0).bind fun t512 => (if (t512.length : Int) = x6 then ((graph_Reducible.f k y507).bind fun t515 => (some t515)) else (some false))) else (some false)) else (none)) else (some false)) else (some false)) else (some false)))) else (none)) else (none)) else (none))) else (if 0 ≤ (wrap64 (x6 - 1)) then (if (wrap64 (x6 - 1)) < (x7.length : Int) then (if (rd_L1 x7 (wrap64 (x6 - 1))).length < 17592186044416 then ((graph_Headers.f k (x7.set ((wrap64 (x6 - 1)) : Int).toNat ((rd_L1 x7 (wrap64 (x6 - 1))) ++ [0]))).bind fun t521 => (if x5 = true then (some false) else (some false))) else (none)) else (none)) else (none))))
def jacquardlaw02_GraphTree.j1 : Nat → List Int → Bool → Int → List (List Int) → Int → List Int → Option (Bool)
  | 0, _, _, _, _, _, _ => none
  | k + 1, x1, x5, x6, x7, x8, x9 => if x8 < (x1.length : Int) then (if 0 ≤ x8 then ((jacquardlaw02_rest.f (rd x1 x8) x6).bind fun t486 => (if (wrap64 ((wrap64 (x8 + 1)) + t486)) < x6 then (if x9.length < 17592186044416 then (if x7.length < 5864062014805 then (jacquardlaw02_GraphTree.l0 k x1 x5 x6 (x7 ++ [(x9 ++ [wrap64 ((wrap64 (x8 + 1)) + t486)])]) (wrap64 (x8 + 1))) else (none)) else (none)) else (if x7.length < 5864062014805 then (jacquardlaw02_GraphTree.l0 k x1 x5 x6 (x7 ++ [x9]) (wrap64 (x8 + 1))) else (none)))) else (none)) else (if x7.length < 5864062014805 then (jacquardlaw02_GraphTree.l0 k x1 x5 x6 (x7 ++ [x9]) (wrap64 (x8 + 1))) else (none))
end
def jacquardlaw02_GraphTree.f (k : Nat) (a0 : Int) (l1 : List Int) : Option (Bool) := (jacquardlaw02_awake.f).bind fun t480 => ((jacquardlaw02_rest.f a0 10).bind fun t481 => (jacquardlaw02_GraphTree.l0 k l1 t480 (wrap64 (1 + t481)) ([] : List (List Int)) 0))
theorem jacquardlaw02_GraphTree.mono_l : ∀ k, (∀ y0 y1 y2 y3 y4, LeO (jacquardlaw02_GraphTree.l0 k y0 y1 y2 y3 y4) (jacquardlaw02_GraphTree.l0 (k + 1) y0 y1 y2 y3 y4)) ∧ (∀ y0 y1 y2 y3 y4 y5, LeO (jacquardlaw02_GraphTree.j1 k y0 y1 y2 y3 y4 y5) (jacquardlaw02_GraphTree.j1 (k + 1) y0 y1 y2 y3 y4 y5))
  | 0 => ⟨fun _ _ _ _ _ r h => by simp [jacquardlaw02_GraphTree.l0] at h, fun _ _ _ _ _ _ r h => by simp [jacquardlaw02_GraphTree.j1] at h⟩
  | k + 1 => by
    obtain ⟨ih0, ih1⟩ := jacquardlaw02_GraphTree.mono_l k
    refine ⟨?_, ?_⟩
    · intro y0 y1 y2 y3 y4
      unfold jacquardlaw02_GraphTree.l0
      repeat' first
      | (with_reducible exact ih0 _ _ _ _ _)
      | (with_reducible exact ih1 _ _ _ _ _ _)
      | (with_reducible exact graph_Body.mono _ _ _)
      | (with_reducible exact graph_Headers.mono _ _)
      | (with_reducible exact graph_Reducible.mono _ _)
      | (with_reducible exact LeO.refl _)
      | (with_reducible exact LeO.none _)
      | (with_reducible refine LeO.ite ?_ ?_)
      | (with_reducible refine LeO.bind ?_ (fun _ => ?_))
      | exact ih0 _ _ _ _ _
      | exact ih1 _ _ _ _ _ _
      | exact graph_Body.mono _ _ _
      | exact graph_Headers.mono _ _
      | exact graph_Reducible.mono _ _
      | exact LeO.none _
      | refine LeO.ite ?_ ?_
      | refine LeO.bind ?_ (fun _ => ?_)
    · intro y0 y1 y2 y3 y4 y5
      unfold jacquardlaw02_GraphTree.j1
      repeat' first
      | (with_reducible exact ih0 _ _ _ _ _)
      | (with_reducible exact ih1 _ _ _ _ _ _)
      | (with_reducible exact graph_Body.mono _ _ _)
      | (with_reducible exact graph_Headers.mono _ _)
      | (with_reducible exact graph_Reducible.mono _ _)
      | (with_reducible exact LeO.refl _)
      | (with_reducible exact LeO.none _)
      | (with_reducible refine LeO.ite ?_ ?_)
      | (with_reducible refine LeO.bind ?_ (fun _ => ?_))
      | exact ih0 _ _ _ _ _
      | exact ih1 _ _ _ _ _ _
      | exact graph_Body.mono _ _ _
      | exact graph_Headers.mono _ _
      | exact graph_Reducible.mono _ _
      | exact LeO.none _
      | refine LeO.ite ?_ ?_
      | refine LeO.bind ?_ (fun _ => ?_)
theorem jacquardlaw02_GraphTree.mono : ∀ a0 a1 k, LeO (jacquardlaw02_GraphTree.f k a0 a1) (jacquardlaw02_GraphTree.f (k + 1) a0 a1) := by
  intro a0 a1 k
  obtain ⟨ih0, ih1⟩ := jacquardlaw02_GraphTree.mono_l k
  unfold jacquardlaw02_GraphTree.f
  repeat' first
      | (with_reducible exact ih0 _ _ _ _ _)
      | (with_reducible exact ih1 _ _ _ _ _ _)
      | (with_reducible exact graph_Body.mono _ _ _)
      | (with_reducible exact graph_Headers.mono _ _)
      | (with_reducible exact graph_Reducible.mono _ _)
      | (with_reducible exact LeO.refl _)
      | (with_reducible exact LeO.none _)
      | (with_reducible refine LeO.ite ?_ ?_)
      | (with_reducible refine LeO.bind ?_ (fun _ => ?_))
      | exact ih0 _ _ _ _ _
      | exact ih1 _ _ _ _ _ _
      | exact graph_Body.mono _ _ _
      | exact graph_Headers.mono _ _
      | exact graph_Reducible.mono _ _
      | exact LeO.none _
      | refine LeO.ite ?_ ?_
      | refine LeO.bind ?_ (fun _ => ?_)
set_option maxHeartbeats 8000000 in
set_option maxRecDepth 100000 in
theorem jacquardlaw02_GraphTree.calls (k : Nat) (a0 : Int) (A1 : Option Addr) (c1 : Nat) (l1 : List Int) (r : Bool) (w : World) (hr1 : Kd.C (Kd.int .i64) w A1 l1.length l1) (hc1 : l1.length ≤ c1) (h : jacquardlaw02_GraphTree.f k a0 l1 = some r) :
    Calls Try.prog 12 #[.int .i64 a0, .slice A1 l1.length c1] w fun e w' => e = .returned (.bool r) ∧ Below w.heap.size w w' := by
  have HR1 := Aside0.mk hr1
  have HC1 := Aside0.mk hc1
  clear hr1 hc1
  have HB := Aside0.mk (Below.refl w.heap.size w)
  have H : ((jacquardlaw02_awake.f).bind fun t480 => ((jacquardlaw02_rest.f a0 10).bind fun t481 => (jacquardlaw02_GraphTree.l0 k l1 t480 (wrap64 (1 + t481)) ([] : List (List Int)) 0))) = some r := h
  clear h
  replace H := Option.bind_eq_some_iff.mp H
  obtain ⟨t480, A30, H⟩ := H
  replace H : ((jacquardlaw02_rest.f a0 10).bind fun t481 => (jacquardlaw02_GraphTree.l0 k l1 t480 (wrap64 (1 + t481)) ([] : List (List Int)) 0)) = some r := H
  have A3 := Aside0.mk A30
  clear A30
  replace H := Option.bind_eq_some_iff.mp H
  obtain ⟨t481, A40, H⟩ := H
  replace H : (jacquardlaw02_GraphTree.l0 k l1 t480 (wrap64 (1 + t481)) ([] : List (List Int)) 0) = some r := H
  have A4 := Aside0.mk A40
  clear A40
  have H' := Aside0.mk H
  clear H
  go_enter Try.func12, Try.ntmps12
  go_wp2_with (first | ((with_reducible refine gate_callee (f := 22) rfl ?_); refine goesL_ (some 13) rfl rfl Try.func22 (by kernel_rfl) rfl #[] rfl (by (try simp only [List.map_toArray, List.map_cons, List.map_nil]); first | done | rfl | (simp only [List.length_drop, List.length_take]; rfl)) ?_; (with_reducible refine (jacquardlaw02_awake.calls  t480 _ A3.out).mono ?_); rintro e w5 ⟨rfl, hb⟩; refine ⟨_, rfl, ?_⟩; have n0_ := Aside0.mk (below_step (by repeat (first | (with_reducible first | exact HB.out | apply below_alloc | apply pw_below_drewN | apply below_drew1) | exact HB.out)) hb); clear HB; have HB := n0_; clear n0_; (try clear hb); (try clear hb2); (try clear hk); (try clear hi)) | ((with_reducible refine gate_callee (f := 31) rfl ?_); refine goesL_ (some 15) rfl rfl Try.func31 (by kernel_rfl) rfl #[.int .i64 a0, .int .i64 10] rfl (by (try simp only [List.map_toArray, List.map_cons, List.map_nil]); first | done | rfl | (simp only [List.length_drop, List.length_take]; rfl)) ?_; (with_reducible refine (jacquardlaw02_rest.calls a0 10 t481 _ A4.out).mono ?_); rintro e w' ⟨rfl, ⟨nd, rfl⟩⟩; refine ⟨_, rfl, ?_⟩))
  go_loopg [7, 8] k (fun kq v7 v8 w' => ∃ (x7_1 : List (List Int)) (x8_1 : Int), v8 = .int .i64 x8_1 ∧ Aside0 (jacquardlaw02_GraphTree.l0 kq l1 t480 (wrap64 (1 + t481)) x7_1 x8_1 = some r) ∧ Aside0 (kq ≤ k) ∧ Aside0 (Kd.S (Kd.slice 3 (Kd.int .i64)) 23 w' w.heap.size (fun _ => True) v7 x7_1) ∧ Aside0 (Below w.heap.size w w'))
  case atStart => exact ⟨(([] : List (List Int))), (0), (by first | rfl | (simp; done) | (simp [*]; done)), H', ⟨Nat.le_refl _⟩, ⟨by first | exact Kd.S_nil _ _ _ _ _ | exact Kd.N_nil _ _ _ _ _ | exact Kd.V_nil _ _ _ _ _ | exact Kd.Q_nil _ _ _ _ _ | exact Kd.R_nil _ _ _ _ _⟩, ⟨by repeat (first | (with_reducible first | exact HB.out | apply below_alloc | apply pw_below_drewN | apply below_drew1) | exact HB.out)⟩⟩
  case round =>
    clear H'; (try clear c1); (try clear c2); (try clear p2); (try clear c3)
    obtain ⟨x7_1, x8_1, rfl, HA, HK1, HO_7, HB⟩ := hrel
    cases gk with
    | zero => exact absurd HA.out (by simp [jacquardlaw02_GraphTree.l0])
    | succ k1 =>
      have H := HA.out
      clear HA
      simp only [jacquardlaw02_GraphTree.l0] at H
      by_cases c6 : x8_1 < (wrap64 (1 + t481))
      · rw [if_pos c6] at H
        have c6b0 : decide (x8_1 < (wrap64 (1 + t481))) = true := decide_eq_true c6
        clear c6
        have HC7 := Aside0.mk H
        clear H
        go_upto_if 25 with (fail)
        go_cut [9] (fun v9 wc => ∃ (kq : Nat) (x9_6 : List Int), Aside0 (jacquardlaw02_GraphTree.j1 kq l1 t480 (wrap64 (1 + t481)) x7_1 x8_1 x9_6 = some r) ∧ Aside0 (kq ≤ k1) ∧ Aside0 (Kd.S (Kd.slice 3 (Kd.int .i64)) 23 wc w.heap.size (fun k_ => some k_ ≠ (v9 : Value).ownBlock) u7 x7_1) ∧ Aside0 (Kd.R (Kd.int .i64) 3 wc w.heap.size (fun _ => True) v9 x9_6) ∧ Aside0 (Below w.heap.size w wc))
        case first =>
          have H := HC7.out
          clear HC7
          by_cases c8 : (wrap64 (x8_1 + 1)) < (wrap64 (1 + t481))
          · rw [if_pos c8] at H
            have c8b0 : decide ((wrap64 (x8_1 + 1)) < (wrap64 (1 + t481))) = true := decide_eq_true c8
            clear c8
            (first | rw [c8b0] | (simp only [i64_w, i32_w]; rw [c8b0]) | skip)
            by_cases c9 : ([] : List Int).length < 17592186044416
            · rw [if_pos c9] at H
              have LMc9 := Aside0.mk c9
              clear c9
              obtain ⟨y482, hy482⟩ : ∃ y_ : List Int, y_ = (([] : List Int) ++ [wrap64 (x8_1 + 1)]) := ⟨_, rfl⟩
              replace H : (jacquardlaw02_GraphTree.j1 k1 l1 t480 (wrap64 (1 + t481)) x7_1 x8_1 y482) = some r := by first | (rw [hy482]; with_reducible exact H) | (have H2_ := (Option.bind_some _ _).symm.trans H; rw [hy482]; with_reducible exact H2_) | (have H2_ := (Option.bind_some _ _).symm.trans H; with_reducible exact H2_) | with_reducible exact H | (rw [hy482]; exact H) | exact H
              have Ny482 := Aside0.mk hy482
              clear hy482
              have H' := Aside0.mk H
              clear H
              go_wp2_with (first | ((with_reducible refine gate_builtin (b := .append) (xs := #[.tmp 26, .tmp 29]) rfl ?_); (try (refine gate_guard (by rfl) ?_; dsimp only)); at_builtin; refine Kd.R_append (Kd.int .i64) (w0 := w) w.heap.size rfl (.tmp 26) (.tmp 29) 23 3 (.int .i64 0) 8 rfl Try.underlying23 info3 rfl (by decide) (by omega) (.slice none 0 0) ([] : List Int) (wrap64 (x8_1 + 1)) [.int .i64 (wrap64 (x8_1 + 1))] (fun _ => True) (fun _ => False) rfl rfl ?aP (fun _ hk => hk.elim) ?aF ?aO ?aB ?aS ?aL ?_; (case aP => exact rfl); (case aB => exact (by repeat (first | (with_reducible first | exact HB.out | apply below_alloc | apply pw_below_drewN | apply below_drew1) | exact HB.out))); (case aF => exact (fun _ _ => trivial)); (case aO => exact ((Kd.R_nil _ _ _ _ (fun _ => True)))); (case aS => exact (below_size (by repeat (first | (with_reducible first | exact HB.out | apply below_alloc | apply pw_below_drewN | apply below_drew1) | exact HB.out)))); (case aL => have := LMc9.out; omega); intro v483 w10 ho hb hg hat; rw [← Ny482.out] at ho; have n0_ := Aside0.mk (Kd.S_after (Kd.S_apart_nil (by (with_reducible repeat (first | apply Kd.S_alloc | apply Kd.S_drewN | apply Kd.S_drew)); exact HO_7.out)) hg hat); have n1_ := Aside0.mk (hb); have n2_ := Aside0.mk (ho); clear HO_7; clear HB; have HO_7 := n0_; have HB := n1_; have HO484 := n2_; clear n0_ n1_ n2_; clear ho hb hg hat))
              go_meet
              case rel => exact ⟨_, (y482), H', ⟨by have := HK1.out; first | omega | exact Nat.le_refl _⟩, ⟨by (with_reducible repeat (first | apply Kd.S_alloc | apply Kd.S_drewN | apply Kd.S_drew)); exact Kd.S_mono HO_7.out (fun _ hk => hk.2)⟩, ⟨by (with_reducible repeat (first | apply Kd.R_alloc | apply Kd.R_drewN | apply Kd.R_drew)); exact HO484.out⟩, ⟨by repeat (first | (with_reducible first | exact HB.out | apply below_alloc | apply pw_below_drewN | apply below_drew1) | exact HB.out)⟩⟩
            · rw [if_neg c9] at H
              exact absurd H (by simp)
          · rw [if_neg c8] at H
            have c8b0 : decide ((wrap64 (x8_1 + 1)) < (wrap64 (1 + t481))) = false := decide_eq_false c8
            clear c8
            (first | rw [c8b0] | (simp only [i64_w, i32_w]; rw [c8b0]) | skip)
            have H' := Aside0.mk H
            clear H
            go_wp2
            go_meet
            case rel => exact ⟨_, (([] : List Int)), H', ⟨by have := HK1.out; first | omega | exact Nat.le_refl _⟩, ⟨by (with_reducible repeat (first | apply Kd.S_alloc | apply Kd.S_drewN | apply Kd.S_drew)); exact Kd.S_mono HO_7.out (fun _ hk => (by simp [Value.ownBlock]))⟩, ⟨by first | exact Kd.R_nil _ _ _ _ _ | exact Kd.N_nil _ _ _ _ _ | exact Kd.V_nil _ _ _ _ _ | exact Kd.Q_nil _ _ _ _ _ | exact Kd.S_nil _ _ _ _ _⟩, ⟨by repeat (first | (with_reducible first | exact HB.out | apply below_alloc | apply pw_below_drewN | apply below_drew1) | exact HB.out)⟩⟩
        case rest =>
          clear HC7; (try clear c1); (try clear c2); (try clear p2); (try clear c3); (try clear c6); (try clear c6b0); (try clear p6); (try clear c8); (try clear c8b0); (try clear c9); (try clear p2)
          obtain ⟨kq, x9_6, HA, HJ6, HO_7, HO_9, HB⟩ := hcut
          cases kq with
          | zero => exact absurd HA.out (by simp [jacquardlaw02_GraphTree.j1])
          | succ kj6 =>
            have H := HA.out
            clear HA
            simp only [jacquardlaw02_GraphTree.j1] at H
            by_cases c11 : x8_1 < (l1.length : Int)
            · rw [if_pos c11] at H
              have c11b0 : decide (x8_1 < (l1.length : Int)) = true := decide_eq_true c11
              clear c11
              by_cases c12 : 0 ≤ x8_1
              · rw [if_pos c12] at H
                have c12b0 : decide (0 ≤ x8_1) = true := decide_eq_true c12
                clear c12
                replace H := Option.bind_eq_some_iff.mp H
                obtain ⟨t486, A130, H⟩ := H
                replace H : (if (wrap64 ((wrap64 (x8_1 + 1)) + t486)) < (wrap64 (1 + t481)) then (if x9_6.length < 17592186044416 then (if x7_1.length < 5864062014805 then (jacquardlaw02_GraphTree.l0 kj6 l1 t480 (wrap64 (1 + t481)) (x7_1 ++ [(x9_6 ++ [wrap64 ((wrap64 (x8_1 + 1)) + t486)])]) (wrap64 (x8_1 + 1))) else (none)) else (none)) else (if x7_1.length < 5864062014805 then (jacquardlaw02_GraphTree.l0 kj6 l1 t480 (wrap64 (1 + t481)) (x7_1 ++ [x9_6]) (wrap64 (x8_1 + 1))) else (none))) = some r := H
                have A13 := Aside0.mk A130
                clear A130
                by_cases c14 : (wrap64 ((wrap64 (x8_1 + 1)) + t486)) < (wrap64 (1 + t481))
                · rw [if_pos c14] at H
                  have c14b0 : decide ((wrap64 ((wrap64 (x8_1 + 1)) + t486)) < (wrap64 (1 + t481))) = true := decide_eq_true c14
                  clear c14
                  by_cases c15 : x9_6.length < 17592186044416
                  · rw [if_pos c15] at H
                    have LMc15 := Aside0.mk c15
                    clear c15
                    obtain ⟨y487, hy487⟩ : ∃ y_ : List Int, y_ = (x9_6 ++ [wrap64 ((wrap64 (x8_1 + 1)) + t486)]) := ⟨_, rfl⟩
                    replace H : (if x7_1.length < 5864062014805 then (jacquardlaw02_GraphTree.l0 kj6 l1 t480 (wrap64 (1 + t481)) (x7_1 ++ [y487]) (wrap64 (x8_1 + 1))) else (none)) = some r := by first | (rw [hy487]; with_reducible exact H) | (have H2_ := (Option.bind_some _ _).symm.trans H; rw [hy487]; with_reducible exact H2_) | (have H2_ := (Option.bind_some _ _).symm.trans H; with_reducible exact H2_) | with_reducible exact H | (rw [hy487]; exact H) | exact H
                    have Ny487 := Aside0.mk hy487
                    clear hy487
                    by_cases c16 : x7_1.length < 5864062014805
                    · rw [if_pos c16] at H
                      have LMc16 := Aside0.mk c16
                      clear c16
                      obtain ⟨y490, hy490⟩ : ∃ y_ : List (List Int), y_ = (x7_1 ++ [y487]) := ⟨_, rfl⟩
                      replace H : (jacquardlaw02_GraphTree.l0 kj6 l1 t480 (wrap64 (1 + t481)) y490 (wrap64 (x8_1 + 1))) = some r := by first | (rw [hy490]; with_reducible exact H) | (have H2_ := (Option.bind_some _ _).symm.trans H; rw [hy490]; with_reducible exact H2_) | (have H2_ := (Option.bind_some _ _).symm.trans H; with_reducible exact H2_) | with_reducible exact H | (rw [hy490]; exact H) | exact H
                      have Ny490 := Aside0.mk hy490
                      clear hy490
                      have H' := Aside0.mk H
                      clear H
                      have p485 : 0 ≤ (x8_1 : Int) := of_decide_eq_true (by first | (with_reducible assumption) | assumption)
                      have q485 : x8_1 < (l1.length : Int) := of_decide_eq_true (by first | (with_reducible assumption) | assumption)
                      obtain ⟨ad485, e485, hx485_0⟩ := Kd.at_int HR1.out x8_1 p485 q485
                      cases e485
                      replace hx485_0 := (HB.out.cell (World.block_lt_of_cell? w _ hx485_0)).trans hx485_0
                      replace p485 := eq_true p485
                      replace q485 := eq_true q485
                      go_wp2_with (first | ((with_reducible refine gate_callee (f := 31) rfl ?_); refine goesL_ (some 42) rfl rfl Try.func31 (by kernel_rfl) rfl #[.int .i64 (rd l1 x8_1), .int .i64 (wrap64 (1 + t481))] rfl (by (try simp only [List.map_toArray, List.map_cons, List.map_nil]); first | done | rfl | (simp only [List.length_drop, List.length_take]; rfl)) ?_; (with_reducible refine (jacquardlaw02_rest.calls (rd l1 x8_1) (wrap64 (1 + t481)) t486 _ A13.out).mono ?_); rintro e w' ⟨rfl, ⟨nd, rfl⟩⟩; refine ⟨_, rfl, ?_⟩) | ((with_reducible refine gate_builtin (b := .append) (xs := #[.tmp 47, .tmp 49]) rfl ?_); (try (refine gate_guard (by rfl) ?_; dsimp only)); at_builtin; refine Kd.R_append (Kd.int .i64) (w0 := w) w.heap.size rfl (.tmp 47) (.tmp 49) 23 3 (.int .i64 0) 8 rfl Try.underlying23 info3 rfl (by decide) (by omega) u9 x9_6 (wrap64 ((wrap64 (x8_1 + 1)) + t486)) [.int .i64 (wrap64 ((wrap64 (x8_1 + 1)) + t486))] (fun _ => True) (fun _ => False) rfl rfl ?aP (fun _ hk => hk.elim) ?aF ?aO ?aB ?aS ?aL ?_; (case aP => exact rfl); (case aB => exact (by repeat (first | (with_reducible first | exact HB.out | apply below_alloc | apply pw_below_drewN | apply below_drew1) | exact HB.out))); (case aF => exact (fun _ _ => trivial)); (case aO => exact (by (with_reducible repeat (first | apply Kd.R_alloc | apply Kd.R_drewN | apply Kd.R_drew)); exact HO_9.out)); (case aS => exact (below_size (by repeat (first | (with_reducible first | exact HB.out | apply below_alloc | apply pw_below_drewN | apply below_drew1) | exact HB.out)))); (case aL => have := LMc15.out; omega); intro v488 w17 ho hb hg hat; rw [← Ny487.out] at ho; have n0_ := Aside0.mk (Kd.S_after (ok := (fun _ => True)) (by (with_reducible repeat (first | apply Kd.S_alloc | apply Kd.S_drewN | apply Kd.S_drew)); exact Kd.S_mono HO_7.out (fun _ hk => ⟨trivial, hk⟩)) hg hat); have n1_ := Aside0.mk (hb); have n2_ := Aside0.mk (ho); clear HO_7; clear HB; clear HO_9; have HO_7 := n0_; have HB := n1_; have HO489 := n2_; clear n0_ n1_ n2_; clear ho hb hg hat; obtain ⟨Ao19, co19, eo19⟩ := Kd.R_slice HO489.out; subst eo19) | ((with_reducible refine gate_builtin (b := .append) (xs := #[.tmp 51, .tmp 53]) rfl ?_); (try (refine gate_guard (by rfl) ?_; dsimp only)); at_builtin; refine Kd.S_append (Kd.slice 3 (Kd.int .i64)) (w0 := w) w.heap.size rfl (.tmp 51) (.tmp 53) 22 23 (.slice none 0 0) 24 rfl Try.underlying22 info23 rfl (by decide) (by omega) u7 x7_1 y487 [.slice Ao19 y487.length co19] (fun _ => True) (fun k_ => some k_ = (.slice Ao19 y487.length co19 : Value).ownBlock) rfl rfl ?aP (fun k_ hk_ => ((Kd.R_mono (ok' := fun k_ => ((fun _ => True)) k_ ∧ some k_ ≠ (u7 : Value).ownBlock) (Kd.R_apart' (HO489.out) (Kd.S_typed HO_7.out) (by decide)) (fun k_ hk => ⟨trivial, hk.2⟩))).1 k_ hk_.symm) ?aF ?aO ?aB ?aS ?aL ?_; (case aP => exact Kd.M_row (Kd.R_mono (Kd.R_tight rfl (Kd.R_mono (ok' := fun k_ => ((fun _ => True)) k_ ∧ some k_ ≠ (u7 : Value).ownBlock) (Kd.R_apart' (HO489.out) (Kd.S_typed HO_7.out) (by decide)) (fun k_ hk => ⟨trivial, hk.2⟩))) (fun _ h_ => h_))); (case aB => exact (by repeat (first | (with_reducible first | exact HB.out | apply below_alloc | apply pw_below_drewN | apply below_drew1) | exact HB.out))); (case aF => exact (fun _ _ => trivial)); (case aO => exact (by (with_reducible repeat (first | apply Kd.S_alloc | apply Kd.S_drewN | apply Kd.S_drew)); exact Kd.S_mono HO_7.out (fun k_ hk => ⟨trivial, fun e_ => hk.2 e_⟩))); (case aS => exact (below_size (by repeat (first | (with_reducible first | exact HB.out | apply below_alloc | apply pw_below_drewN | apply below_drew1) | exact HB.out)))); (case aL => have := LMc16.out; omega); intro v491 w18 ho hb hg hat; rw [← Ny490.out] at ho; have n0_ := Aside0.mk (hb); have n1_ := Aside0.mk (ho); clear HB; clear HO_7; clear HO489; have HB := n0_; have HO492 := n1_; clear n0_ n1_; clear ho hb hg hat))
                      go_roundg kj6
                      case measure => have := HK1.out; have := HJ6.out; omega
                      case rel => exact ⟨(y490), (wrap64 (x8_1 + 1)), (by first | rfl | (simp; done) | (simp [*]; done)), H', ⟨by have := HK1.out; have := HJ6.out; omega⟩, ⟨by (with_reducible repeat (first | apply Kd.S_alloc | apply Kd.S_drewN | apply Kd.S_drew)); exact HO492.out⟩, ⟨by repeat (first | (with_reducible first | exact HB.out | apply below_alloc | apply pw_below_drewN | apply below_drew1) | exact HB.out)⟩⟩
                    · rw [if_neg c16] at H
                      exact absurd H (by simp)
                  · rw [if_neg c15] at H
                    exact absurd H (by simp)
                · rw [if_neg c14] at H
                  have c14b0 : decide ((wrap64 ((wrap64 (x8_1 + 1)) + t486)) < (wrap64 (1 + t481))) = false := decide_eq_false c14
                  clear c14
                  by_cases c20 : x7_1.length < 5864062014805
                  · rw [if_pos c20] at H
                    have LMc20 := Aside0.mk c20
                    clear c20
                    obtain ⟨y493, hy493⟩ : ∃ y_ : List (List Int), y_ = (x7_1 ++ [x9_6]) := ⟨_, rfl⟩
                    replace H : (jacquardlaw02_GraphTree.l0 kj6 l1 t480 (wrap64 (1 + t481)) y493 (wrap64 (x8_1 + 1))) = some r := by first | (rw [hy493]; with_reducible exact H) | (have H2_ := (Option.bind_some _ _).symm.trans H; rw [hy493]; with_reducible exact H2_) | (have H2_ := (Option.bind_some _ _).symm.trans H; with_reducible exact H2_) | with_reducible exact H | (rw [hy493]; exact H) | exact H
                    have Ny493 := Aside0.mk hy493
                    clear hy493
                    have H' := Aside0.mk H
                    clear H
                    have p485 : 0 ≤ (x8_1 : Int) := of_decide_eq_true (by first | (with_reducible assumption) | assumption)
                    have q485 : x8_1 < (l1.length : Int) := of_decide_eq_true (by first | (with_reducible assumption) | assumption)
                    obtain ⟨ad485, e485, hx485_0⟩ := Kd.at_int HR1.out x8_1 p485 q485
                    cases e485
                    replace hx485_0 := (HB.out.cell (World.block_lt_of_cell? w _ hx485_0)).trans hx485_0
                    replace p485 := eq_true p485
                    replace q485 := eq_true q485
                    go_wp2_with (first | ((with_reducible refine gate_callee (f := 31) rfl ?_); refine goesL_ (some 42) rfl rfl Try.func31 (by kernel_rfl) rfl #[.int .i64 (rd l1 x8_1), .int .i64 (wrap64 (1 + t481))] rfl (by (try simp only [List.map_toArray, List.map_cons, List.map_nil]); first | done | rfl | (simp only [List.length_drop, List.length_take]; rfl)) ?_; (with_reducible refine (jacquardlaw02_rest.calls (rd l1 x8_1) (wrap64 (1 + t481)) t486 _ A13.out).mono ?_); rintro e w' ⟨rfl, ⟨nd, rfl⟩⟩; refine ⟨_, rfl, ?_⟩; obtain ⟨Ao22, co22, eo22⟩ := Kd.R_slice HO_9.out; subst eo22) | ((with_reducible refine gate_builtin (b := .append) (xs := #[.tmp 51, .tmp 53]) rfl ?_); (try (refine gate_guard (by rfl) ?_; dsimp only)); at_builtin; refine Kd.S_append (Kd.slice 3 (Kd.int .i64)) (w0 := w) w.heap.size rfl (.tmp 51) (.tmp 53) 22 23 (.slice none 0 0) 24 rfl Try.underlying22 info23 rfl (by decide) (by omega) u7 x7_1 x9_6 [.slice Ao22 x9_6.length co22] (fun _ => True) (fun k_ => some k_ = (.slice Ao22 x9_6.length co22 : Value).ownBlock) rfl rfl ?aP (fun k_ hk_ => ((Kd.R_mono (ok' := fun k_ => ((fun _ => True)) k_ ∧ some k_ ≠ (u7 : Value).ownBlock) (Kd.R_apart' (HO_9.out) (Kd.S_typed HO_7.out) (by decide)) (fun k_ hk => ⟨trivial, hk.2⟩))).1 k_ hk_.symm) ?aF ?aO ?aB ?aS ?aL ?_; (case aP => exact Kd.M_row (Kd.R_mono (Kd.R_tight rfl (Kd.R_mono (ok' := fun k_ => ((fun _ => True)) k_ ∧ some k_ ≠ (u7 : Value).ownBlock) (Kd.R_apart' (HO_9.out) (Kd.S_typed HO_7.out) (by decide)) (fun k_ hk => ⟨trivial, hk.2⟩))) (fun _ h_ => h_))); (case aB => exact (by repeat (first | (with_reducible first | exact HB.out | apply below_alloc | apply pw_below_drewN | apply below_drew1) | exact HB.out))); (case aF => exact (fun _ _ => trivial)); (case aO => exact (by (with_reducible repeat (first | apply Kd.S_alloc | apply Kd.S_drewN | apply Kd.S_drew)); exact Kd.S_mono HO_7.out (fun k_ hk => ⟨trivial, fun e_ => hk e_⟩))); (case aS => exact (below_size (by repeat (first | (with_reducible first | exact HB.out | apply below_alloc | apply pw_below_drewN | apply below_drew1) | exact HB.out)))); (case aL => have := LMc20.out; omega); intro v494 w21 ho hb hg hat; rw [← Ny493.out] at ho; have n0_ := Aside0.mk (hb); have n1_ := Aside0.mk (ho); clear HB; clear HO_7; clear HO_9; have HB := n0_; have HO495 := n1_; clear n0_ n1_; clear ho hb hg hat))
                    go_roundg kj6
                    case measure => have := HK1.out; have := HJ6.out; omega
                    case rel => exact ⟨(y493), (wrap64 (x8_1 + 1)), (by first | rfl | (simp; done) | (simp [*]; done)), H', ⟨by have := HK1.out; have := HJ6.out; omega⟩, ⟨by (with_reducible repeat (first | apply Kd.S_alloc | apply Kd.S_drewN | apply Kd.S_drew)); exact HO495.out⟩, ⟨by repeat (first | (with_reducible first | exact HB.out | apply below_alloc | apply pw_below_drewN | apply below_drew1) | exact HB.out)⟩⟩
                  · rw [if_neg c20] at H
                    exact absurd H (by simp)
              · rw [if_neg c12] at H
                exact absurd H (by simp)
            · rw [if_neg c11] at H
              have c11b0 : decide (x8_1 < (l1.length : Int)) = false := decide_eq_false c11
              clear c11
              by_cases c23 : x7_1.length < 5864062014805
              · rw [if_pos c23] at H
                have LMc23 := Aside0.mk c23
                clear c23
                obtain ⟨y496, hy496⟩ : ∃ y_ : List (List Int), y_ = (x7_1 ++ [x9_6]) := ⟨_, rfl⟩
                replace H : (jacquardlaw02_GraphTree.l0 kj6 l1 t480 (wrap64 (1 + t481)) y496 (wrap64 (x8_1 + 1))) = some r := by first | (rw [hy496]; with_reducible exact H) | (have H2_ := (Option.bind_some _ _).symm.trans H; rw [hy496]; with_reducible exact H2_) | (have H2_ := (Option.bind_some _ _).symm.trans H; with_reducible exact H2_) | with_reducible exact H | (rw [hy496]; exact H) | exact H
                have Ny496 := Aside0.mk hy496
                clear hy496
                have H' := Aside0.mk H
                clear H
                obtain ⟨Ao25, co25, eo25⟩ := Kd.R_slice HO_9.out
                subst eo25
                go_wp2_with (first | ((with_reducible refine gate_builtin (b := .append) (xs := #[.tmp 51, .tmp 53]) rfl ?_); (try (refine gate_guard (by rfl) ?_; dsimp only)); at_builtin; refine Kd.S_append (Kd.slice 3 (Kd.int .i64)) (w0 := w) w.heap.size rfl (.tmp 51) (.tmp 53) 22 23 (.slice none 0 0) 24 rfl Try.underlying22 info23 rfl (by decide) (by omega) u7 x7_1 x9_6 [.slice Ao25 x9_6.length co25] (fun _ => True) (fun k_ => some k_ = (.slice Ao25 x9_6.length co25 : Value).ownBlock) rfl rfl ?aP (fun k_ hk_ => ((Kd.R_mono (ok' := fun k_ => ((fun _ => True)) k_ ∧ some k_ ≠ (u7 : Value).ownBlock) (Kd.R_apart' (HO_9.out) (Kd.S_typed HO_7.out) (by decide)) (fun k_ hk => ⟨trivial, hk.2⟩))).1 k_ hk_.symm) ?aF ?aO ?aB ?aS ?aL ?_; (case aP => exact Kd.M_row (Kd.R_mono (Kd.R_tight rfl (Kd.R_mono (ok' := fun k_ => ((fun _ => True)) k_ ∧ some k_ ≠ (u7 : Value).ownBlock) (Kd.R_apart' (HO_9.out) (Kd.S_typed HO_7.out) (by decide)) (fun k_ hk => ⟨trivial, hk.2⟩))) (fun _ h_ => h_))); (case aB => exact (by repeat (first | (with_reducible first | exact HB.out | apply below_alloc | apply pw_below_drewN | apply below_drew1) | exact HB.out))); (case aF => exact (fun _ _ => trivial)); (case aO => exact (by (with_reducible repeat (first | apply Kd.S_alloc | apply Kd.S_drewN | apply Kd.S_drew)); exact Kd.S_mono HO_7.out (fun k_ hk => ⟨trivial, fun e_ => hk e_⟩))); (case aS => exact (below_size (by repeat (first | (with_reducible first | exact HB.out | apply below_alloc | apply pw_below_drewN | apply below_drew1) | exact HB.out)))); (case aL => have := LMc23.out; omega); intro v497 w24 ho hb hg hat; rw [← Ny496.out] at ho; have n0_ := Aside0.mk (hb); have n1_ := Aside0.mk (ho); clear HB; clear HO_7; clear HO_9; have HB := n0_; have HO498 := n1_; clear n0_ n1_; clear ho hb hg hat))
                go_roundg kj6
                case measure => have := HK1.out; have := HJ6.out; omega
                case rel => exact ⟨(y496), (wrap64 (x8_1 + 1)), (by first | rfl | (simp; done) | (simp [*]; done)), H', ⟨by have := HK1.out; have := HJ6.out; omega⟩, ⟨by (with_reducible repeat (first | apply Kd.S_alloc | apply Kd.S_drewN | apply Kd.S_drew)); exact HO498.out⟩, ⟨by repeat (first | (with_reducible first | exact HB.out | apply below_alloc | apply pw_below_drewN | apply below_drew1) | exact HB.out)⟩⟩
              · rw [if_neg c23] at H
                exact absurd H (by simp)
      · rw [if_neg c6] at H
        have c6b0 : decide (x8_1 < (wrap64 (1 + t481))) = false := decide_eq_false c6
        clear c6
        replace H := Option.bind_eq_some_iff.mp H
        obtain ⟨t499, A260, H⟩ := H
        replace H : (if t499 = true then ((graph_Headers.f k1 x7_1).bind fun t500 => (if 0 ≤ (wrap64 ((wrap64 (1 + t481)) - 1)) then (if (wrap64 ((wrap64 (1 + t481)) - 1)) < (x7_1.length : Int) then (if (rd_L1 x7_1 (wrap64 ((wrap64 (1 + t481)) - 1))).length < 17592186044416 then ((some (x7_1.set ((wrap64 ((wrap64 (1 + t481)) - 1)) : Int).toNat ((rd_L1 x7_1 (wrap64 ((wrap64 (1 + t481)) - 1))) ++ [0]) : List (List Int))).bind fun y507 => ((graph_Headers.f k1 y507).bind fun t508 => (if t480 = true then (if (t500.length : Int) = 0 then (if (t508.length : Int) = 1 then (if 0 < (t508.length : Int) then (if (rd t508 0) = 0 then ((graph_Body.f k1 y507 0).bind fun t512 => (if (t512.length : Int) = (wrap64 (1 + t481)) then ((graph_Reducible.f k1 y507).bind fun t515 => (some t515)) else (some false))) else (some false)) else (none)) else (some false)) else (some false)) else (some false)))) else (none)) else (none)) else (none))) else (if 0 ≤ (wrap64 ((wrap64 (1 + t481)) - 1)) then (if (wrap64 ((wrap64 (1 + t481)) - 1)) < (x7_1.length : Int) then (if (rd_L1 x7_1 (wrap64 ((wrap64 (1 + t481)) - 1))).length < 17592186044416 then ((graph_Headers.f k1 (x7_1.set ((wrap64 ((wrap64 (1 + t481)) - 1)) : Int).toNat ((rd_L1 x7_1 (wrap64 ((wrap64 (1 + t481)) - 1))) ++ [0]))).bind fun t521 => (if t480 = true then (some false) else (some false))) else (none)) else (none)) else (none))) = some r := H
        have A26 := Aside0.mk A260
        clear A260
        by_cases c27 : t499 = true
        · subst c27
          have H1 : ((graph_Headers.f k1 x7_1).bind fun t500 => (if 0 ≤ (wrap64 ((wrap64 (1 + t481)) - 1)) then (if (wrap64 ((wrap64 (1 + t481)) - 1)) < (x7_1.length : Int) then (if (rd_L1 x7_1 (wrap64 ((wrap64 (1 + t481)) - 1))).length < 17592186044416 then ((some (x7_1.set ((wrap64 ((wrap64 (1 + t481)) - 1)) : Int).toNat ((rd_L1 x7_1 (wrap64 ((wrap64 (1 + t481)) - 1))) ++ [0]) : List (List Int))).bind fun y507 => ((graph_Headers.f k1 y507).bind fun t508 => (if t480 = true then (if (t500.length : Int) = 0 then (if (t508.length : Int) = 1 then (if 0 < (t508.length : Int) then (if (rd t508 0) = 0 then ((graph_Body.f k1 y507 0).bind fun t512 => (if (t512.length : Int) = (wrap64 (1 + t481)) then ((graph_Reducible.f k1 y507).bind fun t515 => (some t515)) else (some false))) else (some false)) else (none)) else (some false)) else (some false)) else (some false)))) else (none)) else (none)) else (none))) = some r := by rw [if_pos rfl] at H; exact H
          clear H
          have H := H1
          clear H1
          replace H := Option.bind_eq_some_iff.mp H
          obtain ⟨t500, A280, H⟩ := H
          replace H : (if 0 ≤ (wrap64 ((wrap64 (1 + t481)) - 1)) then (if (wrap64 ((wrap64 (1 + t481)) - 1)) < (x7_1.length : Int) then (if (rd_L1 x7_1 (wrap64 ((wrap64 (1 + t481)) - 1))).length < 17592186044416 then ((some (x7_1.set ((wrap64 ((wrap64 (1 + t481)) - 1)) : Int).toNat ((rd_L1 x7_1 (wrap64 ((wrap64 (1 + t481)) - 1))) ++ [0]) : List (List Int))).bind fun y507 => ((graph_Headers.f k1 y507).bind fun t508 => (if t480 = true then (if (t500.length : Int) = 0 then (if (t508.length : Int) = 1 then (if 0 < (t508.length : Int) then (if (rd t508 0) = 0 then ((graph_Body.f k1 y507 0).bind fun t512 => (if (t512.length : Int) = (wrap64 (1 + t481)) then ((graph_Reducible.f k1 y507).bind fun t515 => (some t515)) else (some false))) else (some false)) else (none)) else (some false)) else (some false)) else (some false)))) else (none)) else (none)) else (none)) = some r := H
          have A28 := Aside0.mk A280
          clear A280
          obtain ⟨ji29, hji29⟩ : ∃ j_ : Int, (wrap64 ((wrap64 (1 + t481)) - 1)) = j_ := ⟨_, rfl⟩
          replace H : (if 0 ≤ (ji29) then (if (ji29) < (x7_1.length : Int) then (if (rd_L1 x7_1 (ji29)).length < 17592186044416 then ((some (x7_1.set ((ji29) : Int).toNat ((rd_L1 x7_1 (ji29)) ++ [0]) : List (List Int))).bind fun y507 => ((graph_Headers.f k1 y507).bind fun t508 => (if t480 = true then (if (t500.length : Int) = 0 then (if (t508.length : Int) = 1 then (if 0 < (t508.length : Int) then (if (rd t508 0) = 0 then ((graph_Body.f k1 y507 0).bind fun t512 => (if (t512.length : Int) = (wrap64 (1 + t481)) then ((graph_Reducible.f k1 y507).bind fun t515 => (some t515)) else (some false))) else (some false)) else (none)) else (some false)) else (some false)) else (some false)))) else (none)) else (none)) else (none)) = some r := by first | (rw [hji29] at H; exact H) | (simp only [hji29] at H ⊢; exact H)
          (try rw [hji29] at A26)
          (try rw [hji29] at A28)
          have hji29w : (IntKind.i64.wrap ((wrap64 (1 + t481)) - 1)) = ji29 := (i64_w _).trans hji29
          by_cases c30 : 0 ≤ (ji29)
          · rw [if_pos c30] at H
            have c30b0 : decide (0 ≤ (ji29)) = true := decide_eq_true c30
            clear c30
            by_cases c31 : (ji29) < (x7_1.length : Int)
            · rw [if_pos c31] at H
              have c31b0 : decide ((ji29) < (x7_1.length : Int)) = true := decide_eq_true c31
              clear c31
              by_cases c32 : (rd_L1 x7_1 (ji29)).length < 17592186044416
              · rw [if_pos c32] at H
                have LMc32 := Aside0.mk c32
                clear c32
                obtain ⟨y504, hy504⟩ : ∃ y_ : List Int, y_ = ((rd_L1 x7_1 (ji29)) ++ [0]) := ⟨_, rfl⟩
                replace H : ((some (x7_1.set ((ji29) : Int).toNat y504 : List (List Int))).bind fun y507 => ((graph_Headers.f k1 y507).bind fun t508 => (if t480 = true then (if (t500.length : Int) = 0 then (if (t508.length : Int) = 1 then (if 0 < (t508.length : Int) then (if (rd t508 0) = 0 then ((graph_Body.f k1 y507 0).bind fun t512 => (if (t512.length : Int) = (wrap64 (1 + t481)) then ((graph_Reducible.f k1 y507).bind fun t515 => (some t515)) else (some false))) else (some false)) else (none)) else (some false)) else (some false)) else (some false)))) = some r := by first | (rw [hy504]; with_reducible exact H) | (have H2_ := (Option.bind_some _ _).symm.trans H; rw [hy504]; with_reducible exact H2_) | (have H2_ := (Option.bind_some _ _).symm.trans H; with_reducible exact H2_) | with_reducible exact H | (rw [hy504]; exact H) | exact H
                have Ny504 := Aside0.mk hy504
                clear hy504
                obtain ⟨y507, hy507⟩ : ∃ y_ : List (List Int), y_ = (x7_1.set ((ji29) : Int).toNat y504) := ⟨_, rfl⟩
                replace H : ((graph_Headers.f k1 y507).bind fun t508 => (if t480 = true then (if (t500.length : Int) = 0 then (if (t508.length : Int) = 1 then (if 0 < (t508.length : Int) then (if (rd t508 0) = 0 then ((graph_Body.f k1 y507 0).bind fun t512 => (if (t512.length : Int) = (wrap64 (1 + t481)) then ((graph_Reducible.f k1 y507).bind fun t515 => (some t515)) else (some false))) else (some false)) else (none)) else (some false)) else (some false)) else (some false))) = some r := by first | (rw [hy507]; with_reducible exact H) | (have H2_ := (Option.bind_some _ _).symm.trans H; rw [hy507]; with_reducible exact H2_) | (have H2_ := (Option.bind_some _ _).symm.trans H; with_reducible exact H2_) | with_reducible exact H | (rw [hy507]; exact H) | exact H
                have Ny507 := Aside0.mk hy507
                clear hy507
                replace H := Option.bind_eq_some_iff.mp H
                obtain ⟨t508, A340, H⟩ := H
                replace H : (if t480 = true then (if (t500.length : Int) = 0 then (if (t508.length : Int) = 1 then (if 0 < (t508.length : Int) then (if (rd t508 0) = 0 then ((graph_Body.f k1 y507 0).bind fun t512 => (if (t512.length : Int) = (wrap64 (1 + t481)) then ((graph_Reducible.f k1 y507).bind fun t515 => (some t515)) else (some false))) else (some false)) else (none)) else (some false)) else (some false)) else (some false)) = some r := H
                have A34 := Aside0.mk A340
                clear A340
                by_cases c35 : t480 = true
                · subst c35
                  have H1 : (if (t500.length : Int) = 0 then (if (t508.length : Int) = 1 then (if 0 < (t508.length : Int) then (if (rd t508 0) = 0 then ((graph_Body.f k1 y507 0).bind fun t512 => (if (t512.length : Int) = (wrap64 (1 + t481)) then ((graph_Reducible.f k1 y507).bind fun t515 => (some t515)) else (some false))) else (some false)) else (none)) else (some false)) else (some false)) = some r := by rw [if_pos rfl] at H; exact H
                  clear H
                  have H := H1
                  clear H1
                  by_cases c36 : (t500.length : Int) = 0
                  · rw [if_pos c36] at H
                    have c36b0 : ((t500.length : Int) == 0) = true := beq_iff_eq.mpr c36
                    have c36b1 : ((t500.length : Int) != 0) = false := bne_eq_false_iff_eq.mpr c36
                    clear c36
                    by_cases c37 : (t508.length : Int) = 1
                    · rw [if_pos c37] at H
                      have c37b0 : ((t508.length : Int) == 1) = true := beq_iff_eq.mpr c37
                      have c37b1 : ((t508.length : Int) != 1) = false := bne_eq_false_iff_eq.mpr c37
                      clear c37
                      by_cases c38 : 0 < (t508.length : Int)
                      · rw [if_pos c38] at H
                        have c38b0 : decide (0 < (t508.length : Int)) = true := decide_eq_true c38
                        have c38b1 : decide (0 < t508.length) = true := decide_eq_true (by omega)
                        clear c38
                        by_cases c39 : (rd t508 0) = 0
                        · rw [if_pos c39] at H
                          have c39b0 : ((rd t508 0) == 0) = true := beq_iff_eq.mpr c39
                          have c39b1 : ((rd t508 0) != 0) = false := bne_eq_false_iff_eq.mpr c39
                          clear c39
                          replace H := Option.bind_eq_some_iff.mp H
                          obtain ⟨t512, A400, H⟩ := H
                          replace H : (if (t512.length : Int) = (wrap64 (1 + t481)) then ((graph_Reducible.f k1 y507).bind fun t515 => (some t515)) else (some false)) = some r := H
                          have A40 := Aside0.mk A400
                          clear A400
                          by_cases c41 : (t512.length : Int) = (wrap64 (1 + t481))
                          · rw [if_pos c41] at H
                            have c41b0 : ((t512.length : Int) == (wrap64 (1 + t481))) = true := beq_iff_eq.mpr c41
                            have c41b1 : ((t512.length : Int) != (wrap64 (1 + t481))) = false := bne_eq_false_iff_eq.mpr c41
                            clear c41
                            replace H := Option.bind_eq_some_iff.mp H
                            obtain ⟨t515, A420, H⟩ := H
                            replace H : (some t515) = some r := H
                            have A42 := Aside0.mk A420
                            clear A420
                            obtain rfl := Option.some.inj H
                            obtain ⟨Ao43, co43, eo43⟩ := Kd.S_slice HO_7.out
                            subst eo43
                            go_wp2_with (first | ((with_reducible refine gate_callee (f := 49) rfl ?_); refine goesL_ (some 56) rfl rfl Try.func49 (by kernel_rfl) rfl #[.slice Ao43 x7_1.length co43] rfl (by (try simp only [List.map_toArray, List.map_cons, List.map_nil]); first | done | rfl | (simp only [List.length_drop, List.length_take]; rfl)) ?_; (with_reducible refine (graph_Reducible.calls k1 _ _ x7_1 true _ ?side1 ?side2 A26.out).mono ?_); (case side1 => repeat (first | exact (Kd.S_reads' HO_7.out).2.2 | (with_reducible refine Kd.C_alloc ?_ _) | (with_reducible refine Kd.C_drewN ?_ _) | (with_reducible refine Kd.C_drew ?_))); (case side2 => exact (Kd.S_reads' HO_7.out).2.1); rintro e w44 ⟨rfl, hb⟩; refine ⟨_, rfl, ?_⟩; have n0_ := Aside0.mk (Kd.S_below (by (with_reducible repeat (first | apply Kd.S_alloc | apply Kd.S_drewN | apply Kd.S_drew)); exact HO_7.out) hb); have n1_ := Aside0.mk (below_step (by repeat (first | (with_reducible first | exact HB.out | apply below_alloc | apply pw_below_drewN | apply below_drew1) | exact HB.out)) hb); clear HO_7; clear HB; have HO_7 := n0_; have HB := n1_; clear n0_ n1_; (try clear hb); (try clear hb2); (try clear hk); (try clear hi)) | (go_at_call 38; (with_reducible refine (graph_Headers.calls k1 _ _ x7_1 t500 _ ?side1 ?side2 A28.out).mono ?_); (case side1 => repeat (first | exact (Kd.S_reads' HO_7.out).2.2 | (with_reducible refine Kd.C_alloc ?_ _) | (with_reducible refine Kd.C_drewN ?_ _) | (with_reducible refine Kd.C_drew ?_))); (case side2 => exact (Kd.S_reads' HO_7.out).2.1); rintro e w45 ⟨v501, rfl, ho0, hb⟩; have n0_ := Aside0.mk (Kd.S_elder' (by (with_reducible repeat (first | apply Kd.S_alloc | apply Kd.S_drewN | apply Kd.S_drew)); exact HO_7.out) (Kd.R_base ho0) hb); have n1_ := Aside0.mk (Kd.R_lower ho0 (below_size (by repeat (first | (with_reducible first | exact HB.out | apply below_alloc | apply pw_below_drewN | apply below_drew1) | exact HB.out)))); have n2_ := Aside0.mk (below_step (by repeat (first | (with_reducible first | exact HB.out | apply below_alloc | apply pw_below_drewN | apply below_drew1) | exact HB.out)) hb); clear HO_7; clear HB; have HO_7 := n0_; have HO502 := n1_; have HB := n2_; clear n0_ n1_ n2_; (try clear hb); (try clear hb2); (try clear hk); (try clear hi); (try clear ho0); obtain ⟨Ao46, co46, eo46⟩ := Kd.R_slice HO502.out; subst eo46; have p503 : 0 ≤ ((ji29) : Int) := of_decide_eq_true (by first | (with_reducible assumption) | assumption); have q503 : (ji29) < (x7_1.length : Int) := of_decide_eq_true (by first | (with_reducible assumption) | assumption); obtain ⟨ad503, A503_0, c503_0, e503, hx503_0, hl503_0, hi503_0⟩ := at_L1 (Kd.S_reads' HO_7.out).2.2 (ji29) p503 q503; cases e503; obtain ⟨ce503, hce503, hMe503, hcc503⟩ := Kd.S_get HO_7.out [] (ji29) p503 (by first | exact q503 | exact of_decide_eq_true (by first | (with_reducible assumption) | assumption) | (have e_ := (Kd.S_reads' HO_7.out).1; omega)); obtain ⟨ve503_0, rfl, ge503_0⟩ := hMe503; have hv503_0 := hcc503 0 _ rfl; rw [Nat.add_zero, show ((Kd.slice 3 (Kd.int .i64))).sz = 1 from rfl, Nat.mul_one] at hv503_0; replace hv503_0 := Option.some.inj (hv503_0.symm.trans hx503_0); rw [hv503_0] at ge503_0; have HL503_0 := Aside0.mk (show Kd.R (Kd.int .i64) 3 _ _ _ _ (rd_L1 x7_1 (ji29)) from ge503_0); clear hv503_0 ge503_0; have HX503_0 := Aside0.mk hx503_0; clear hcc503 hce503; have HR503_0 := Aside0.mk hi503_0; have HC503_0 := Aside0.mk hl503_0; clear hi503_0 hl503_0; replace p503 := eq_true p503; replace q503 := eq_true q503; have n_ := Aside0.mk (Kd.S_mono (ok' := (fun k_ => some k_ ≠ (.slice Ao46 t500.length co46 : Value).ownBlock)) HO_7.out (fun k_ hk => hk.2)); clear HO_7; have HO_7 := n_; clear n_; obtain ⟨go47, co47, eo47, gb47, gl47, cl47, HG47⟩ := Kd.S_form HO_7.out (by have h_ : ((ji29) : Int) < ((x7_1.length : Int) : Int) := of_decide_eq_true (by first | (with_reducible assumption) | assumption); have h2_ : 0 ≤ ((ji29) : Int) := (of_decide_eq_true (by first | (with_reducible assumption) | assumption)); omega); (first | cases eo47 | (injection eo47 with ea_ en_ ec_; (first | subst ea_ | (injection ea_ with ea_; subst ea_)); subst ec_; clear en_)); have GB47 := Aside0.mk gb47; have GG47 := Aside0.mk HG47; clear gb47 gl47 HG47; (first | simp only [add_plain] at hx503_0 | skip); obtain ⟨oki47, ce47, hcl47, hM47, hcc47, _, _, hH47⟩ := Kd.S_elem HO_7.out [] ((ji29) : Int) (of_decide_eq_true (by first | (with_reducible assumption) | assumption)) (by have h_ : ((ji29) : Int) < ((x7_1.length : Int) : Int) := of_decide_eq_true (by first | (with_reducible assumption) | assumption); first | exact h_ | (have e_ := (Kd.S_reads' HO_7.out).1; omega) | simpa using h_); obtain ⟨ve47_0, rfl, ge47_0⟩ := hM47; have hv47 := hcc47 0 _ rfl; have hX47 := HX503_0.out; (try simp only [add_plain] at hX47); (try simp only [Nat.add_zero] at hv47); (try rw [show ((Kd.slice 3 (Kd.int .i64))).sz = 1 from rfl, Nat.mul_one] at hv47); replace hv47 := Option.some.inj (hv47.symm.trans hX47); subst hv47; clear hX47 hcc47 hcl47; have UU47 := Aside0.mk (show Kd.R (Kd.int .i64) 3 _ w.heap.size oki47 (.slice A503_0 (rd_L1 x7_1 (ji29)).length c503_0) (rd_L1 x7_1 (ji29)) from ge47_0); have HH47 := Aside0.mk hH47; have HN47 := Aside0.mk (Kd.S_reads' HO_7.out).1; clear hH47 ge47_0) | ((with_reducible refine gate_builtin (b := .append) (xs := #[.tmp 70, .tmp 71]) rfl ?_); (try (refine gate_guard (by rfl) ?_; dsimp only)); at_builtin; refine Kd.R_append (Kd.int .i64) (w0 := w) w.heap.size rfl (.tmp 70) (.tmp 71) 23 3 (.int .i64 0) 8 rfl Try.underlying23 info3 rfl (by decide) (by omega) (.slice A503_0 (rd_L1 x7_1 (ji29)).length c503_0) (rd_L1 x7_1 (ji29)) 0 [.int .i64 0] (fun k_ => oki47 k_ ∨ ((fun k_ => some k_ ≠ (.slice Ao46 t500.length co46 : Value).ownBlock)) k_ ∧ w45.heap.size ≤ k_) (fun _ => False) rfl rfl ?aP (fun _ hk => hk.elim) ?aF ?aO ?aB ?aS ?aL ?_; (case aP => exact rfl); (case aB => exact (by repeat (first | (with_reducible first | exact HB.out | apply below_alloc | apply pw_below_drewN | apply below_drew1) | exact HB.out))); (case aF => exact (fun k_ hk => .inr ⟨Kd.fresh' (Kd.R_lt (by (with_reducible repeat (first | apply Kd.R_alloc | apply Kd.R_drewN | apply Kd.R_drew)); exact HO502.out)) k_ hk, hk⟩)); (case aO => exact (by (with_reducible repeat (first | apply Kd.R_alloc | apply Kd.R_drewN | apply Kd.R_drew)); exact Kd.R_mono UU47.out (fun _ hk => .inl hk))); (case aS => exact (below_size (by repeat (first | (with_reducible first | exact HB.out | apply below_alloc | apply pw_below_drewN | apply below_drew1) | exact HB.out)))); (case aL => have := LMc32.out; omega); intro v505 w48 ho hb hg hat; rw [← Ny504.out] at ho; have n0_ := Aside0.mk (Kd.R_grown2 (by (with_reducible repeat (first | apply Kd.R_alloc | apply Kd.R_drewN | apply Kd.R_drew)); exact HO502.out) rfl hg (fun k_ e_ => (HL503_0.out.1 k_ e_).1.2)); have n1_ := Aside0.mk (hb); have n2_ := Aside0.mk (Kd.H_grown (Kd.H_widen (by repeat (first | exact HH47.out | refine Kd.H_alloc ?_ _ | refine Kd.H_drewN ?_ _ | refine Kd.H_drew ?_))) hg (fun k_ e_ => .inl (UU47.out.1 k_ e_))); have n3_ := Aside0.mk (ho); clear HO502; clear HB; clear HH47; clear HO_7; clear UU47; clear HL503_0; have HO502 := n0_; have HB := n1_; have HH47 := n2_; have HO506 := n3_; clear n0_ n1_ n2_ n3_; clear ho hb hg hat; have p33 : 0 ≤ ((ji29) : Int) := of_decide_eq_true (by first | (with_reducible assumption) | assumption); have q33 : ((ji29) : Int) < ((x7_1.length : Int) : Int) := of_decide_eq_true (by first | (with_reducible assumption) | assumption); replace p33 := eq_true p33; replace q33 := eq_true q33; obtain ⟨Ao51, co51, eo51⟩ := Kd.R_slice HO506.out; subst eo51; obtain ⟨_, _, hraw49, _, _, hcc49, _⟩ := Kd.H_raw HH47.out (of_decide_eq_true (by first | (with_reducible assumption) | assumption)) (by have h_ : ((ji29) : Int) < ((x7_1.length : Int) : Int) := of_decide_eq_true (by first | (with_reducible assumption) | assumption); first | exact h_ | (have e_ := (HN47.out); omega) | simpa using h_); obtain ⟨_, hfr49⟩ := Kd.H_at HH47.out (of_decide_eq_true (by first | (with_reducible assumption) | assumption)) (by have h_ : ((ji29) : Int) < ((x7_1.length : Int) : Int) := of_decide_eq_true (by first | (with_reducible assumption) | assumption); first | exact h_ | (have e_ := (HN47.out); omega) | simpa using h_); have hx49_0 := hcc49 0 _ rfl; have hf49_0 := hfr49 0; (try simp only [Nat.add_zero] at hx49_0 hf49_0); (try rw [show ((Kd.slice 3 (Kd.int .i64))).sz = 1 from rfl, Nat.mul_one] at hx49_0); (try rw [show ((Kd.slice 3 (Kd.int .i64))).sz = 1 from rfl, Nat.mul_one] at hf49_0); have HP49 := Kd.S_seg0 HH47.out (of_decide_eq_true (by first | (with_reducible assumption) | assumption)) (by have h_ : ((ji29) : Int) < ((x7_1.length : Int) : Int) := of_decide_eq_true (by first | (with_reducible assumption) | assumption); first | exact h_ | (have e_ := (HN47.out); omega) | simpa using h_) (seg := [.slice Ao51 y504.length co51]) (j := 0) (show 1 ≤ 1 from by decide) (x' := y504) (Kd.M_row HO506.out) (fun _ hk => hk); (try simp only [show ((Kd.slice 3 (Kd.int .i64))).sz = 1 from rfl, Nat.mul_one, Nat.add_zero] at HP49); clear hcc49 hfr49) | ((with_reducible refine gate_store (t := 23) (p := 73) rfl ?_); refine store_event (t := 23) (p := 73) (v := ?vo_w50) (w1 := (w48.setCell ⟨go47, ((ji29) : Int).toNat, none⟩ (.slice Ao51 y504.length co51))) ?hg ?ho ?hn ?hr ?_; (case ho => rfl); (case hg => rfl); (case hn => rfl); (case hr => first | (go_simp; done) | (go_simp; rfl)); intro w50 hw; have hg : w48.grownBy w50 (some go47) := (by rw [hw]; exact HP49.2); have hp_ : Kd.S (Kd.slice 3 (Kd.int .i64)) 23 w50 w.heap.size (fun k_ => some k_ ≠ (.slice Ao46 t500.length co46 : Value).ownBlock) (.slice (some ⟨go47, 0, none⟩) x7_1.length co43) y507 := (by rw [hw, Ny507.out]; exact HP49.1); clear HP49; have n0_ := Aside0.mk (Kd.R_over' (v := (.slice (some ⟨go47, 0, none⟩) x7_1.length co43)) (by (with_reducible repeat (first | apply Kd.R_alloc | apply Kd.R_drewN | apply Kd.R_drew)); exact HO502.out) (Kd.R_typed hraw49) (by decide) hg); have n1_ := Aside0.mk ((by rw [hw]; exact below_set HB.out GB47.out : Below w.heap.size w w50)); have n2_ := Aside0.mk (hp_); clear HO502; clear HB; clear HO506; clear HH47; have HO502 := n0_; have HB := n1_; have HO_7 := n2_; clear n0_ n1_ n2_; clear hg hw hp_ hraw49) | ((with_reducible refine gate_callee (f := 38) rfl ?_); refine goesL_ (some 75) rfl rfl Try.func38 (by kernel_rfl) rfl #[.slice (some ⟨go47, 0, none⟩) y507.length co43] rfl (by (try simp only [List.map_toArray, List.map_cons, List.map_nil]); first | done | (rw [show y507.length = x7_1.length from (Kd.S_reads' HO_7.out).1.symm] <;> rfl) | rfl | (simp only [List.length_drop, List.length_take]; rfl)) ?_; (with_reducible refine (graph_Headers.calls k1 _ _ y507 t508 _ ?side1 ?side2 A34.out).mono ?_); (case side1 => repeat (first | exact (Kd.S_reads' HO_7.out).2.2 | (with_reducible refine Kd.C_alloc ?_ _) | (with_reducible refine Kd.C_drewN ?_ _) | (with_reducible refine Kd.C_drew ?_))); (case side2 => rw [show y507.length = x7_1.length from (Kd.S_reads' HO_7.out).1.symm]; exact (Kd.S_reads' HO_7.out).2.1); rintro e w52 ⟨v509, rfl, ho0, hb⟩; refine ⟨_, rfl, ?_⟩; have n0_ := Aside0.mk (Kd.R_elder' (by (with_reducible repeat (first | apply Kd.R_alloc | apply Kd.R_drewN | apply Kd.R_drew)); exact HO502.out) (Kd.R_base ho0) hb); have n1_ := Aside0.mk (Kd.S_elder' (by (with_reducible repeat (first | apply Kd.S_alloc | apply Kd.S_drewN | apply Kd.S_drew)); exact HO_7.out) (Kd.R_base ho0) hb); have n2_ := Aside0.mk (Kd.R_lower (Kd.R_new' ho0 (Kd.R_lt (by (with_reducible repeat (first | apply Kd.R_alloc | apply Kd.R_drewN | apply Kd.R_drew)); exact HO502.out))) (below_size (by repeat (first | (with_reducible first | exact HB.out | apply below_alloc | apply pw_below_drewN | apply below_drew1) | exact HB.out)))); have n3_ := Aside0.mk (below_step (by repeat (first | (with_reducible first | exact HB.out | apply below_alloc | apply pw_below_drewN | apply below_drew1) | exact HB.out)) hb); clear HO502; clear HO_7; clear HB; have HO502 := n0_; have HO_7 := n1_; have HO510 := n2_; have HB := n3_; clear n0_ n1_ n2_ n3_; (try clear hb); (try clear hb2); (try clear hk); (try clear hi); (try clear ho0); obtain ⟨Ao53, co53, eo53⟩ := Kd.R_slice HO510.out; subst eo53; have p511 : 0 ≤ (0 : Int) := (by omega); have q511 : 0 < (t508.length : Int) := of_decide_eq_true (by first | (with_reducible assumption) | assumption); obtain ⟨ad511, e511, hx511_0⟩ := Kd.at_int (Kd.R_reads' HO510.out).2.2 0 p511 q511; cases e511; have qi511 : (0 < t508.length) = True := eq_true (by omega); (try rw [show ((0 : Int)).toNat = 0 from rfl] at hx511_0); (try rw [Addr.add_zero'] at hx511_0); replace p511 := eq_true p511; replace q511 := eq_true q511) | (go_at_call 39; refine calls_of_args (args' := #[.slice (some ⟨go47, 0, none⟩) y507.length co43, .int .i64 0]) (by first | (rw [show y507.length = x7_1.length from (Kd.S_reads' HO_7.out).1.symm] <;> rfl) | rfl) ?_; (with_reducible refine (graph_Body.calls k1 _ _ y507 0 t512 _ ?side1 ?side2 A40.out).mono ?_); (case side1 => repeat (first | exact (Kd.S_reads' HO_7.out).2.2 | (with_reducible refine Kd.C_alloc ?_ _) | (with_reducible refine Kd.C_drewN ?_ _) | (with_reducible refine Kd.C_drew ?_))); (case side2 => rw [show y507.length = x7_1.length from (Kd.S_reads' HO_7.out).1.symm]; exact (Kd.S_reads' HO_7.out).2.1); rintro e w54 ⟨v513, rfl, ho0, hb⟩; have n0_ := Aside0.mk (Kd.R_elder' (by (with_reducible repeat (first | apply Kd.R_alloc | apply Kd.R_drewN | apply Kd.R_drew)); exact HO502.out) (Kd.R_base ho0) hb); have n1_ := Aside0.mk (Kd.S_elder' (by (with_reducible repeat (first | apply Kd.S_alloc | apply Kd.S_drewN | apply Kd.S_drew)); exact HO_7.out) (Kd.R_base ho0) hb); have n2_ := Aside0.mk (Kd.R_elder' (by (with_reducible repeat (first | apply Kd.R_alloc | apply Kd.R_drewN | apply Kd.R_drew)); exact HO510.out) (Kd.R_base ho0) hb); have n3_ := Aside0.mk (Kd.R_lower (Kd.R_new' (Kd.R_new' ho0 (Kd.R_lt (by (with_reducible repeat (first | apply Kd.R_alloc | apply Kd.R_drewN | apply Kd.R_drew)); exact HO502.out))) (Kd.R_lt (by (with_reducible repeat (first | apply Kd.R_alloc | apply Kd.R_drewN | apply Kd.R_drew)); exact HO510.out))) (below_size (by repeat (first | (with_reducible first | exact HB.out | apply below_alloc | apply pw_below_drewN | apply below_drew1) | exact HB.out)))); have n4_ := Aside0.mk (below_step (by repeat (first | (with_reducible first | exact HB.out | apply below_alloc | apply pw_below_drewN | apply below_drew1) | exact HB.out)) hb); clear HO502; clear HO_7; clear HO510; clear HB; have HO502 := n0_; have HO_7 := n1_; have HO510 := n2_; have HO514 := n3_; have HB := n4_; clear n0_ n1_ n2_ n3_ n4_; (try clear hb); (try clear hb2); (try clear hk); (try clear hi); (try clear ho0); obtain ⟨Ao55, co55, eo55⟩ := Kd.R_slice HO514.out; subst eo55) | (go_at_call 49; refine calls_of_args (args' := #[.slice (some ⟨go47, 0, none⟩) y507.length co43]) (by first | (rw [show y507.length = x7_1.length from (Kd.S_reads' HO_7.out).1.symm] <;> rfl) | rfl) ?_; (with_reducible refine (graph_Reducible.calls k1 _ _ y507 t515 _ ?side1 ?side2 A42.out).mono ?_); (case side1 => repeat (first | exact (Kd.S_reads' HO_7.out).2.2 | (with_reducible refine Kd.C_alloc ?_ _) | (with_reducible refine Kd.C_drewN ?_ _) | (with_reducible refine Kd.C_drew ?_))); (case side2 => rw [show y507.length = x7_1.length from (Kd.S_reads' HO_7.out).1.symm]; exact (Kd.S_reads' HO_7.out).2.1); rintro e w56 ⟨rfl, hb⟩; have n0_ := Aside0.mk (Kd.R_below (by (with_reducible repeat (first | apply Kd.R_alloc | apply Kd.R_drewN | apply Kd.R_drew)); exact HO502.out) hb); have n1_ := Aside0.mk (Kd.S_below (by (with_reducible repeat (first | apply Kd.S_alloc | apply Kd.S_drewN | apply Kd.S_drew)); exact HO_7.out) hb); have n2_ := Aside0.mk (Kd.R_below (by (with_reducible repeat (first | apply Kd.R_alloc | apply Kd.R_drewN | apply Kd.R_drew)); exact HO510.out) hb); have n3_ := Aside0.mk (Kd.R_below (by (with_reducible repeat (first | apply Kd.R_alloc | apply Kd.R_drewN | apply Kd.R_drew)); exact HO514.out) hb); have n4_ := Aside0.mk (below_step (by repeat (first | (with_reducible first | exact HB.out | apply below_alloc | apply pw_below_drewN | apply below_drew1) | exact HB.out)) hb); clear HO502; clear HO_7; clear HO510; clear HO514; clear HB; have HO502 := n0_; have HO_7 := n1_; have HO510 := n2_; have HO514 := n3_; have HB := n4_; clear n0_ n1_ n2_ n3_ n4_; (try clear hb); (try clear hb2); (try clear hk); (try clear hi)))
                            go_ret
                            exact ⟨by first | rfl | (simp [errW_none, errW_some] <;> rfl) | (simp only [← hji29]; first | rfl | (simp [errW_none, errW_some] <;> rfl)) | (simp [*, errW_none, errW_some] <;> rfl), by repeat (first | (with_reducible first | exact HB.out | apply below_alloc | apply pw_below_drewN | apply below_drew1) | exact HB.out)⟩
                          · rw [if_neg c41] at H
                            have c41b0 : ((t512.length : Int) == (wrap64 (1 + t481))) = false := beq_eq_false_iff_ne.mpr c41
                            have c41b1 : ((t512.length : Int) != (wrap64 (1 + t481))) = true := bne_iff_ne.mpr c41
                            obtain rfl := Option.some.inj H
                            obtain ⟨Ao57, co57, eo57⟩ := Kd.S_slice HO_7.out
                            subst eo57
                            go_wp2_with (first | ((with_reducible refine gate_callee (f := 49) rfl ?_); refine goesL_ (some 56) rfl rfl Try.func49 (by kernel_rfl) rfl #[.slice Ao57 x7_1.length co57] rfl (by (try simp only [List.map_toArray, List.map_cons, List.map_nil]); first | done | rfl | (simp only [List.length_drop, List.length_take]; rfl)) ?_; (with_reducible refine (graph_Reducible.calls k1 _ _ x7_1 true _ ?side1 ?side2 A26.out).mono ?_); (case side1 => repeat (first | exact (Kd.S_reads' HO_7.out).2.2 | (with_reducible refine Kd.C_alloc ?_ _) | (with_reducible refine Kd.C_drewN ?_ _) | (with_reducible refine Kd.C_drew ?_))); (case side2 => exact (Kd.S_reads' HO_7.out).2.1); rintro e w58 ⟨rfl, hb⟩; refine ⟨_, rfl, ?_⟩; have n0_ := Aside0.mk (Kd.S_below (by (with_reducible repeat (first | apply Kd.S_alloc | apply Kd.S_drewN | apply Kd.S_drew)); exact HO_7.out) hb); have n1_ := Aside0.mk (below_step (by repeat (first | (with_reducible first | exact HB.out | apply below_alloc | apply pw_below_drewN | apply below_drew1) | exact HB.out)) hb); clear HO_7; clear HB; have HO_7 := n0_; have HB := n1_; clear n0_ n1_; (try clear hb); (try clear hb2); (try clear hk); (try clear hi)) | (go_at_call 38; (with_reducible refine (graph_Headers.calls k1 _ _ x7_1 t500 _ ?side1 ?side2 A28.out).mono ?_); (case side1 => repeat (first | exact (Kd.S_reads' HO_7.out).2.2 | (with_reducible refine Kd.C_alloc ?_ _) | (with_reducible refine Kd.C_drewN ?_ _) | (with_reducible refine Kd.C_drew ?_))); (case side2 => exact (Kd.S_reads' HO_7.out).2.1); rintro e w59 ⟨v501, rfl, ho0, hb⟩; have n0_ := Aside0.mk (Kd.S_elder' (by (with_reducible repeat (first | apply Kd.S_alloc | apply Kd.S_drewN | apply Kd.S_drew)); exact HO_7.out) (Kd.R_base ho0) hb); have n1_ := Aside0.mk (Kd.R_lower ho0 (below_size (by repeat (first | (with_reducible first | exact HB.out | apply below_alloc | apply pw_below_drewN | apply below_drew1) | exact HB.out)))); have n2_ := Aside0.mk (below_step (by repeat (first | (with_reducible first | exact HB.out | apply below_alloc | apply pw_below_drewN | apply below_drew1) | exact HB.out)) hb); clear HO_7; clear HB; have HO_7 := n0_; have HO502 := n1_; have HB := n2_; clear n0_ n1_ n2_; (try clear hb); (try clear hb2); (try clear hk); (try clear hi); (try clear ho0); obtain ⟨Ao60, co60, eo60⟩ := Kd.R_slice HO502.out; subst eo60; have p503 : 0 ≤ ((ji29) : Int) := of_decide_eq_true (by first | (with_reducible assumption) | assumption); have q503 : (ji29) < (x7_1.length : Int) := of_decide_eq_true (by first | (with_reducible assumption) | assumption); obtain ⟨ad503, A503_0, c503_0, e503, hx503_0, hl503_0, hi503_0⟩ := at_L1 (Kd.S_reads' HO_7.out).2.2 (ji29) p503 q503; cases e503; obtain ⟨ce503, hce503, hMe503, hcc503⟩ := Kd.S_get HO_7.out [] (ji29) p503 (by first | exact q503 | exact of_decide_eq_true (by first | (with_reducible assumption) | assumption) | (have e_ := (Kd.S_reads' HO_7.out).1; omega)); obtain ⟨ve503_0, rfl, ge503_0⟩ := hMe503; have hv503_0 := hcc503 0 _ rfl; rw [Nat.add_zero, show ((Kd.slice 3 (Kd.int .i64))).sz = 1 from rfl, Nat.mul_one] at hv503_0; replace hv503_0 := Option.some.inj (hv503_0.symm.trans hx503_0); rw [hv503_0] at ge503_0; have HL503_0 := Aside0.mk (show Kd.R (Kd.int .i64) 3 _ _ _ _ (rd_L1 x7_1 (ji29)) from ge503_0); clear hv503_0 ge503_0; have HX503_0 := Aside0.mk hx503_0; clear hcc503 hce503; have HR503_0 := Aside0.mk hi503_0; have HC503_0 := Aside0.mk hl503_0; clear hi503_0 hl503_0; replace p503 := eq_true p503; replace q503 := eq_true q503; have n_ := Aside0.mk (Kd.S_mono (ok' := (fun k_ => some k_ ≠ (.slice Ao60 t500.length co60 : Value).ownBlock)) HO_7.out (fun k_ hk => hk.2)); clear HO_7; have HO_7 := n_; clear n_; obtain ⟨go61, co61, eo61, gb61, gl61, cl61, HG61⟩ := Kd.S_form HO_7.out (by have h_ : ((ji29) : Int) < ((x7_1.length : Int) : Int) := of_decide_eq_true (by first | (with_reducible assumption) | assumption); have h2_ : 0 ≤ ((ji29) : Int) := (of_decide_eq_true (by first | (with_reducible assumption) | assumption)); omega); (first | cases eo61 | (injection eo61 with ea_ en_ ec_; (first | subst ea_ | (injection ea_ with ea_; subst ea_)); subst ec_; clear en_)); have GB61 := Aside0.mk gb61; have GG61 := Aside0.mk HG61; clear gb61 gl61 HG61; (first | simp only [add_plain] at hx503_0 | skip); obtain ⟨oki61, ce61, hcl61, hM61, hcc61, _, _, hH61⟩ := Kd.S_elem HO_7.out [] ((ji29) : Int) (of_decide_eq_true (by first | (with_reducible assumption) | assumption)) (by have h_ : ((ji29) : Int) < ((x7_1.length : Int) : Int) := of_decide_eq_true (by first | (with_reducible assumption) | assumption); first | exact h_ | (have e_ := (Kd.S_reads' HO_7.out).1; omega) | simpa using h_); obtain ⟨ve61_0, rfl, ge61_0⟩ := hM61; have hv61 := hcc61 0 _ rfl; have hX61 := HX503_0.out; (try simp only [add_plain] at hX61); (try simp only [Nat.add_zero] at hv61); (try rw [show ((Kd.slice 3 (Kd.int .i64))).sz = 1 from rfl, Nat.mul_one] at hv61); replace hv61 := Option.some.inj (hv61.symm.trans hX61); subst hv61; clear hX61 hcc61 hcl61; have UU61 := Aside0.mk (show Kd.R (Kd.int .i64) 3 _ w.heap.size oki61 (.slice A503_0 (rd_L1 x7_1 (ji29)).length c503_0) (rd_L1 x7_1 (ji29)) from ge61_0); have HH61 := Aside0.mk hH61; have HN61 := Aside0.mk (Kd.S_reads' HO_7.out).1; clear hH61 ge61_0) | ((with_reducible refine gate_builtin (b := .append) (xs := #[.tmp 70, .tmp 71]) rfl ?_); (try (refine gate_guard (by rfl) ?_; dsimp only)); at_builtin; refine Kd.R_append (Kd.int .i64) (w0 := w) w.heap.size rfl (.tmp 70) (.tmp 71) 23 3 (.int .i64 0) 8 rfl Try.underlying23 info3 rfl (by decide) (by omega) (.slice A503_0 (rd_L1 x7_1 (ji29)).length c503_0) (rd_L1 x7_1 (ji29)) 0 [.int .i64 0] (fun k_ => oki61 k_ ∨ ((fun k_ => some k_ ≠ (.slice Ao60 t500.length co60 : Value).ownBlock)) k_ ∧ w59.heap.size ≤ k_) (fun _ => False) rfl rfl ?aP (fun _ hk => hk.elim) ?aF ?aO ?aB ?aS ?aL ?_; (case aP => exact rfl); (case aB => exact (by repeat (first | (with_reducible first | exact HB.out | apply below_alloc | apply pw_below_drewN | apply below_drew1) | exact HB.out))); (case aF => exact (fun k_ hk => .inr ⟨Kd.fresh' (Kd.R_lt (by (with_reducible repeat (first | apply Kd.R_alloc | apply Kd.R_drewN | apply Kd.R_drew)); exact HO502.out)) k_ hk, hk⟩)); (case aO => exact (by (with_reducible repeat (first | apply Kd.R_alloc | apply Kd.R_drewN | apply Kd.R_drew)); exact Kd.R_mono UU61.out (fun _ hk => .inl hk))); (case aS => exact (below_size (by repeat (first | (with_reducible first | exact HB.out | apply below_alloc | apply pw_below_drewN | apply below_drew1) | exact HB.out)))); (case aL => have := LMc32.out; omega); intro v505 w62 ho hb hg hat; rw [← Ny504.out] at ho; have n0_ := Aside0.mk (Kd.R_grown2 (by (with_reducible repeat (first | apply Kd.R_alloc | apply Kd.R_drewN | apply Kd.R_drew)); exact HO502.out) rfl hg (fun k_ e_ => (HL503_0.out.1 k_ e_).1.2)); have n1_ := Aside0.mk (hb); have n2_ := Aside0.mk (Kd.H_grown (Kd.H_widen (by repeat (first | exact HH61.out | refine Kd.H_alloc ?_ _ | refine Kd.H_drewN ?_ _ | refine Kd.H_drew ?_))) hg (fun k_ e_ => .inl (UU61.out.1 k_ e_))); have n3_ := Aside0.mk (ho); clear HO502; clear HB; clear HH61; clear HO_7; clear UU61; clear HL503_0; have HO502 := n0_; have HB := n1_; have HH61 := n2_; have HO506 := n3_; clear n0_ n1_ n2_ n3_; clear ho hb hg hat; have p33 : 0 ≤ ((ji29) : Int) := of_decide_eq_true (by first | (with_reducible assumption) | assumption); have q33 : ((ji29) : Int) < ((x7_1.length : Int) : Int) := of_decide_eq_true (by first | (with_reducible assumption) | assumption); replace p33 := eq_true p33; replace q33 := eq_true q33; obtain ⟨Ao65, co65, eo65⟩ := Kd.R_slice HO506.out; subst eo65; obtain ⟨_, _, hraw63, _, _, hcc63, _⟩ := Kd.H_raw HH61.out (of_decide_eq_true (by first | (with_reducible assumption) | assumption)) (by have h_ : ((ji29) : Int) < ((x7_1.length : Int) : Int) := of_decide_eq_true (by first | (with_reducible assumption) | assumption); first | exact h_ | (have e_ := (HN61.out); omega) | simpa using h_); obtain ⟨_, hfr63⟩ := Kd.H_at HH61.out (of_decide_eq_true (by first | (with_reducible assumption) | assumption)) (by have h_ : ((ji29) : Int) < ((x7_1.length : Int) : Int) := of_decide_eq_true (by first | (with_reducible assumption) | assumption); first | exact h_ | (have e_ := (HN61.out); omega) | simpa using h_); have hx63_0 := hcc63 0 _ rfl; have hf63_0 := hfr63 0; (try simp only [Nat.add_zero] at hx63_0 hf63_0); (try rw [show ((Kd.slice 3 (Kd.int .i64))).sz = 1 from rfl, Nat.mul_one] at hx63_0); (try rw [show ((Kd.slice 3 (Kd.int .i64))).sz = 1 from rfl, Nat.mul_one] at hf63_0); have HP63 := Kd.S_seg0 HH61.out (of_decide_eq_true (by first | (with_reducible assumption) | assumption)) (by have h_ : ((ji29) : Int) < ((x7_1.length : Int) : Int) := of_decide_eq_true (by first | (with_reducible assumption) | assumption); first | exact h_ | (have e_ := (HN61.out); omega) | simpa using h_) (seg := [.slice Ao65 y504.length co65]) (j := 0) (show 1 ≤ 1 from by decide) (x' := y504) (Kd.M_row HO506.out) (fun _ hk => hk); (try simp only [show ((Kd.slice 3 (Kd.int .i64))).sz = 1 from rfl, Nat.mul_one, Nat.add_zero] at HP63); clear hcc63 hfr63) | ((with_reducible refine gate_store (t := 23) (p := 73) rfl ?_); refine store_event (t := 23) (p := 73) (v := ?vo_w64) (w1 := (w62.setCell ⟨go61, ((ji29) : Int).toNat, none⟩ (.slice Ao65 y504.length co65))) ?hg ?ho ?hn ?hr ?_; (case ho => rfl); (case hg => rfl); (case hn => rfl); (case hr => first | (go_simp; done) | (go_simp; rfl)); intro w64 hw; have hg : w62.grownBy w64 (some go61) := (by rw [hw]; exact HP63.2); have hp_ : Kd.S (Kd.slice 3 (Kd.int .i64)) 23 w64 w.heap.size (fun k_ => some k_ ≠ (.slice Ao60 t500.length co60 : Value).ownBlock) (.slice (some ⟨go61, 0, none⟩) x7_1.length co57) y507 := (by rw [hw, Ny507.out]; exact HP63.1); clear HP63; have n0_ := Aside0.mk (Kd.R_over' (v := (.slice (some ⟨go61, 0, none⟩) x7_1.length co57)) (by (with_reducible repeat (first | apply Kd.R_alloc | apply Kd.R_drewN | apply Kd.R_drew)); exact HO502.out) (Kd.R_typed hraw63) (by decide) hg); have n1_ := Aside0.mk ((by rw [hw]; exact below_set HB.out GB61.out : Below w.heap.size w w64)); have n2_ := Aside0.mk (hp_); clear HO502; clear HB; clear HO506; clear HH61; have HO502 := n0_; have HB := n1_; have HO_7 := n2_; clear n0_ n1_ n2_; clear hg hw hp_ hraw63) | ((with_reducible refine gate_callee (f := 38) rfl ?_); refine goesL_ (some 75) rfl rfl Try.func38 (by kernel_rfl) rfl #[.slice (some ⟨go61, 0, none⟩) y507.length co57] rfl (by (try simp only [List.map_toArray, List.map_cons, List.map_nil]); first | done | (rw [show y507.length = x7_1.length from (Kd.S_reads' HO_7.out).1.symm] <;> rfl) | rfl | (simp only [List.length_drop, List.length_take]; rfl)) ?_; (with_reducible refine (graph_Headers.calls k1 _ _ y507 t508 _ ?side1 ?side2 A34.out).mono ?_); (case side1 => repeat (first | exact (Kd.S_reads' HO_7.out).2.2 | (with_reducible refine Kd.C_alloc ?_ _) | (with_reducible refine Kd.C_drewN ?_ _) | (with_reducible refine Kd.C_drew ?_))); (case side2 => rw [show y507.length = x7_1.length from (Kd.S_reads' HO_7.out).1.symm]; exact (Kd.S_reads' HO_7.out).2.1); rintro e w66 ⟨v509, rfl, ho0, hb⟩; refine ⟨_, rfl, ?_⟩; have n0_ := Aside0.mk (Kd.R_elder' (by (with_reducible repeat (first | apply Kd.R_alloc | apply Kd.R_drewN | apply Kd.R_drew)); exact HO502.out) (Kd.R_base ho0) hb); have n1_ := Aside0.mk (Kd.S_elder' (by (with_reducible repeat (first | apply Kd.S_alloc | apply Kd.S_drewN | apply Kd.S_drew)); exact HO_7.out) (Kd.R_base ho0) hb); have n2_ := Aside0.mk (Kd.R_lower (Kd.R_new' ho0 (Kd.R_lt (by (with_reducible repeat (first | apply Kd.R_alloc | apply Kd.R_drewN | apply Kd.R_drew)); exact HO502.out))) (below_size (by repeat (first | (with_reducible first | exact HB.out | apply below_alloc | apply pw_below_drewN | apply below_drew1) | exact HB.out)))); have n3_ := Aside0.mk (below_step (by repeat (first | (with_reducible first | exact HB.out | apply below_alloc | apply pw_below_drewN | apply below_drew1) | exact HB.out)) hb); clear HO502; clear HO_7; clear HB; have HO502 := n0_; have HO_7 := n1_; have HO510 := n2_; have HB := n3_; clear n0_ n1_ n2_ n3_; (try clear hb); (try clear hb2); (try clear hk); (try clear hi); (try clear ho0); obtain ⟨Ao67, co67, eo67⟩ := Kd.R_slice HO510.out; subst eo67; have p511 : 0 ≤ (0 : Int) := (by omega); have q511 : 0 < (t508.length : Int) := of_decide_eq_true (by first | (with_reducible assumption) | assumption); obtain ⟨ad511, e511, hx511_0⟩ := Kd.at_int (Kd.R_reads' HO510.out).2.2 0 p511 q511; cases e511; have qi511 : (0 < t508.length) = True := eq_true (by omega); (try rw [show ((0 : Int)).toNat = 0 from rfl] at hx511_0); (try rw [Addr.add_zero'] at hx511_0); replace p511 := eq_true p511; replace q511 := eq_true q511) | (go_at_call 39; refine calls_of_args (args' := #[.slice (some ⟨go61, 0, none⟩) y507.length co57, .int .i64 0]) (by first | (rw [show y507.length = x7_1.length from (Kd.S_reads' HO_7.out).1.symm] <;> rfl) | rfl) ?_; (with_reducible refine (graph_Body.calls k1 _ _ y507 0 t512 _ ?side1 ?side2 A40.out).mono ?_); (case side1 => repeat (first | exact (Kd.S_reads' HO_7.out).2.2 | (with_reducible refine Kd.C_alloc ?_ _) | (with_reducible refine Kd.C_drewN ?_ _) | (with_reducible refine Kd.C_drew ?_))); (case side2 => rw [show y507.length = x7_1.length from (Kd.S_reads' HO_7.out).1.symm]; exact (Kd.S_reads' HO_7.out).2.1); rintro e w68 ⟨v513, rfl, ho0, hb⟩; have n0_ := Aside0.mk (Kd.R_elder' (by (with_reducible repeat (first | apply Kd.R_alloc | apply Kd.R_drewN | apply Kd.R_drew)); exact HO502.out) (Kd.R_base ho0) hb); have n1_ := Aside0.mk (Kd.S_elder' (by (with_reducible repeat (first | apply Kd.S_alloc | apply Kd.S_drewN | apply Kd.S_drew)); exact HO_7.out) (Kd.R_base ho0) hb); have n2_ := Aside0.mk (Kd.R_elder' (by (with_reducible repeat (first | apply Kd.R_alloc | apply Kd.R_drewN | apply Kd.R_drew)); exact HO510.out) (Kd.R_base ho0) hb); have n3_ := Aside0.mk (Kd.R_lower (Kd.R_new' (Kd.R_new' ho0 (Kd.R_lt (by (with_reducible repeat (first | apply Kd.R_alloc | apply Kd.R_drewN | apply Kd.R_drew)); exact HO502.out))) (Kd.R_lt (by (with_reducible repeat (first | apply Kd.R_alloc | apply Kd.R_drewN | apply Kd.R_drew)); exact HO510.out))) (below_size (by repeat (first | (with_reducible first | exact HB.out | apply below_alloc | apply pw_below_drewN | apply below_drew1) | exact HB.out)))); have n4_ := Aside0.mk (below_step (by repeat (first | (with_reducible first | exact HB.out | apply below_alloc | apply pw_below_drewN | apply below_drew1) | exact HB.out)) hb); clear HO502; clear HO_7; clear HO510; clear HB; have HO502 := n0_; have HO_7 := n1_; have HO510 := n2_; have HO514 := n3_; have HB := n4_; clear n0_ n1_ n2_ n3_ n4_; (try clear hb); (try clear hb2); (try clear hk); (try clear hi); (try clear ho0); obtain ⟨Ao69, co69, eo69⟩ := Kd.R_slice HO514.out; subst eo69))
                            go_ret
                            exact ⟨by first | rfl | (simp [errW_none, errW_some] <;> rfl) | (simp only [← hji29]; first | rfl | (simp [errW_none, errW_some] <;> rfl)) | (simp [*, errW_none, errW_some] <;> rfl), by repeat (first | (with_reducible first | exact HB.out | apply below_alloc | apply pw_below_drewN | apply below_drew1) | exact HB.out)⟩
                        · rw [if_neg c39] at H
                          have c39b0 : ((rd t508 0) == 0) = false := beq_eq_false_iff_ne.mpr c39
                          have c39b1 : ((rd t508 0) != 0) = true := bne_iff_ne.mpr c39
                          obtain rfl := Option.some.inj H
                          obtain ⟨Ao70, co70, eo70⟩ := Kd.S_slice HO_7.out
                          subst eo70
                          go_wp2_with (first | ((with_reducible refine gate_callee (f := 49) rfl ?_); refine goesL_ (some 56) rfl rfl Try.func49 (by kernel_rfl) rfl #[.slice Ao70 x7_1.length co70] rfl (by (try simp only [List.map_toArray, List.map_cons, List.map_nil]); first | done | rfl | (simp only [List.length_drop, List.length_take]; rfl)) ?_; (with_reducible refine (graph_Reducible.calls k1 _ _ x7_1 true _ ?side1 ?side2 A26.out).mono ?_); (case side1 => repeat (first | exact (Kd.S_reads' HO_7.out).2.2 | (with_reducible refine Kd.C_alloc ?_ _) | (with_reducible refine Kd.C_drewN ?_ _) | (with_reducible refine Kd.C_drew ?_))); (case side2 => exact (Kd.S_reads' HO_7.out).2.1); rintro e w71 ⟨rfl, hb⟩; refine ⟨_, rfl, ?_⟩; have n0_ := Aside0.mk (Kd.S_below (by (with_reducible repeat (first | apply Kd.S_alloc | apply Kd.S_drewN | apply Kd.S_drew)); exact HO_7.out) hb); have n1_ := Aside0.mk (below_step (by repeat (first | (with_reducible first | exact HB.out | apply below_alloc | apply pw_below_drewN | apply below_drew1) | exact HB.out)) hb); clear HO_7; clear HB; have HO_7 := n0_; have HB := n1_; clear n0_ n1_; (try clear hb); (try clear hb2); (try clear hk); (try clear hi)) | (go_at_call 38; (with_reducible refine (graph_Headers.calls k1 _ _ x7_1 t500 _ ?side1 ?side2 A28.out).mono ?_); (case side1 => repeat (first | exact (Kd.S_reads' HO_7.out).2.2 | (with_reducible refine Kd.C_alloc ?_ _) | (with_reducible refine Kd.C_drewN ?_ _) | (with_reducible refine Kd.C_drew ?_))); (case side2 => exact (Kd.S_reads' HO_7.out).2.1); rintro e w72 ⟨v501, rfl, ho0, hb⟩; have n0_ := Aside0.mk (Kd.S_elder' (by (with_reducible repeat (first | apply Kd.S_alloc | apply Kd.S_drewN | apply Kd.S_drew)); exact HO_7.out) (Kd.R_base ho0) hb); have n1_ := Aside0.mk (Kd.R_lower ho0 (below_size (by repeat (first | (with_reducible first | exact HB.out | apply below_alloc | apply pw_below_drewN | apply below_drew1) | exact HB.out)))); have n2_ := Aside0.mk (below_step (by repeat (first | (with_reducible first | exact HB.out | apply below_alloc | apply pw_below_drewN | apply below_drew1) | exact HB.out)) hb); clear HO_7; clear HB; have HO_7 := n0_; have HO502 := n1_; have HB := n2_; clear n0_ n1_ n2_; (try clear hb); (try clear hb2); (try clear hk); (try clear hi); (try clear ho0); obtain ⟨Ao73, co73, eo73⟩ := Kd.R_slice HO502.out; subst eo73; have p503 : 0 ≤ ((ji29) : Int) := of_decide_eq_true (by first | (with_reducible assumption) | assumption); have q503 : (ji29) < (x7_1.length : Int) := of_decide_eq_true (by first | (with_reducible assumption) | assumption); obtain ⟨ad503, A503_0, c503_0, e503, hx503_0, hl503_0, hi503_0⟩ := at_L1 (Kd.S_reads' HO_7.out).2.2 (ji29) p503 q503; cases e503; obtain ⟨ce503, hce503, hMe503, hcc503⟩ := Kd.S_get HO_7.out [] (ji29) p503 (by first | exact q503 | exact of_decide_eq_true (by first | (with_reducible assumption) | assumption) | (have e_ := (Kd.S_reads' HO_7.out).1; omega)); obtain ⟨ve503_0, rfl, ge503_0⟩ := hMe503; have hv503_0 := hcc503 0 _ rfl; rw [Nat.add_zero, show ((Kd.slice 3 (Kd.int .i64))).sz = 1 from rfl, Nat.mul_one] at hv503_0; replace hv503_0 := Option.some.inj (hv503_0.symm.trans hx503_0); rw [hv503_0] at ge503_0; have HL503_0 := Aside0.mk (show Kd.R (Kd.int .i64) 3 _ _ _ _ (rd_L1 x7_1 (ji29)) from ge503_0); clear hv503_0 ge503_0; have HX503_0 := Aside0.mk hx503_0; clear hcc503 hce503; have HR503_0 := Aside0.mk hi503_0; have HC503_0 := Aside0.mk hl503_0; clear hi503_0 hl503_0; replace p503 := eq_true p503; replace q503 := eq_true q503; have n_ := Aside0.mk (Kd.S_mono (ok' := (fun k_ => some k_ ≠ (.slice Ao73 t500.length co73 : Value).ownBlock)) HO_7.out (fun k_ hk => hk.2)); clear HO_7; have HO_7 := n_; clear n_; obtain ⟨go74, co74, eo74, gb74, gl74, cl74, HG74⟩ := Kd.S_form HO_7.out (by have h_ : ((ji29) : Int) < ((x7_1.length : Int) : Int) := of_decide_eq_true (by first | (with_reducible assumption) | assumption); have h2_ : 0 ≤ ((ji29) : Int) := (of_decide_eq_true (by first | (with_reducible assumption) | assumption)); omega); (first | cases eo74 | (injection eo74 with ea_ en_ ec_; (first | subst ea_ | (injection ea_ with ea_; subst ea_)); subst ec_; clear en_)); have GB74 := Aside0.mk gb74; have GG74 := Aside0.mk HG74; clear gb74 gl74 HG74; (first | simp only [add_plain] at hx503_0 | skip); obtain ⟨oki74, ce74, hcl74, hM74, hcc74, _, _, hH74⟩ := Kd.S_elem HO_7.out [] ((ji29) : Int) (of_decide_eq_true (by first | (with_reducible assumption) | assumption)) (by have h_ : ((ji29) : Int) < ((x7_1.length : Int) : Int) := of_decide_eq_true (by first | (with_reducible assumption) | assumption); first | exact h_ | (have e_ := (Kd.S_reads' HO_7.out).1; omega) | simpa using h_); obtain ⟨ve74_0, rfl, ge74_0⟩ := hM74; have hv74 := hcc74 0 _ rfl; have hX74 := HX503_0.out; (try simp only [add_plain] at hX74); (try simp only [Nat.add_zero] at hv74); (try rw [show ((Kd.slice 3 (Kd.int .i64))).sz = 1 from rfl, Nat.mul_one] at hv74); replace hv74 := Option.some.inj (hv74.symm.trans hX74); subst hv74; clear hX74 hcc74 hcl74; have UU74 := Aside0.mk (show Kd.R (Kd.int .i64) 3 _ w.heap.size oki74 (.slice A503_0 (rd_L1 x7_1 (ji29)).length c503_0) (rd_L1 x7_1 (ji29)) from ge74_0); have HH74 := Aside0.mk hH74; have HN74 := Aside0.mk (Kd.S_reads' HO_7.out).1; clear hH74 ge74_0) | ((with_reducible refine gate_builtin (b := .append) (xs := #[.tmp 70, .tmp 71]) rfl ?_); (try (refine gate_guard (by rfl) ?_; dsimp only)); at_builtin; refine Kd.R_append (Kd.int .i64) (w0 := w) w.heap.size rfl (.tmp 70) (.tmp 71) 23 3 (.int .i64 0) 8 rfl Try.underlying23 info3 rfl (by decide) (by omega) (.slice A503_0 (rd_L1 x7_1 (ji29)).length c503_0) (rd_L1 x7_1 (ji29)) 0 [.int .i64 0] (fun k_ => oki74 k_ ∨ ((fun k_ => some k_ ≠ (.slice Ao73 t500.length co73 : Value).ownBlock)) k_ ∧ w72.heap.size ≤ k_) (fun _ => False) rfl rfl ?aP (fun _ hk => hk.elim) ?aF ?aO ?aB ?aS ?aL ?_; (case aP => exact rfl); (case aB => exact (by repeat (first | (with_reducible first | exact HB.out | apply below_alloc | apply pw_below_drewN | apply below_drew1) | exact HB.out))); (case aF => exact (fun k_ hk => .inr ⟨Kd.fresh' (Kd.R_lt (by (with_reducible repeat (first | apply Kd.R_alloc | apply Kd.R_drewN | apply Kd.R_drew)); exact HO502.out)) k_ hk, hk⟩)); (case aO => exact (by (with_reducible repeat (first | apply Kd.R_alloc | apply Kd.R_drewN | apply Kd.R_drew)); exact Kd.R_mono UU74.out (fun _ hk => .inl hk))); (case aS => exact (below_size (by repeat (first | (with_reducible first | exact HB.out | apply below_alloc | apply pw_below_drewN | apply below_drew1) | exact HB.out)))); (case aL => have := LMc32.out; omega); intro v505 w75 ho hb hg hat; rw [← Ny504.out] at ho; have n0_ := Aside0.mk (Kd.R_grown2 (by (with_reducible repeat (first | apply Kd.R_alloc | apply Kd.R_drewN | apply Kd.R_drew)); exact HO502.out) rfl hg (fun k_ e_ => (HL503_0.out.1 k_ e_).1.2)); have n1_ := Aside0.mk (hb); have n2_ := Aside0.mk (Kd.H_grown (Kd.H_widen (by repeat (first | exact HH74.out | refine Kd.H_alloc ?_ _ | refine Kd.H_drewN ?_ _ | refine Kd.H_drew ?_))) hg (fun k_ e_ => .inl (UU74.out.1 k_ e_))); have n3_ := Aside0.mk (ho); clear HO502; clear HB; clear HH74; clear HO_7; clear UU74; clear HL503_0; have HO502 := n0_; have HB := n1_; have HH74 := n2_; have HO506 := n3_; clear n0_ n1_ n2_ n3_; clear ho hb hg hat; have p33 : 0 ≤ ((ji29) : Int) := of_decide_eq_true (by first | (with_reducible assumption) | assumption); have q33 : ((ji29) : Int) < ((x7_1.length : Int) : Int) := of_decide_eq_true (by first | (with_reducible assumption) | assumption); replace p33 := eq_true p33; replace q33 := eq_true q33; obtain ⟨Ao78, co78, eo78⟩ := Kd.R_slice HO506.out; subst eo78; obtain ⟨_, _, hraw76, _, _, hcc76, _⟩ := Kd.H_raw HH74.out (of_decide_eq_true (by first | (with_reducible assumption) | assumption)) (by have h_ : ((ji29) : Int) < ((x7_1.length : Int) : Int) := of_decide_eq_true (by first | (with_reducible assumption) | assumption); first | exact h_ | (have e_ := (HN74.out); omega) | simpa using h_); obtain ⟨_, hfr76⟩ := Kd.H_at HH74.out (of_decide_eq_true (by first | (with_reducible assumption) | assumption)) (by have h_ : ((ji29) : Int) < ((x7_1.length : Int) : Int) := of_decide_eq_true (by first | (with_reducible assumption) | assumption); first | exact h_ | (have e_ := (HN74.out); omega) | simpa using h_); have hx76_0 := hcc76 0 _ rfl; have hf76_0 := hfr76 0; (try simp only [Nat.add_zero] at hx76_0 hf76_0); (try rw [show ((Kd.slice 3 (Kd.int .i64))).sz = 1 from rfl, Nat.mul_one] at hx76_0); (try rw [show ((Kd.slice 3 (Kd.int .i64))).sz = 1 from rfl, Nat.mul_one] at hf76_0); have HP76 := Kd.S_seg0 HH74.out (of_decide_eq_true (by first | (with_reducible assumption) | assumption)) (by have h_ : ((ji29) : Int) < ((x7_1.length : Int) : Int) := of_decide_eq_true (by first | (with_reducible assumption) | assumption); first | exact h_ | (have e_ := (HN74.out); omega) | simpa using h_) (seg := [.slice Ao78 y504.length co78]) (j := 0) (show 1 ≤ 1 from by decide) (x' := y504) (Kd.M_row HO506.out) (fun _ hk => hk); (try simp only [show ((Kd.slice 3 (Kd.int .i64))).sz = 1 from rfl, Nat.mul_one, Nat.add_zero] at HP76); clear hcc76 hfr76) | ((with_reducible refine gate_store (t := 23) (p := 73) rfl ?_); refine store_event (t := 23) (p := 73) (v := ?vo_w77) (w1 := (w75.setCell ⟨go74, ((ji29) : Int).toNat, none⟩ (.slice Ao78 y504.length co78))) ?hg ?ho ?hn ?hr ?_; (case ho => rfl); (case hg => rfl); (case hn => rfl); (case hr => first | (go_simp; done) | (go_simp; rfl)); intro w77 hw; have hg : w75.grownBy w77 (some go74) := (by rw [hw]; exact HP76.2); have hp_ : Kd.S (Kd.slice 3 (Kd.int .i64)) 23 w77 w.heap.size (fun k_ => some k_ ≠ (.slice Ao73 t500.length co73 : Value).ownBlock) (.slice (some ⟨go74, 0, none⟩) x7_1.length co70) y507 := (by rw [hw, Ny507.out]; exact HP76.1); clear HP76; have n0_ := Aside0.mk (Kd.R_over' (v := (.slice (some ⟨go74, 0, none⟩) x7_1.length co70)) (by (with_reducible repeat (first | apply Kd.R_alloc | apply Kd.R_drewN | apply Kd.R_drew)); exact HO502.out) (Kd.R_typed hraw76) (by decide) hg); have n1_ := Aside0.mk ((by rw [hw]; exact below_set HB.out GB74.out : Below w.heap.size w w77)); have n2_ := Aside0.mk (hp_); clear HO502; clear HB; clear HO506; clear HH74; have HO502 := n0_; have HB := n1_; have HO_7 := n2_; clear n0_ n1_ n2_; clear hg hw hp_ hraw76) | ((with_reducible refine gate_callee (f := 38) rfl ?_); refine goesL_ (some 75) rfl rfl Try.func38 (by kernel_rfl) rfl #[.slice (some ⟨go74, 0, none⟩) y507.length co70] rfl (by (try simp only [List.map_toArray, List.map_cons, List.map_nil]); first | done | (rw [show y507.length = x7_1.length from (Kd.S_reads' HO_7.out).1.symm] <;> rfl) | rfl | (simp only [List.length_drop, List.length_take]; rfl)) ?_; (with_reducible refine (graph_Headers.calls k1 _ _ y507 t508 _ ?side1 ?side2 A34.out).mono ?_); (case side1 => repeat (first | exact (Kd.S_reads' HO_7.out).2.2 | (with_reducible refine Kd.C_alloc ?_ _) | (with_reducible refine Kd.C_drewN ?_ _) | (with_reducible refine Kd.C_drew ?_))); (case side2 => rw [show y507.length = x7_1.length from (Kd.S_reads' HO_7.out).1.symm]; exact (Kd.S_reads' HO_7.out).2.1); rintro e w79 ⟨v509, rfl, ho0, hb⟩; refine ⟨_, rfl, ?_⟩; have n0_ := Aside0.mk (Kd.R_elder' (by (with_reducible repeat (first | apply Kd.R_alloc | apply Kd.R_drewN | apply Kd.R_drew)); exact HO502.out) (Kd.R_base ho0) hb); have n1_ := Aside0.mk (Kd.S_elder' (by (with_reducible repeat (first | apply Kd.S_alloc | apply Kd.S_drewN | apply Kd.S_drew)); exact HO_7.out) (Kd.R_base ho0) hb); have n2_ := Aside0.mk (Kd.R_lower (Kd.R_new' ho0 (Kd.R_lt (by (with_reducible repeat (first | apply Kd.R_alloc | apply Kd.R_drewN | apply Kd.R_drew)); exact HO502.out))) (below_size (by repeat (first | (with_reducible first | exact HB.out | apply below_alloc | apply pw_below_drewN | apply below_drew1) | exact HB.out)))); have n3_ := Aside0.mk (below_step (by repeat (first | (with_reducible first | exact HB.out | apply below_alloc | apply pw_below_drewN | apply below_drew1) | exact HB.out)) hb); clear HO502; clear HO_7; clear HB; have HO502 := n0_; have HO_7 := n1_; have HO510 := n2_; have HB := n3_; clear n0_ n1_ n2_ n3_; (try clear hb); (try clear hb2); (try clear hk); (try clear hi); (try clear ho0); obtain ⟨Ao80, co80, eo80⟩ := Kd.R_slice HO510.out; subst eo80; have p511 : 0 ≤ (0 : Int) := (by omega); have q511 : 0 < (t508.length : Int) := of_decide_eq_true (by first | (with_reducible assumption) | assumption); obtain ⟨ad511, e511, hx511_0⟩ := Kd.at_int (Kd.R_reads' HO510.out).2.2 0 p511 q511; cases e511; have qi511 : (0 < t508.length) = True := eq_true (by omega); (try rw [show ((0 : Int)).toNat = 0 from rfl] at hx511_0); (try rw [Addr.add_zero'] at hx511_0); replace p511 := eq_true p511; replace q511 := eq_true q511))
                          go_ret
                          exact ⟨by first | rfl | (simp [errW_none, errW_some] <;> rfl) | (simp only [← hji29]; first | rfl | (simp [errW_none, errW_some] <;> rfl)) | (simp [*, errW_none, errW_some] <;> rfl), by repeat (first | (with_reducible first | exact HB.out | apply below_alloc | apply pw_below_drewN | apply below_drew1) | exact HB.out)⟩
                      · rw [if_neg c38] at H
                        exact absurd H (by simp)
                    · rw [if_neg c37] at H
                      have c37b0 : ((t508.length : Int) == 1) = false := beq_eq_false_iff_ne.mpr c37
                      have c37b1 : ((t508.length : Int) != 1) = true := bne_iff_ne.mpr c37
                      obtain rfl := Option.some.inj H
                      obtain ⟨Ao81, co81, eo81⟩ := Kd.S_slice HO_7.out
                      subst eo81
                      go_wp2_with (first | ((with_reducible refine gate_callee (f := 49) rfl ?_); refine goesL_ (some 56) rfl rfl Try.func49 (by kernel_rfl) rfl #[.slice Ao81 x7_1.length co81] rfl (by (try simp only [List.map_toArray, List.map_cons, List.map_nil]); first | done | rfl | (simp only [List.length_drop, List.length_take]; rfl)) ?_; (with_reducible refine (graph_Reducible.calls k1 _ _ x7_1 true _ ?side1 ?side2 A26.out).mono ?_); (case side1 => repeat (first | exact (Kd.S_reads' HO_7.out).2.2 | (with_reducible refine Kd.C_alloc ?_ _) | (with_reducible refine Kd.C_drewN ?_ _) | (with_reducible refine Kd.C_drew ?_))); (case side2 => exact (Kd.S_reads' HO_7.out).2.1); rintro e w82 ⟨rfl, hb⟩; refine ⟨_, rfl, ?_⟩; have n0_ := Aside0.mk (Kd.S_below (by (with_reducible repeat (first | apply Kd.S_alloc | apply Kd.S_drewN | apply Kd.S_drew)); exact HO_7.out) hb); have n1_ := Aside0.mk (below_step (by repeat (first | (with_reducible first | exact HB.out | apply below_alloc | apply pw_below_drewN | apply below_drew1) | exact HB.out)) hb); clear HO_7; clear HB; have HO_7 := n0_; have HB := n1_; clear n0_ n1_; (try clear hb); (try clear hb2); (try clear hk); (try clear hi)) | (go_at_call 38; (with_reducible refine (graph_Headers.calls k1 _ _ x7_1 t500 _ ?side1 ?side2 A28.out).mono ?_); (case side1 => repeat (first | exact (Kd.S_reads' HO_7.out).2.2 | (with_reducible refine Kd.C_alloc ?_ _) | (with_reducible refine Kd.C_drewN ?_ _) | (with_reducible refine Kd.C_drew ?_))); (case side2 => exact (Kd.S_reads' HO_7.out).2.1); rintro e w83 ⟨v501, rfl, ho0, hb⟩; have n0_ := Aside0.mk (Kd.S_elder' (by (with_reducible repeat (first | apply Kd.S_alloc | apply Kd.S_drewN | apply Kd.S_drew)); exact HO_7.out) (Kd.R_base ho0) hb); have n1_ := Aside0.mk (Kd.R_lower ho0 (below_size (by repeat (first | (with_reducible first | exact HB.out | apply below_alloc | apply pw_below_drewN | apply below_drew1) | exact HB.out)))); have n2_ := Aside0.mk (below_step (by repeat (first | (with_reducible first | exact HB.out | apply below_alloc | apply pw_below_drewN | apply below_drew1) | exact HB.out)) hb); clear HO_7; clear HB; have HO_7 := n0_; have HO502 := n1_; have HB := n2_; clear n0_ n1_ n2_; (try clear hb); (try clear hb2); (try clear hk); (try clear hi); (try clear ho0); obtain ⟨Ao84, co84, eo84⟩ := Kd.R_slice HO502.out; subst eo84; have p503 : 0 ≤ ((ji29) : Int) := of_decide_eq_true (by first | (with_reducible assumption) | assumption); have q503 : (ji29) < (x7_1.length : Int) := of_decide_eq_true (by first | (with_reducible assumption) | assumption); obtain ⟨ad503, A503_0, c503_0, e503, hx503_0, hl503_0, hi503_0⟩ := at_L1 (Kd.S_reads' HO_7.out).2.2 (ji29) p503 q503; cases e503; obtain ⟨ce503, hce503, hMe503, hcc503⟩ := Kd.S_get HO_7.out [] (ji29) p503 (by first | exact q503 | exact of_decide_eq_true (by first | (with_reducible assumption) | assumption) | (have e_ := (Kd.S_reads' HO_7.out).1; omega)); obtain ⟨ve503_0, rfl, ge503_0⟩ := hMe503; have hv503_0 := hcc503 0 _ rfl; rw [Nat.add_zero, show ((Kd.slice 3 (Kd.int .i64))).sz = 1 from rfl, Nat.mul_one] at hv503_0; replace hv503_0 := Option.some.inj (hv503_0.symm.trans hx503_0); rw [hv503_0] at ge503_0; have HL503_0 := Aside0.mk (show Kd.R (Kd.int .i64) 3 _ _ _ _ (rd_L1 x7_1 (ji29)) from ge503_0); clear hv503_0 ge503_0; have HX503_0 := Aside0.mk hx503_0; clear hcc503 hce503; have HR503_0 := Aside0.mk hi503_0; have HC503_0 := Aside0.mk hl503_0; clear hi503_0 hl503_0; replace p503 := eq_true p503; replace q503 := eq_true q503; have n_ := Aside0.mk (Kd.S_mono (ok' := (fun k_ => some k_ ≠ (.slice Ao84 t500.length co84 : Value).ownBlock)) HO_7.out (fun k_ hk => hk.2)); clear HO_7; have HO_7 := n_; clear n_; obtain ⟨go85, co85, eo85, gb85, gl85, cl85, HG85⟩ := Kd.S_form HO_7.out (by have h_ : ((ji29) : Int) < ((x7_1.length : Int) : Int) := of_decide_eq_true (by first | (with_reducible assumption) | assumption); have h2_ : 0 ≤ ((ji29) : Int) := (of_decide_eq_true (by first | (with_reducible assumption) | assumption)); omega); (first | cases eo85 | (injection eo85 with ea_ en_ ec_; (first | subst ea_ | (injection ea_ with ea_; subst ea_)); subst ec_; clear en_)); have GB85 := Aside0.mk gb85; have GG85 := Aside0.mk HG85; clear gb85 gl85 HG85; (first | simp only [add_plain] at hx503_0 | skip); obtain ⟨oki85, ce85, hcl85, hM85, hcc85, _, _, hH85⟩ := Kd.S_elem HO_7.out [] ((ji29) : Int) (of_decide_eq_true (by first | (with_reducible assumption) | assumption)) (by have h_ : ((ji29) : Int) < ((x7_1.length : Int) : Int) := of_decide_eq_true (by first | (with_reducible assumption) | assumption); first | exact h_ | (have e_ := (Kd.S_reads' HO_7.out).1; omega) | simpa using h_); obtain ⟨ve85_0, rfl, ge85_0⟩ := hM85; have hv85 := hcc85 0 _ rfl; have hX85 := HX503_0.out; (try simp only [add_plain] at hX85); (try simp only [Nat.add_zero] at hv85); (try rw [show ((Kd.slice 3 (Kd.int .i64))).sz = 1 from rfl, Nat.mul_one] at hv85); replace hv85 := Option.some.inj (hv85.symm.trans hX85); subst hv85; clear hX85 hcc85 hcl85; have UU85 := Aside0.mk (show Kd.R (Kd.int .i64) 3 _ w.heap.size oki85 (.slice A503_0 (rd_L1 x7_1 (ji29)).length c503_0) (rd_L1 x7_1 (ji29)) from ge85_0); have HH85 := Aside0.mk hH85; have HN85 := Aside0.mk (Kd.S_reads' HO_7.out).1; clear hH85 ge85_0) | ((with_reducible refine gate_builtin (b := .append) (xs := #[.tmp 70, .tmp 71]) rfl ?_); (try (refine gate_guard (by rfl) ?_; dsimp only)); at_builtin; refine Kd.R_append (Kd.int .i64) (w0 := w) w.heap.size rfl (.tmp 70) (.tmp 71) 23 3 (.int .i64 0) 8 rfl Try.underlying23 info3 rfl (by decide) (by omega) (.slice A503_0 (rd_L1 x7_1 (ji29)).length c503_0) (rd_L1 x7_1 (ji29)) 0 [.int .i64 0] (fun k_ => oki85 k_ ∨ ((fun k_ => some k_ ≠ (.slice Ao84 t500.length co84 : Value).ownBlock)) k_ ∧ w83.heap.size ≤ k_) (fun _ => False) rfl rfl ?aP (fun _ hk => hk.elim) ?aF ?aO ?aB ?aS ?aL ?_; (case aP => exact rfl); (case aB => exact (by repeat (first | (with_reducible first | exact HB.out | apply below_alloc | apply pw_below_drewN | apply below_drew1) | exact HB.out))); (case aF => exact (fun k_ hk => .inr ⟨Kd.fresh' (Kd.R_lt (by (with_reducible repeat (first | apply Kd.R_alloc | apply Kd.R_drewN | apply Kd.R_drew)); exact HO502.out)) k_ hk, hk⟩)); (case aO => exact (by (with_reducible repeat (first | apply Kd.R_alloc | apply Kd.R_drewN | apply Kd.R_drew)); exact Kd.R_mono UU85.out (fun _ hk => .inl hk))); (case aS => exact (below_size (by repeat (first | (with_reducible first | exact HB.out | apply below_alloc | apply pw_below_drewN | apply below_drew1) | exact HB.out)))); (case aL => have := LMc32.out; omega); intro v505 w86 ho hb hg hat; rw [← Ny504.out] at ho; have n0_ := Aside0.mk (Kd.R_grown2 (by (with_reducible repeat (first | apply Kd.R_alloc | apply Kd.R_drewN | apply Kd.R_drew)); exact HO502.out) rfl hg (fun k_ e_ => (HL503_0.out.1 k_ e_).1.2)); have n1_ := Aside0.mk (hb); have n2_ := Aside0.mk (Kd.H_grown (Kd.H_widen (by repeat (first | exact HH85.out | refine Kd.H_alloc ?_ _ | refine Kd.H_drewN ?_ _ | refine Kd.H_drew ?_))) hg (fun k_ e_ => .inl (UU85.out.1 k_ e_))); have n3_ := Aside0.mk (ho); clear HO502; clear HB; clear HH85; clear HO_7; clear UU85; clear HL503_0; have HO502 := n0_; have HB := n1_; have HH85 := n2_; have HO506 := n3_; clear n0_ n1_ n2_ n3_; clear ho hb hg hat; have p33 : 0 ≤ ((ji29) : Int) := of_decide_eq_true (by first | (with_reducible assumption) | assumption); have q33 : ((ji29) : Int) < ((x7_1.length : Int) : Int) := of_decide_eq_true (by first | (with_reducible assumption) | assumption); replace p33 := eq_true p33; replace q33 := eq_true q33; obtain ⟨Ao89, co89, eo89⟩ := Kd.R_slice HO506.out; subst eo89; obtain ⟨_, _, hraw87, _, _, hcc87, _⟩ := Kd.H_raw HH85.out (of_decide_eq_true (by first | (with_reducible assumption) | assumption)) (by have h_ : ((ji29) : Int) < ((x7_1.length : Int) : Int) := of_decide_eq_true (by first | (with_reducible assumption) | assumption); first | exact h_ | (have e_ := (HN85.out); omega) | simpa using h_); obtain ⟨_, hfr87⟩ := Kd.H_at HH85.out (of_decide_eq_true (by first | (with_reducible assumption) | assumption)) (by have h_ : ((ji29) : Int) < ((x7_1.length : Int) : Int) := of_decide_eq_true (by first | (with_reducible assumption) | assumption); first | exact h_ | (have e_ := (HN85.out); omega) | simpa using h_); have hx87_0 := hcc87 0 _ rfl; have hf87_0 := hfr87 0; (try simp only [Nat.add_zero] at hx87_0 hf87_0); (try rw [show ((Kd.slice 3 (Kd.int .i64))).sz = 1 from rfl, Nat.mul_one] at hx87_0); (try rw [show ((Kd.slice 3 (Kd.int .i64))).sz = 1 from rfl, Nat.mul_one] at hf87_0); have HP87 := Kd.S_seg0 HH85.out (of_decide_eq_true (by first | (with_reducible assumption) | assumption)) (by have h_ : ((ji29) : Int) < ((x7_1.length : Int) : Int) := of_decide_eq_true (by first | (with_reducible assumption) | assumption); first | exact h_ | (have e_ := (HN85.out); omega) | simpa using h_) (seg := [.slice Ao89 y504.length co89]) (j := 0) (show 1 ≤ 1 from by decide) (x' := y504) (Kd.M_row HO506.out) (fun _ hk => hk); (try simp only [show ((Kd.slice 3 (Kd.int .i64))).sz = 1 from rfl, Nat.mul_one, Nat.add_zero] at HP87); clear hcc87 hfr87) | ((with_reducible refine gate_store (t := 23) (p := 73) rfl ?_); refine store_event (t := 23) (p := 73) (v := ?vo_w88) (w1 := (w86.setCell ⟨go85, ((ji29) : Int).toNat, none⟩ (.slice Ao89 y504.length co89))) ?hg ?ho ?hn ?hr ?_; (case ho => rfl); (case hg => rfl); (case hn => rfl); (case hr => first | (go_simp; done) | (go_simp; rfl)); intro w88 hw; have hg : w86.grownBy w88 (some go85) := (by rw [hw]; exact HP87.2); have hp_ : Kd.S (Kd.slice 3 (Kd.int .i64)) 23 w88 w.heap.size (fun k_ => some k_ ≠ (.slice Ao84 t500.length co84 : Value).ownBlock) (.slice (some ⟨go85, 0, none⟩) x7_1.length co81) y507 := (by rw [hw, Ny507.out]; exact HP87.1); clear HP87; have n0_ := Aside0.mk (Kd.R_over' (v := (.slice (some ⟨go85, 0, none⟩) x7_1.length co81)) (by (with_reducible repeat (first | apply Kd.R_alloc | apply Kd.R_drewN | apply Kd.R_drew)); exact HO502.out) (Kd.R_typed hraw87) (by decide) hg); have n1_ := Aside0.mk ((by rw [hw]; exact below_set HB.out GB85.out : Below w.heap.size w w88)); have n2_ := Aside0.mk (hp_); clear HO502; clear HB; clear HO506; clear HH85; have HO502 := n0_; have HB := n1_; have HO_7 := n2_; clear n0_ n1_ n2_; clear hg hw hp_ hraw87) | ((with_reducible refine gate_callee (f := 38) rfl ?_); refine goesL_ (some 75) rfl rfl Try.func38 (by kernel_rfl) rfl #[.slice (some ⟨go85, 0, none⟩) y507.length co81] rfl (by (try simp only [List.map_toArray, List.map_cons, List.map_nil]); first | done | (rw [show y507.length = x7_1.length from (Kd.S_reads' HO_7.out).1.symm] <;> rfl) | rfl | (simp only [List.length_drop, List.length_take]; rfl)) ?_; (with_reducible refine (graph_Headers.calls k1 _ _ y507 t508 _ ?side1 ?side2 A34.out).mono ?_); (case side1 => repeat (first | exact (Kd.S_reads' HO_7.out).2.2 | (with_reducible refine Kd.C_alloc ?_ _) | (with_reducible refine Kd.C_drewN ?_ _) | (with_reducible refine Kd.C_drew ?_))); (case side2 => rw [show y507.length = x7_1.length from (Kd.S_reads' HO_7.out).1.symm]; exact (Kd.S_reads' HO_7.out).2.1); rintro e w90 ⟨v509, rfl, ho0, hb⟩; refine ⟨_, rfl, ?_⟩; have n0_ := Aside0.mk (Kd.R_elder' (by (with_reducible repeat (first | apply Kd.R_alloc | apply Kd.R_drewN | apply Kd.R_drew)); exact HO502.out) (Kd.R_base ho0) hb); have n1_ := Aside0.mk (Kd.S_elder' (by (with_reducible repeat (first | apply Kd.S_alloc | apply Kd.S_drewN | apply Kd.S_drew)); exact HO_7.out) (Kd.R_base ho0) hb); have n2_ := Aside0.mk (Kd.R_lower (Kd.R_new' ho0 (Kd.R_lt (by (with_reducible repeat (first | apply Kd.R_alloc | apply Kd.R_drewN | apply Kd.R_drew)); exact HO502.out))) (below_size (by repeat (first | (with_reducible first | exact HB.out | apply below_alloc | apply pw_below_drewN | apply below_drew1) | exact HB.out)))); have n3_ := Aside0.mk (below_step (by repeat (first | (with_reducible first | exact HB.out | apply below_alloc | apply pw_below_drewN | apply below_drew1) | exact HB.out)) hb); clear HO502; clear HO_7; clear HB; have HO502 := n0_; have HO_7 := n1_; have HO510 := n2_; have HB := n3_; clear n0_ n1_ n2_ n3_; (try clear hb); (try clear hb2); (try clear hk); (try clear hi); (try clear ho0); obtain ⟨Ao91, co91, eo91⟩ := Kd.R_slice HO510.out; subst eo91))
                      go_ret
                      exact ⟨by first | rfl | (simp [errW_none, errW_some] <;> rfl) | (simp only [← hji29]; first | rfl | (simp [errW_none, errW_some] <;> rfl)) | (simp [*, errW_none, errW_some] <;> rfl), by repeat (first | (with_reducible first | exact HB.out | apply below_alloc | apply pw_below_drewN | apply below_drew1) | exact HB.out)⟩
                  · rw [if_neg c36] at H
                    have c36b0 : ((t500.length : Int) == 0) = false := beq_eq_false_iff_ne.mpr c36
                    have c36b1 : ((t500.length : Int) != 0) = true := bne_iff_ne.mpr c36
                    have c36b2 : ¬ (t500 = []) := fun h_ => c36 (by rw [h_]; rfl)
                    obtain rfl := Option.some.inj H
                    obtain ⟨Ao92, co92, eo92⟩ := Kd.S_slice HO_7.out
                    subst eo92
                    go_wp2_with (first | ((with_reducible refine gate_callee (f := 49) rfl ?_); refine goesL_ (some 56) rfl rfl Try.func49 (by kernel_rfl) rfl #[.slice Ao92 x7_1.length co92] rfl (by (try simp only [List.map_toArray, List.map_cons, List.map_nil]); first | done | rfl | (simp only [List.length_drop, List.length_take]; rfl)) ?_; (with_reducible refine (graph_Reducible.calls k1 _ _ x7_1 true _ ?side1 ?side2 A26.out).mono ?_); (case side1 => repeat (first | exact (Kd.S_reads' HO_7.out).2.2 | (with_reducible refine Kd.C_alloc ?_ _) | (with_reducible refine Kd.C_drewN ?_ _) | (with_reducible refine Kd.C_drew ?_))); (case side2 => exact (Kd.S_reads' HO_7.out).2.1); rintro e w93 ⟨rfl, hb⟩; refine ⟨_, rfl, ?_⟩; have n0_ := Aside0.mk (Kd.S_below (by (with_reducible repeat (first | apply Kd.S_alloc | apply Kd.S_drewN | apply Kd.S_drew)); exact HO_7.out) hb); have n1_ := Aside0.mk (below_step (by repeat (first | (with_reducible first | exact HB.out | apply below_alloc | apply pw_below_drewN | apply below_drew1) | exact HB.out)) hb); clear HO_7; clear HB; have HO_7 := n0_; have HB := n1_; clear n0_ n1_; (try clear hb); (try clear hb2); (try clear hk); (try clear hi)) | (go_at_call 38; (with_reducible refine (graph_Headers.calls k1 _ _ x7_1 t500 _ ?side1 ?side2 A28.out).mono ?_); (case side1 => repeat (first | exact (Kd.S_reads' HO_7.out).2.2 | (with_reducible refine Kd.C_alloc ?_ _) | (with_reducible refine Kd.C_drewN ?_ _) | (with_reducible refine Kd.C_drew ?_))); (case side2 => exact (Kd.S_reads' HO_7.out).2.1); rintro e w94 ⟨v501, rfl, ho0, hb⟩; have n0_ := Aside0.mk (Kd.S_elder' (by (with_reducible repeat (first | apply Kd.S_alloc | apply Kd.S_drewN | apply Kd.S_drew)); exact HO_7.out) (Kd.R_base ho0) hb); have n1_ := Aside0.mk (Kd.R_lower ho0 (below_size (by repeat (first | (with_reducible first | exact HB.out | apply below_alloc | apply pw_below_drewN | apply below_drew1) | exact HB.out)))); have n2_ := Aside0.mk (below_step (by repeat (first | (with_reducible first | exact HB.out | apply below_alloc | apply pw_below_drewN | apply below_drew1) | exact HB.out)) hb); clear HO_7; clear HB; have HO_7 := n0_; have HO502 := n1_; have HB := n2_; clear n0_ n1_ n2_; (try clear hb); (try clear hb2); (try clear hk); (try clear hi); (try clear ho0); obtain ⟨Ao95, co95, eo95⟩ := Kd.R_slice HO502.out; subst eo95; have p503 : 0 ≤ ((ji29) : Int) := of_decide_eq_true (by first | (with_reducible assumption) | assumption); have q503 : (ji29) < (x7_1.length : Int) := of_decide_eq_true (by first | (with_reducible assumption) | assumption); obtain ⟨ad503, A503_0, c503_0, e503, hx503_0, hl503_0, hi503_0⟩ := at_L1 (Kd.S_reads' HO_7.out).2.2 (ji29) p503 q503; cases e503; obtain ⟨ce503, hce503, hMe503, hcc503⟩ := Kd.S_get HO_7.out [] (ji29) p503 (by first | exact q503 | exact of_decide_eq_true (by first | (with_reducible assumption) | assumption) | (have e_ := (Kd.S_reads' HO_7.out).1; omega)); obtain ⟨ve503_0, rfl, ge503_0⟩ := hMe503; have hv503_0 := hcc503 0 _ rfl; rw [Nat.add_zero, show ((Kd.slice 3 (Kd.int .i64))).sz = 1 from rfl, Nat.mul_one] at hv503_0; replace hv503_0 := Option.some.inj (hv503_0.symm.trans hx503_0); rw [hv503_0] at ge503_0; have HL503_0 := Aside0.mk (show Kd.R (Kd.int .i64) 3 _ _ _ _ (rd_L1 x7_1 (ji29)) from ge503_0); clear hv503_0 ge503_0; have HX503_0 := Aside0.mk hx503_0; clear hcc503 hce503; have HR503_0 := Aside0.mk hi503_0; have HC503_0 := Aside0.mk hl503_0; clear hi503_0 hl503_0; replace p503 := eq_true p503; replace q503 := eq_true q503; have n_ := Aside0.mk (Kd.S_mono (ok' := (fun k_ => some k_ ≠ (.slice Ao95 t500.length co95 : Value).ownBlock)) HO_7.out (fun k_ hk => hk.2)); clear HO_7; have HO_7 := n_; clear n_; obtain ⟨go96, co96, eo96, gb96, gl96, cl96, HG96⟩ := Kd.S_form HO_7.out (by have h_ : ((ji29) : Int) < ((x7_1.length : Int) : Int) := of_decide_eq_true (by first | (with_reducible assumption) | assumption); have h2_ : 0 ≤ ((ji29) : Int) := (of_decide_eq_true (by first | (with_reducible assumption) | assumption)); omega); (first | cases eo96 | (injection eo96 with ea_ en_ ec_; (first | subst ea_ | (injection ea_ with ea_; subst ea_)); subst ec_; clear en_)); have GB96 := Aside0.mk gb96; have GG96 := Aside0.mk HG96; clear gb96 gl96 HG96; (first | simp only [add_plain] at hx503_0 | skip); obtain ⟨oki96, ce96, hcl96, hM96, hcc96, _, _, hH96⟩ := Kd.S_elem HO_7.out [] ((ji29) : Int) (of_decide_eq_true (by first | (with_reducible assumption) | assumption)) (by have h_ : ((ji29) : Int) < ((x7_1.length : Int) : Int) := of_decide_eq_true (by first | (with_reducible assumption) | assumption); first | exact h_ | (have e_ := (Kd.S_reads' HO_7.out).1; omega) | simpa using h_); obtain ⟨ve96_0, rfl, ge96_0⟩ := hM96; have hv96 := hcc96 0 _ rfl; have hX96 := HX503_0.out; (try simp only [add_plain] at hX96); (try simp only [Nat.add_zero] at hv96); (try rw [show ((Kd.slice 3 (Kd.int .i64))).sz = 1 from rfl, Nat.mul_one] at hv96); replace hv96 := Option.some.inj (hv96.symm.trans hX96); subst hv96; clear hX96 hcc96 hcl96; have UU96 := Aside0.mk (show Kd.R (Kd.int .i64) 3 _ w.heap.size oki96 (.slice A503_0 (rd_L1 x7_1 (ji29)).length c503_0) (rd_L1 x7_1 (ji29)) from ge96_0); have HH96 := Aside0.mk hH96; have HN96 := Aside0.mk (Kd.S_reads' HO_7.out).1; clear hH96 ge96_0) | ((with_reducible refine gate_builtin (b := .append) (xs := #[.tmp 70, .tmp 71]) rfl ?_); (try (refine gate_guard (by rfl) ?_; dsimp only)); at_builtin; refine Kd.R_append (Kd.int .i64) (w0 := w) w.heap.size rfl (.tmp 70) (.tmp 71) 23 3 (.int .i64 0) 8 rfl Try.underlying23 info3 rfl (by decide) (by omega) (.slice A503_0 (rd_L1 x7_1 (ji29)).length c503_0) (rd_L1 x7_1 (ji29)) 0 [.int .i64 0] (fun k_ => oki96 k_ ∨ ((fun k_ => some k_ ≠ (.slice Ao95 t500.length co95 : Value).ownBlock)) k_ ∧ w94.heap.size ≤ k_) (fun _ => False) rfl rfl ?aP (fun _ hk => hk.elim) ?aF ?aO ?aB ?aS ?aL ?_; (case aP => exact rfl); (case aB => exact (by repeat (first | (with_reducible first | exact HB.out | apply below_alloc | apply pw_below_drewN | apply below_drew1) | exact HB.out))); (case aF => exact (fun k_ hk => .inr ⟨Kd.fresh' (Kd.R_lt (by (with_reducible repeat (first | apply Kd.R_alloc | apply Kd.R_drewN | apply Kd.R_drew)); exact HO502.out)) k_ hk, hk⟩)); (case aO => exact (by (with_reducible repeat (first | apply Kd.R_alloc | apply Kd.R_drewN | apply Kd.R_drew)); exact Kd.R_mono UU96.out (fun _ hk => .inl hk))); (case aS => exact (below_size (by repeat (first | (with_reducible first | exact HB.out | apply below_alloc | apply pw_below_drewN | apply below_drew1) | exact HB.out)))); (case aL => have := LMc32.out; omega); intro v505 w97 ho hb hg hat; rw [← Ny504.out] at ho; have n0_ := Aside0.mk (Kd.R_grown2 (by (with_reducible repeat (first | apply Kd.R_alloc | apply Kd.R_drewN | apply Kd.R_drew)); exact HO502.out) rfl hg (fun k_ e_ => (HL503_0.out.1 k_ e_).1.2)); have n1_ := Aside0.mk (hb); have n2_ := Aside0.mk (Kd.H_grown (Kd.H_widen (by repeat (first | exact HH96.out | refine Kd.H_alloc ?_ _ | refine Kd.H_drewN ?_ _ | refine Kd.H_drew ?_))) hg (fun k_ e_ => .inl (UU96.out.1 k_ e_))); have n3_ := Aside0.mk (ho); clear HO502; clear HB; clear HH96; clear HO_7; clear UU96; clear HL503_0; have HO502 := n0_; have HB := n1_; have HH96 := n2_; have HO506 := n3_; clear n0_ n1_ n2_ n3_; clear ho hb hg hat; have p33 : 0 ≤ ((ji29) : Int) := of_decide_eq_true (by first | (with_reducible assumption) | assumption); have q33 : ((ji29) : Int) < ((x7_1.length : Int) : Int) := of_decide_eq_true (by first | (with_reducible assumption) | assumption); replace p33 := eq_true p33; replace q33 := eq_true q33; obtain ⟨Ao100, co100, eo100⟩ := Kd.R_slice HO506.out; subst eo100; obtain ⟨_, _, hraw98, _, _, hcc98, _⟩ := Kd.H_raw HH96.out (of_decide_eq_true (by first | (with_reducible assumption) | assumption)) (by have h_ : ((ji29) : Int) < ((x7_1.length : Int) : Int) := of_decide_eq_true (by first | (with_reducible assumption) | assumption); first | exact h_ | (have e_ := (HN96.out); omega) | simpa using h_); obtain ⟨_, hfr98⟩ := Kd.H_at HH96.out (of_decide_eq_true (by first | (with_reducible assumption) | assumption)) (by have h_ : ((ji29) : Int) < ((x7_1.length : Int) : Int) := of_decide_eq_true (by first | (with_reducible assumption) | assumption); first | exact h_ | (have e_ := (HN96.out); omega) | simpa using h_); have hx98_0 := hcc98 0 _ rfl; have hf98_0 := hfr98 0; (try simp only [Nat.add_zero] at hx98_0 hf98_0); (try rw [show ((Kd.slice 3 (Kd.int .i64))).sz = 1 from rfl, Nat.mul_one] at hx98_0); (try rw [show ((Kd.slice 3 (Kd.int .i64))).sz = 1 from rfl, Nat.mul_one] at hf98_0); have HP98 := Kd.S_seg0 HH96.out (of_decide_eq_true (by first | (with_reducible assumption) | assumption)) (by have h_ : ((ji29) : Int) < ((x7_1.length : Int) : Int) := of_decide_eq_true (by first | (with_reducible assumption) | assumption); first | exact h_ | (have e_ := (HN96.out); omega) | simpa using h_) (seg := [.slice Ao100 y504.length co100]) (j := 0) (show 1 ≤ 1 from by decide) (x' := y504) (Kd.M_row HO506.out) (fun _ hk => hk); (try simp only [show ((Kd.slice 3 (Kd.int .i64))).sz = 1 from rfl, Nat.mul_one, Nat.add_zero] at HP98); clear hcc98 hfr98) | ((with_reducible refine gate_store (t := 23) (p := 73) rfl ?_); refine store_event (t := 23) (p := 73) (v := ?vo_w99) (w1 := (w97.setCell ⟨go96, ((ji29) : Int).toNat, none⟩ (.slice Ao100 y504.length co100))) ?hg ?ho ?hn ?hr ?_; (case ho => rfl); (case hg => rfl); (case hn => rfl); (case hr => first | (go_simp; done) | (go_simp; rfl)); intro w99 hw; have hg : w97.grownBy w99 (some go96) := (by rw [hw]; exact HP98.2); have hp_ : Kd.S (Kd.slice 3 (Kd.int .i64)) 23 w99 w.heap.size (fun k_ => some k_ ≠ (.slice Ao95 t500.length co95 : Value).ownBlock) (.slice (some ⟨go96, 0, none⟩) x7_1.length co92) y507 := (by rw [hw, Ny507.out]; exact HP98.1); clear HP98; have n0_ := Aside0.mk (Kd.R_over' (v := (.slice (some ⟨go96, 0, none⟩) x7_1.length co92)) (by (with_reducible repeat (first | apply Kd.R_alloc | apply Kd.R_drewN | apply Kd.R_drew)); exact HO502.out) (Kd.R_typed hraw98) (by decide) hg); have n1_ := Aside0.mk ((by rw [hw]; exact below_set HB.out GB96.out : Below w.heap.size w w99)); have n2_ := Aside0.mk (hp_); clear HO502; clear HB; clear HO506; clear HH96; have HO502 := n0_; have HB := n1_; have HO_7 := n2_; clear n0_ n1_ n2_; clear hg hw hp_ hraw98) | ((with_reducible refine gate_callee (f := 38) rfl ?_); refine goesL_ (some 75) rfl rfl Try.func38 (by kernel_rfl) rfl #[.slice (some ⟨go96, 0, none⟩) y507.length co92] rfl (by (try simp only [List.map_toArray, List.map_cons, List.map_nil]); first | done | (rw [show y507.length = x7_1.length from (Kd.S_reads' HO_7.out).1.symm] <;> rfl) | rfl | (simp only [List.length_drop, List.length_take]; rfl)) ?_; (with_reducible refine (graph_Headers.calls k1 _ _ y507 t508 _ ?side1 ?side2 A34.out).mono ?_); (case side1 => repeat (first | exact (Kd.S_reads' HO_7.out).2.2 | (with_reducible refine Kd.C_alloc ?_ _) | (with_reducible refine Kd.C_drewN ?_ _) | (with_reducible refine Kd.C_drew ?_))); (case side2 => rw [show y507.length = x7_1.length from (Kd.S_reads' HO_7.out).1.symm]; exact (Kd.S_reads' HO_7.out).2.1); rintro e w101 ⟨v509, rfl, ho0, hb⟩; refine ⟨_, rfl, ?_⟩; have n0_ := Aside0.mk (Kd.R_elder' (by (with_reducible repeat (first | apply Kd.R_alloc | apply Kd.R_drewN | apply Kd.R_drew)); exact HO502.out) (Kd.R_base ho0) hb); have n1_ := Aside0.mk (Kd.S_elder' (by (with_reducible repeat (first | apply Kd.S_alloc | apply Kd.S_drewN | apply Kd.S_drew)); exact HO_7.out) (Kd.R_base ho0) hb); have n2_ := Aside0.mk (Kd.R_lower (Kd.R_new' ho0 (Kd.R_lt (by (with_reducible repeat (first | apply Kd.R_alloc | apply Kd.R_drewN | apply Kd.R_drew)); exact HO502.out))) (below_size (by repeat (first | (with_reducible first | exact HB.out | apply below_alloc | apply pw_below_drewN | apply below_drew1) | exact HB.out)))); have n3_ := Aside0.mk (below_step (by repeat (first | (with_reducible first | exact HB.out | apply below_alloc | apply pw_below_drewN | apply below_drew1) | exact HB.out)) hb); clear HO502; clear HO_7; clear HB; have HO502 := n0_; have HO_7 := n1_; have HO510 := n2_; have HB := n3_; clear n0_ n1_ n2_ n3_; (try clear hb); (try clear hb2); (try clear hk); (try clear hi); (try clear ho0)))
                    go_ret
                    exact ⟨by first | rfl | (simp [errW_none, errW_some] <;> rfl) | (simp only [← hji29]; first | rfl | (simp [errW_none, errW_some] <;> rfl)) | (simp [*, errW_none, errW_some] <;> rfl), by repeat (first | (with_reducible first | exact HB.out | apply below_alloc | apply pw_below_drewN | apply below_drew1) | exact HB.out)⟩
                · replace c35 := Bool.eq_false_iff.mpr c35
                  subst c35
                  have H1 : (some false) = some r := by rw [if_neg (show ¬ (false = true) by decide)] at H; exact H
                  clear H
                  have H := H1
                  clear H1
                  obtain rfl := Option.some.inj H
                  obtain ⟨Ao102, co102, eo102⟩ := Kd.S_slice HO_7.out
                  subst eo102
                  go_wp2_with (first | ((with_reducible refine gate_callee (f := 49) rfl ?_); refine goesL_ (some 56) rfl rfl Try.func49 (by kernel_rfl) rfl #[.slice Ao102 x7_1.length co102] rfl (by (try simp only [List.map_toArray, List.map_cons, List.map_nil]); first | done | rfl | (simp only [List.length_drop, List.length_take]; rfl)) ?_; (with_reducible refine (graph_Reducible.calls k1 _ _ x7_1 true _ ?side1 ?side2 A26.out).mono ?_); (case side1 => repeat (first | exact (Kd.S_reads' HO_7.out).2.2 | (with_reducible refine Kd.C_alloc ?_ _) | (with_reducible refine Kd.C_drewN ?_ _) | (with_reducible refine Kd.C_drew ?_))); (case side2 => exact (Kd.S_reads' HO_7.out).2.1); rintro e w103 ⟨rfl, hb⟩; refine ⟨_, rfl, ?_⟩; have n0_ := Aside0.mk (Kd.S_below (by (with_reducible repeat (first | apply Kd.S_alloc | apply Kd.S_drewN | apply Kd.S_drew)); exact HO_7.out) hb); have n1_ := Aside0.mk (below_step (by repeat (first | (with_reducible first | exact HB.out | apply below_alloc | apply pw_below_drewN | apply below_drew1) | exact HB.out)) hb); clear HO_7; clear HB; have HO_7 := n0_; have HB := n1_; clear n0_ n1_; (try clear hb); (try clear hb2); (try clear hk); (try clear hi)) | (go_at_call 38; (with_reducible refine (graph_Headers.calls k1 _ _ x7_1 t500 _ ?side1 ?side2 A28.out).mono ?_); (case side1 => repeat (first | exact (Kd.S_reads' HO_7.out).2.2 | (with_reducible refine Kd.C_alloc ?_ _) | (with_reducible refine Kd.C_drewN ?_ _) | (with_reducible refine Kd.C_drew ?_))); (case side2 => exact (Kd.S_reads' HO_7.out).2.1); rintro e w104 ⟨v501, rfl, ho0, hb⟩; have n0_ := Aside0.mk (Kd.S_elder' (by (with_reducible repeat (first | apply Kd.S_alloc | apply Kd.S_drewN | apply Kd.S_drew)); exact HO_7.out) (Kd.R_base ho0) hb); have n1_ := Aside0.mk (Kd.R_lower ho0 (below_size (by repeat (first | (with_reducible first | exact HB.out | apply below_alloc | apply pw_below_drewN | apply below_drew1) | exact HB.out)))); have n2_ := Aside0.mk (below_step (by repeat (first | (with_reducible first | exact HB.out | apply below_alloc | apply pw_below_drewN | apply below_drew1) | exact HB.out)) hb); clear HO_7; clear HB; have HO_7 := n0_; have HO502 := n1_; have HB := n2_; clear n0_ n1_ n2_; (try clear hb); (try clear hb2); (try clear hk); (try clear hi); (try clear ho0); obtain ⟨Ao105, co105, eo105⟩ := Kd.R_slice HO502.out; subst eo105; have p503 : 0 ≤ ((ji29) : Int) := of_decide_eq_true (by first | (with_reducible assumption) | assumption); have q503 : (ji29) < (x7_1.length : Int) := of_decide_eq_true (by first | (with_reducible assumption) | assumption); obtain ⟨ad503, A503_0, c503_0, e503, hx503_0, hl503_0, hi503_0⟩ := at_L1 (Kd.S_reads' HO_7.out).2.2 (ji29) p503 q503; cases e503; obtain ⟨ce503, hce503, hMe503, hcc503⟩ := Kd.S_get HO_7.out [] (ji29) p503 (by first | exact q503 | exact of_decide_eq_true (by first | (with_reducible assumption) | assumption) | (have e_ := (Kd.S_reads' HO_7.out).1; omega)); obtain ⟨ve503_0, rfl, ge503_0⟩ := hMe503; have hv503_0 := hcc503 0 _ rfl; rw [Nat.add_zero, show ((Kd.slice 3 (Kd.int .i64))).sz = 1 from rfl, Nat.mul_one] at hv503_0; replace hv503_0 := Option.some.inj (hv503_0.symm.trans hx503_0); rw [hv503_0] at ge503_0; have HL503_0 := Aside0.mk (show Kd.R (Kd.int .i64) 3 _ _ _ _ (rd_L1 x7_1 (ji29)) from ge503_0); clear hv503_0 ge503_0; have HX503_0 := Aside0.mk hx503_0; clear hcc503 hce503; have HR503_0 := Aside0.mk hi503_0; have HC503_0 := Aside0.mk hl503_0; clear hi503_0 hl503_0; replace p503 := eq_true p503; replace q503 := eq_true q503; have n_ := Aside0.mk (Kd.S_mono (ok' := (fun k_ => some k_ ≠ (.slice Ao105 t500.length co105 : Value).ownBlock)) HO_7.out (fun k_ hk => hk.2)); clear HO_7; have HO_7 := n_; clear n_; obtain ⟨go106, co106, eo106, gb106, gl106, cl106, HG106⟩ := Kd.S_form HO_7.out (by have h_ : ((ji29) : Int) < ((x7_1.length : Int) : Int) := of_decide_eq_true (by first | (with_reducible assumption) | assumption); have h2_ : 0 ≤ ((ji29) : Int) := (of_decide_eq_true (by first | (with_reducible assumption) | assumption)); omega); (first | cases eo106 | (injection eo106 with ea_ en_ ec_; (first | subst ea_ | (injection ea_ with ea_; subst ea_)); subst ec_; clear en_)); have GB106 := Aside0.mk gb106; have GG106 := Aside0.mk HG106; clear gb106 gl106 HG106; (first | simp only [add_plain] at hx503_0 | skip); obtain ⟨oki106, ce106, hcl106, hM106, hcc106, _, _, hH106⟩ := Kd.S_elem HO_7.out [] ((ji29) : Int) (of_decide_eq_true (by first | (with_reducible assumption) | assumption)) (by have h_ : ((ji29) : Int) < ((x7_1.length : Int) : Int) := of_decide_eq_true (by first | (with_reducible assumption) | assumption); first | exact h_ | (have e_ := (Kd.S_reads' HO_7.out).1; omega) | simpa using h_); obtain ⟨ve106_0, rfl, ge106_0⟩ := hM106; have hv106 := hcc106 0 _ rfl; have hX106 := HX503_0.out; (try simp only [add_plain] at hX106); (try simp only [Nat.add_zero] at hv106); (try rw [show ((Kd.slice 3 (Kd.int .i64))).sz = 1 from rfl, Nat.mul_one] at hv106); replace hv106 := Option.some.inj (hv106.symm.trans hX106); subst hv106; clear hX106 hcc106 hcl106; have UU106 := Aside0.mk (show Kd.R (Kd.int .i64) 3 _ w.heap.size oki106 (.slice A503_0 (rd_L1 x7_1 (ji29)).length c503_0) (rd_L1 x7_1 (ji29)) from ge106_0); have HH106 := Aside0.mk hH106; have HN106 := Aside0.mk (Kd.S_reads' HO_7.out).1; clear hH106 ge106_0) | ((with_reducible refine gate_builtin (b := .append) (xs := #[.tmp 70, .tmp 71]) rfl ?_); (try (refine gate_guard (by rfl) ?_; dsimp only)); at_builtin; refine Kd.R_append (Kd.int .i64) (w0 := w) w.heap.size rfl (.tmp 70) (.tmp 71) 23 3 (.int .i64 0) 8 rfl Try.underlying23 info3 rfl (by decide) (by omega) (.slice A503_0 (rd_L1 x7_1 (ji29)).length c503_0) (rd_L1 x7_1 (ji29)) 0 [.int .i64 0] (fun k_ => oki106 k_ ∨ ((fun k_ => some k_ ≠ (.slice Ao105 t500.length co105 : Value).ownBlock)) k_ ∧ w104.heap.size ≤ k_) (fun _ => False) rfl rfl ?aP (fun _ hk => hk.elim) ?aF ?aO ?aB ?aS ?aL ?_; (case aP => exact rfl); (case aB => exact (by repeat (first | (with_reducible first | exact HB.out | apply below_alloc | apply pw_below_drewN | apply below_drew1) | exact HB.out))); (case aF => exact (fun k_ hk => .inr ⟨Kd.fresh' (Kd.R_lt (by (with_reducible repeat (first | apply Kd.R_alloc | apply Kd.R_drewN | apply Kd.R_drew)); exact HO502.out)) k_ hk, hk⟩)); (case aO => exact (by (with_reducible repeat (first | apply Kd.R_alloc | apply Kd.R_drewN | apply Kd.R_drew)); exact Kd.R_mono UU106.out (fun _ hk => .inl hk))); (case aS => exact (below_size (by repeat (first | (with_reducible first | exact HB.out | apply below_alloc | apply pw_below_drewN | apply below_drew1) | exact HB.out)))); (case aL => have := LMc32.out; omega); intro v505 w107 ho hb hg hat; rw [← Ny504.out] at ho; have n0_ := Aside0.mk (Kd.R_grown2 (by (with_reducible repeat (first | apply Kd.R_alloc | apply Kd.R_drewN | apply Kd.R_drew)); exact HO502.out) rfl hg (fun k_ e_ => (HL503_0.out.1 k_ e_).1.2)); have n1_ := Aside0.mk (hb); have n2_ := Aside0.mk (Kd.H_grown (Kd.H_widen (by repeat (first | exact HH106.out | refine Kd.H_alloc ?_ _ | refine Kd.H_drewN ?_ _ | refine Kd.H_drew ?_))) hg (fun k_ e_ => .inl (UU106.out.1 k_ e_))); have n3_ := Aside0.mk (ho); clear HO502; clear HB; clear HH106; clear HO_7; clear UU106; clear HL503_0; have HO502 := n0_; have HB := n1_; have HH106 := n2_; have HO506 := n3_; clear n0_ n1_ n2_ n3_; clear ho hb hg hat; have p33 : 0 ≤ ((ji29) : Int) := of_decide_eq_true (by first | (with_reducible assumption) | assumption); have q33 : ((ji29) : Int) < ((x7_1.length : Int) : Int) := of_decide_eq_true (by first | (with_reducible assumption) | assumption); replace p33 := eq_true p33; replace q33 := eq_true q33; obtain ⟨Ao110, co110, eo110⟩ := Kd.R_slice HO506.out; subst eo110; obtain ⟨_, _, hraw108, _, _, hcc108, _⟩ := Kd.H_raw HH106.out (of_decide_eq_true (by first | (with_reducible assumption) | assumption)) (by have h_ : ((ji29) : Int) < ((x7_1.length : Int) : Int) := of_decide_eq_true (by first | (with_reducible assumption) | assumption); first | exact h_ | (have e_ := (HN106.out); omega) | simpa using h_); obtain ⟨_, hfr108⟩ := Kd.H_at HH106.out (of_decide_eq_true (by first | (with_reducible assumption) | assumption)) (by have h_ : ((ji29) : Int) < ((x7_1.length : Int) : Int) := of_decide_eq_true (by first | (with_reducible assumption) | assumption); first | exact h_ | (have e_ := (HN106.out); omega) | simpa using h_); have hx108_0 := hcc108 0 _ rfl; have hf108_0 := hfr108 0; (try simp only [Nat.add_zero] at hx108_0 hf108_0); (try rw [show ((Kd.slice 3 (Kd.int .i64))).sz = 1 from rfl, Nat.mul_one] at hx108_0); (try rw [show ((Kd.slice 3 (Kd.int .i64))).sz = 1 from rfl, Nat.mul_one] at hf108_0); have HP108 := Kd.S_seg0 HH106.out (of_decide_eq_true (by first | (with_reducible assumption) | assumption)) (by have h_ : ((ji29) : Int) < ((x7_1.length : Int) : Int) := of_decide_eq_true (by first | (with_reducible assumption) | assumption); first | exact h_ | (have e_ := (HN106.out); omega) | simpa using h_) (seg := [.slice Ao110 y504.length co110]) (j := 0) (show 1 ≤ 1 from by decide) (x' := y504) (Kd.M_row HO506.out) (fun _ hk => hk); (try simp only [show ((Kd.slice 3 (Kd.int .i64))).sz = 1 from rfl, Nat.mul_one, Nat.add_zero] at HP108); clear hcc108 hfr108) | ((with_reducible refine gate_store (t := 23) (p := 73) rfl ?_); refine store_event (t := 23) (p := 73) (v := ?vo_w109) (w1 := (w107.setCell ⟨go106, ((ji29) : Int).toNat, none⟩ (.slice Ao110 y504.length co110))) ?hg ?ho ?hn ?hr ?_; (case ho => rfl); (case hg => rfl); (case hn => rfl); (case hr => first | (go_simp; done) | (go_simp; rfl)); intro w109 hw; have hg : w107.grownBy w109 (some go106) := (by rw [hw]; exact HP108.2); have hp_ : Kd.S (Kd.slice 3 (Kd.int .i64)) 23 w109 w.heap.size (fun k_ => some k_ ≠ (.slice Ao105 t500.length co105 : Value).ownBlock) (.slice (some ⟨go106, 0, none⟩) x7_1.length co102) y507 := (by rw [hw, Ny507.out]; exact HP108.1); clear HP108; have n0_ := Aside0.mk (Kd.R_over' (v := (.slice (some ⟨go106, 0, none⟩) x7_1.length co102)) (by (with_reducible repeat (first | apply Kd.R_alloc | apply Kd.R_drewN | apply Kd.R_drew)); exact HO502.out) (Kd.R_typed hraw108) (by decide) hg); have n1_ := Aside0.mk ((by rw [hw]; exact below_set HB.out GB106.out : Below w.heap.size w w109)); have n2_ := Aside0.mk (hp_); clear HO502; clear HB; clear HO506; clear HH106; have HO502 := n0_; have HB := n1_; have HO_7 := n2_; clear n0_ n1_ n2_; clear hg hw hp_ hraw108) | ((with_reducible refine gate_callee (f := 38) rfl ?_); refine goesL_ (some 75) rfl rfl Try.func38 (by kernel_rfl) rfl #[.slice (some ⟨go106, 0, none⟩) y507.length co102] rfl (by (try simp only [List.map_toArray, List.map_cons, List.map_nil]); first | done | (rw [show y507.length = x7_1.length from (Kd.S_reads' HO_7.out).1.symm] <;> rfl) | rfl | (simp only [List.length_drop, List.length_take]; rfl)) ?_; (with_reducible refine (graph_Headers.calls k1 _ _ y507 t508 _ ?side1 ?side2 A34.out).mono ?_); (case side1 => repeat (first | exact (Kd.S_reads' HO_7.out).2.2 | (with_reducible refine Kd.C_alloc ?_ _) | (with_reducible refine Kd.C_drewN ?_ _) | (with_reducible refine Kd.C_drew ?_))); (case side2 => rw [show y507.length = x7_1.length from (Kd.S_reads' HO_7.out).1.symm]; exact (Kd.S_reads' HO_7.out).2.1); rintro e w111 ⟨v509, rfl, ho0, hb⟩; refine ⟨_, rfl, ?_⟩; have n0_ := Aside0.mk (Kd.R_elder' (by (with_reducible repeat (first | apply Kd.R_alloc | apply Kd.R_drewN | apply Kd.R_drew)); exact HO502.out) (Kd.R_base ho0) hb); have n1_ := Aside0.mk (Kd.S_elder' (by (with_reducible repeat (first | apply Kd.S_alloc | apply Kd.S_drewN | apply Kd.S_drew)); exact HO_7.out) (Kd.R_base ho0) hb); have n2_ := Aside0.mk (Kd.R_lower (Kd.R_new' ho0 (Kd.R_lt (by (with_reducible repeat (first | apply Kd.R_alloc | apply Kd.R_drewN | apply Kd.R_drew)); exact HO502.out))) (below_size (by repeat (first | (with_reducible first | exact HB.out | apply below_alloc | apply pw_below_drewN | apply below_drew1) | exact HB.out)))); have n3_ := Aside0.mk (below_step (by repeat (first | (with_reducible first | exact HB.out | apply below_alloc | apply pw_below_drewN | apply below_drew1) | exact HB.out)) hb); clear HO502; clear HO_7; clear HB; have HO502 := n0_; have HO_7 := n1_; have HO510 := n2_; have HB := n3_; clear n0_ n1_ n2_ n3_; (try clear hb); (try clear hb2); (try clear hk); (try clear hi); (try clear ho0)))
                  go_ret
                  exact ⟨by first | rfl | (simp [errW_none, errW_some] <;> rfl) | (simp only [← hji29]; first | rfl | (simp [errW_none, errW_some] <;> rfl)) | (simp [*, errW_none, errW_some] <;> rfl), by repeat (first | (with_reducible first | exact HB.out | apply below_alloc | apply pw_below_drewN | apply below_drew1) | exact HB.out)⟩
              · rw [if_neg c32] at H
                exact absurd H (by simp)
            · rw [if_neg c31] at H
              exact absurd H (by simp)
          · rw [if_neg c30] at H
            exact absurd H (by simp)
        · replace c27 := Bool.eq_false_iff.mpr c27
          subst c27
          have H1 : (if 0 ≤ (wrap64 ((wrap64 (1 + t481)) - 1)) then (if (wrap64 ((wrap64 (1 + t481)) - 1)) < (x7_1.length : Int) then (if (rd_L1 x7_1 (wrap64 ((wrap64 (1 + t481)) - 1))).length < 17592186044416 then ((graph_Headers.f k1 (x7_1.set ((wrap64 ((wrap64 (1 + t481)) - 1)) : Int).toNat ((rd_L1 x7_1 (wrap64 ((wrap64 (1 + t481)) - 1))) ++ [0]))).bind fun t521 => (if t480 = true then (some false) else (some false))) else (none)) else (none)) else (none)) = some r := by rw [if_neg (show ¬ (false = true) by decide)] at H; exact H
          clear H
          have H := H1
          clear H1
          obtain ⟨ji112, hji112⟩ : ∃ j_ : Int, (wrap64 ((wrap64 (1 + t481)) - 1)) = j_ := ⟨_, rfl⟩
          replace H : (if 0 ≤ (ji112) then (if (ji112) < (x7_1.length : Int) then (if (rd_L1 x7_1 (ji112)).length < 17592186044416 then ((graph_Headers.f k1 (x7_1.set ((ji112) : Int).toNat ((rd_L1 x7_1 (ji112)) ++ [0]))).bind fun t521 => (if t480 = true then (some false) else (some false))) else (none)) else (none)) else (none)) = some r := by first | (rw [hji112] at H; exact H) | (simp only [hji112] at H ⊢; exact H)
          (try rw [hji112] at A26)
          have hji112w : (IntKind.i64.wrap ((wrap64 (1 + t481)) - 1)) = ji112 := (i64_w _).trans hji112
          by_cases c113 : 0 ≤ (ji112)
          · rw [if_pos c113] at H
            have c113b0 : decide (0 ≤ (ji112)) = true := decide_eq_true c113
            clear c113
            by_cases c114 : (ji112) < (x7_1.length : Int)
            · rw [if_pos c114] at H
              have c114b0 : decide ((ji112) < (x7_1.length : Int)) = true := decide_eq_true c114
              clear c114
              by_cases c115 : (rd_L1 x7_1 (ji112)).length < 17592186044416
              · rw [if_pos c115] at H
                have LMc115 := Aside0.mk c115
                clear c115
                obtain ⟨y517, hy517⟩ : ∃ y_ : List Int, y_ = ((rd_L1 x7_1 (ji112)) ++ [0]) := ⟨_, rfl⟩
                replace H : ((graph_Headers.f k1 (x7_1.set ((ji112) : Int).toNat y517)).bind fun t521 => (if t480 = true then (some false) else (some false))) = some r := by first | (rw [hy517]; with_reducible exact H) | (have H2_ := (Option.bind_some _ _).symm.trans H; rw [hy517]; with_reducible exact H2_) | (have H2_ := (Option.bind_some _ _).symm.trans H; with_reducible exact H2_) | with_reducible exact H | (rw [hy517]; exact H) | exact H
                have Ny517 := Aside0.mk hy517
                clear hy517
                obtain ⟨y520, hy520⟩ : ∃ y_ : List (List Int), y_ = (x7_1.set ((ji112) : Int).toNat y517) := ⟨_, rfl⟩
                replace H : ((graph_Headers.f k1 y520).bind fun t521 => (if t480 = true then (some false) else (some false))) = some r := by first | (rw [hy520]; with_reducible exact H) | (have H2_ := (Option.bind_some _ _).symm.trans H; rw [hy520]; with_reducible exact H2_) | (have H2_ := (Option.bind_some _ _).symm.trans H; with_reducible exact H2_) | with_reducible exact H | (rw [hy520]; exact H) | exact H
                have Ny520 := Aside0.mk hy520
                clear hy520
                replace H := Option.bind_eq_some_iff.mp H
                obtain ⟨t521, A1170, H⟩ := H
                replace H : (if t480 = true then (some false) else (some false)) = some r := H
                have A117 := Aside0.mk A1170
                clear A1170
                by_cases c118 : t480 = true
                · subst c118
                  have H1 : (some false) = some r := by rw [if_pos rfl] at H; exact H
                  clear H
                  have H := H1
                  clear H1
                  obtain rfl := Option.some.inj H
                  obtain ⟨Ao119, co119, eo119⟩ := Kd.S_slice HO_7.out
                  subst eo119
                  go_wp2_with (first | ((with_reducible refine gate_callee (f := 49) rfl ?_); refine goesL_ (some 56) rfl rfl Try.func49 (by kernel_rfl) rfl #[.slice Ao119 x7_1.length co119] rfl (by (try simp only [List.map_toArray, List.map_cons, List.map_nil]); first | done | rfl | (simp only [List.length_drop, List.length_take]; rfl)) ?_; (with_reducible refine (graph_Reducible.calls k1 _ _ x7_1 false _ ?side1 ?side2 A26.out).mono ?_); (case side1 => repeat (first | exact (Kd.S_reads' HO_7.out).2.2 | (with_reducible refine Kd.C_alloc ?_ _) | (with_reducible refine Kd.C_drewN ?_ _) | (with_reducible refine Kd.C_drew ?_))); (case side2 => exact (Kd.S_reads' HO_7.out).2.1); rintro e w120 ⟨rfl, hb⟩; refine ⟨_, rfl, ?_⟩; have n0_ := Aside0.mk (Kd.S_below (by (with_reducible repeat (first | apply Kd.S_alloc | apply Kd.S_drewN | apply Kd.S_drew)); exact HO_7.out) hb); have n1_ := Aside0.mk (below_step (by repeat (first | (with_reducible first | exact HB.out | apply below_alloc | apply pw_below_drewN | apply below_drew1) | exact HB.out)) hb); clear HO_7; clear HB; have HO_7 := n0_; have HB := n1_; clear n0_ n1_; (try clear hb); (try clear hb2); (try clear hk); (try clear hi); have p516 : 0 ≤ ((ji112) : Int) := of_decide_eq_true (by first | (with_reducible assumption) | assumption); have q516 : (ji112) < (x7_1.length : Int) := of_decide_eq_true (by first | (with_reducible assumption) | assumption); obtain ⟨ad516, A516_0, c516_0, e516, hx516_0, hl516_0, hi516_0⟩ := at_L1 (Kd.S_reads' HO_7.out).2.2 (ji112) p516 q516; cases e516; obtain ⟨ce516, hce516, hMe516, hcc516⟩ := Kd.S_get HO_7.out [] (ji112) p516 (by first | exact q516 | exact of_decide_eq_true (by first | (with_reducible assumption) | assumption) | (have e_ := (Kd.S_reads' HO_7.out).1; omega)); obtain ⟨ve516_0, rfl, ge516_0⟩ := hMe516; have hv516_0 := hcc516 0 _ rfl; rw [Nat.add_zero, show ((Kd.slice 3 (Kd.int .i64))).sz = 1 from rfl, Nat.mul_one] at hv516_0; replace hv516_0 := Option.some.inj (hv516_0.symm.trans hx516_0); rw [hv516_0] at ge516_0; have HL516_0 := Aside0.mk (show Kd.R (Kd.int .i64) 3 _ _ _ _ (rd_L1 x7_1 (ji112)) from ge516_0); clear hv516_0 ge516_0; have HX516_0 := Aside0.mk hx516_0; clear hcc516 hce516; have HR516_0 := Aside0.mk hi516_0; have HC516_0 := Aside0.mk hl516_0; clear hi516_0 hl516_0; replace p516 := eq_true p516; replace q516 := eq_true q516; obtain ⟨go121, co121, eo121, gb121, gl121, cl121, HG121⟩ := Kd.S_form HO_7.out (by have h_ : ((ji112) : Int) < ((x7_1.length : Int) : Int) := of_decide_eq_true (by first | (with_reducible assumption) | assumption); have h2_ : 0 ≤ ((ji112) : Int) := (of_decide_eq_true (by first | (with_reducible assumption) | assumption)); omega); (first | cases eo121 | (injection eo121 with ea_ en_ ec_; (first | subst ea_ | (injection ea_ with ea_; subst ea_)); subst ec_; clear en_)); have GB121 := Aside0.mk gb121; have GG121 := Aside0.mk HG121; clear gb121 gl121 HG121; (first | simp only [add_plain] at hx516_0 | skip); obtain ⟨oki121, ce121, hcl121, hM121, hcc121, _, _, hH121⟩ := Kd.S_elem HO_7.out [] ((ji112) : Int) (of_decide_eq_true (by first | (with_reducible assumption) | assumption)) (by have h_ : ((ji112) : Int) < ((x7_1.length : Int) : Int) := of_decide_eq_true (by first | (with_reducible assumption) | assumption); first | exact h_ | (have e_ := (Kd.S_reads' HO_7.out).1; omega) | simpa using h_); obtain ⟨ve121_0, rfl, ge121_0⟩ := hM121; have hv121 := hcc121 0 _ rfl; have hX121 := HX516_0.out; (try simp only [add_plain] at hX121); (try simp only [Nat.add_zero] at hv121); (try rw [show ((Kd.slice 3 (Kd.int .i64))).sz = 1 from rfl, Nat.mul_one] at hv121); replace hv121 := Option.some.inj (hv121.symm.trans hX121); subst hv121; clear hX121 hcc121 hcl121; have UU121 := Aside0.mk (show Kd.R (Kd.int .i64) 3 _ w.heap.size oki121 (.slice A516_0 (rd_L1 x7_1 (ji112)).length c516_0) (rd_L1 x7_1 (ji112)) from ge121_0); have HH121 := Aside0.mk hH121; have HN121 := Aside0.mk (Kd.S_reads' HO_7.out).1; clear hH121 ge121_0) | ((with_reducible refine gate_builtin (b := .append) (xs := #[.tmp 70, .tmp 71]) rfl ?_); (try (refine gate_guard (by rfl) ?_; dsimp only)); at_builtin; refine Kd.R_append (Kd.int .i64) (w0 := w) w.heap.size rfl (.tmp 70) (.tmp 71) 23 3 (.int .i64 0) 8 rfl Try.underlying23 info3 rfl (by decide) (by omega) (.slice A516_0 (rd_L1 x7_1 (ji112)).length c516_0) (rd_L1 x7_1 (ji112)) 0 [.int .i64 0] (fun k_ => oki121 k_ ∨ ((fun _ => True)) k_ ∧ w120.heap.size ≤ k_) (fun _ => False) rfl rfl ?aP (fun _ hk => hk.elim) ?aF ?aO ?aB ?aS ?aL ?_; (case aP => exact rfl); (case aB => exact (by repeat (first | (with_reducible first | exact HB.out | apply below_alloc | apply pw_below_drewN | apply below_drew1) | exact HB.out))); (case aF => exact (fun k_ hk => .inr ⟨trivial, hk⟩)); (case aO => exact (by (with_reducible repeat (first | apply Kd.R_alloc | apply Kd.R_drewN | apply Kd.R_drew)); exact Kd.R_mono UU121.out (fun _ hk => .inl hk))); (case aS => exact (below_size (by repeat (first | (with_reducible first | exact HB.out | apply below_alloc | apply pw_below_drewN | apply below_drew1) | exact HB.out)))); (case aL => have := LMc115.out; omega); intro v518 w122 ho hb hg hat; rw [← Ny517.out] at ho; have n0_ := Aside0.mk (hb); have n1_ := Aside0.mk (Kd.H_grown (Kd.H_widen (by repeat (first | exact HH121.out | refine Kd.H_alloc ?_ _ | refine Kd.H_drewN ?_ _ | refine Kd.H_drew ?_))) hg (fun k_ e_ => .inl (UU121.out.1 k_ e_))); have n2_ := Aside0.mk (ho); clear HB; clear HH121; clear HO_7; clear UU121; clear HL516_0; have HB := n0_; have HH121 := n1_; have HO519 := n2_; clear n0_ n1_ n2_; clear ho hb hg hat; have p116 : 0 ≤ ((ji112) : Int) := of_decide_eq_true (by first | (with_reducible assumption) | assumption); have q116 : ((ji112) : Int) < ((x7_1.length : Int) : Int) := of_decide_eq_true (by first | (with_reducible assumption) | assumption); replace p116 := eq_true p116; replace q116 := eq_true q116; obtain ⟨Ao125, co125, eo125⟩ := Kd.R_slice HO519.out; subst eo125; obtain ⟨_, _, hraw123, _, _, hcc123, _⟩ := Kd.H_raw HH121.out (of_decide_eq_true (by first | (with_reducible assumption) | assumption)) (by have h_ : ((ji112) : Int) < ((x7_1.length : Int) : Int) := of_decide_eq_true (by first | (with_reducible assumption) | assumption); first | exact h_ | (have e_ := (HN121.out); omega) | simpa using h_); obtain ⟨_, hfr123⟩ := Kd.H_at HH121.out (of_decide_eq_true (by first | (with_reducible assumption) | assumption)) (by have h_ : ((ji112) : Int) < ((x7_1.length : Int) : Int) := of_decide_eq_true (by first | (with_reducible assumption) | assumption); first | exact h_ | (have e_ := (HN121.out); omega) | simpa using h_); have hx123_0 := hcc123 0 _ rfl; have hf123_0 := hfr123 0; (try simp only [Nat.add_zero] at hx123_0 hf123_0); (try rw [show ((Kd.slice 3 (Kd.int .i64))).sz = 1 from rfl, Nat.mul_one] at hx123_0); (try rw [show ((Kd.slice 3 (Kd.int .i64))).sz = 1 from rfl, Nat.mul_one] at hf123_0); have HP123 := Kd.S_seg0 HH121.out (of_decide_eq_true (by first | (with_reducible assumption) | assumption)) (by have h_ : ((ji112) : Int) < ((x7_1.length : Int) : Int) := of_decide_eq_true (by first | (with_reducible assumption) | assumption); first | exact h_ | (have e_ := (HN121.out); omega) | simpa using h_) (seg := [.slice Ao125 y517.length co125]) (j := 0) (show 1 ≤ 1 from by decide) (x' := y517) (Kd.M_row HO519.out) (fun _ hk => hk); (try simp only [show ((Kd.slice 3 (Kd.int .i64))).sz = 1 from rfl, Nat.mul_one, Nat.add_zero] at HP123); clear hcc123 hfr123) | ((with_reducible refine gate_store (t := 23) (p := 73) rfl ?_); refine store_event (t := 23) (p := 73) (v := ?vo_w124) (w1 := (w122.setCell ⟨go121, ((ji112) : Int).toNat, none⟩ (.slice Ao125 y517.length co125))) ?hg ?ho ?hn ?hr ?_; (case ho => rfl); (case hg => rfl); (case hn => rfl); (case hr => first | (go_simp; done) | (go_simp; rfl)); intro w124 hw; have hg : w122.grownBy w124 (some go121) := (by rw [hw]; exact HP123.2); have hp_ : Kd.S (Kd.slice 3 (Kd.int .i64)) 23 w124 w.heap.size (fun _ => True) (.slice (some ⟨go121, 0, none⟩) x7_1.length co119) y520 := (by rw [hw, Ny520.out]; exact HP123.1); clear HP123; have n0_ := Aside0.mk ((by rw [hw]; exact below_set HB.out GB121.out : Below w.heap.size w w124)); have n1_ := Aside0.mk (hp_); clear HB; clear HO519; clear HH121; have HB := n0_; have HO_7 := n1_; clear n0_ n1_; clear hg hw hp_ hraw123) | ((with_reducible refine gate_callee (f := 38) rfl ?_); refine goesL_ (some 75) rfl rfl Try.func38 (by kernel_rfl) rfl #[.slice (some ⟨go121, 0, none⟩) y520.length co119] rfl (by (try simp only [List.map_toArray, List.map_cons, List.map_nil]); first | done | (rw [show y520.length = x7_1.length from (Kd.S_reads' HO_7.out).1.symm] <;> rfl) | rfl | (simp only [List.length_drop, List.length_take]; rfl)) ?_; (with_reducible refine (graph_Headers.calls k1 _ _ y520 t521 _ ?side1 ?side2 A117.out).mono ?_); (case side1 => repeat (first | exact (Kd.S_reads' HO_7.out).2.2 | (with_reducible refine Kd.C_alloc ?_ _) | (with_reducible refine Kd.C_drewN ?_ _) | (with_reducible refine Kd.C_drew ?_))); (case side2 => rw [show y520.length = x7_1.length from (Kd.S_reads' HO_7.out).1.symm]; exact (Kd.S_reads' HO_7.out).2.1); rintro e w126 ⟨v522, rfl, ho0, hb⟩; refine ⟨_, rfl, ?_⟩; have n0_ := Aside0.mk (Kd.S_elder' (by (with_reducible repeat (first | apply Kd.S_alloc | apply Kd.S_drewN | apply Kd.S_drew)); exact HO_7.out) (Kd.R_base ho0) hb); have n1_ := Aside0.mk (Kd.R_lower ho0 (below_size (by repeat (first | (with_reducible first | exact HB.out | apply below_alloc | apply pw_below_drewN | apply below_drew1) | exact HB.out)))); have n2_ := Aside0.mk (below_step (by repeat (first | (with_reducible first | exact HB.out | apply below_alloc | apply pw_below_drewN | apply below_drew1) | exact HB.out)) hb); clear HO_7; clear HB; have HO_7 := n0_; have HO523 := n1_; have HB := n2_; clear n0_ n1_ n2_; (try clear hb); (try clear hb2); (try clear hk); (try clear hi); (try clear ho0)))
                  go_ret
                  exact ⟨by first | rfl | (simp [errW_none, errW_some] <;> rfl) | (simp only [← hji112]; first | rfl | (simp [errW_none, errW_some] <;> rfl)) | (simp [*, errW_none, errW_some] <;> rfl), by repeat (first | (with_reducible first | exact HB.out | apply below_alloc | apply pw_below_drewN | apply below_drew1) | exact HB.out)⟩
                · replace c118 := Bool.eq_false_iff.mpr c118
                  subst c118
                  have H1 : (some false) = some r := by rw [if_neg (show ¬ (false = true) by decide)] at H; exact H
                  clear H
                  have H := H1
                  clear H1
                  obtain rfl := Option.some.inj H
                  obtain ⟨Ao127, co127, eo127⟩ := Kd.S_slice HO_7.out
                  subst eo127
                  go_wp2_with (first | ((with_reducible refine gate_callee (f := 49) rfl ?_); refine goesL_ (some 56) rfl rfl Try.func49 (by kernel_rfl) rfl #[.slice Ao127 x7_1.length co127] rfl (by (try simp only [List.map_toArray, List.map_cons, List.map_nil]); first | done | rfl | (simp only [List.length_drop, List.length_take]; rfl)) ?_; (with_reducible refine (graph_Reducible.calls k1 _ _ x7_1 false _ ?side1 ?side2 A26.out).mono ?_); (case side1 => repeat (first | exact (Kd.S_reads' HO_7.out).2.2 | (with_reducible refine Kd.C_alloc ?_ _) | (with_reducible refine Kd.C_drewN ?_ _) | (with_reducible refine Kd.C_drew ?_))); (case side2 => exact (Kd.S_reads' HO_7.out).2.1); rintro e w128 ⟨rfl, hb⟩; refine ⟨_, rfl, ?_⟩; have n0_ := Aside0.mk (Kd.S_below (by (with_reducible repeat (first | apply Kd.S_alloc | apply Kd.S_drewN | apply Kd.S_drew)); exact HO_7.out) hb); have n1_ := Aside0.mk (below_step (by repeat (first | (with_reducible first | exact HB.out | apply below_alloc | apply pw_below_drewN | apply below_drew1) | exact HB.out)) hb); clear HO_7; clear HB; have HO_7 := n0_; have HB := n1_; clear n0_ n1_; (try clear hb); (try clear hb2); (try clear hk); (try clear hi); have p516 : 0 ≤ ((ji112) : Int) := of_decide_eq_true (by first | (with_reducible assumption) | assumption); have q516 : (ji112) < (x7_1.length : Int) := of_decide_eq_true (by first | (with_reducible assumption) | assumption); obtain ⟨ad516, A516_0, c516_0, e516, hx516_0, hl516_0, hi516_0⟩ := at_L1 (Kd.S_reads' HO_7.out).2.2 (ji112) p516 q516; cases e516; obtain ⟨ce516, hce516, hMe516, hcc516⟩ := Kd.S_get HO_7.out [] (ji112) p516 (by first | exact q516 | exact of_decide_eq_true (by first | (with_reducible assumption) | assumption) | (have e_ := (Kd.S_reads' HO_7.out).1; omega)); obtain ⟨ve516_0, rfl, ge516_0⟩ := hMe516; have hv516_0 := hcc516 0 _ rfl; rw [Nat.add_zero, show ((Kd.slice 3 (Kd.int .i64))).sz = 1 from rfl, Nat.mul_one] at hv516_0; replace hv516_0 := Option.some.inj (hv516_0.symm.trans hx516_0); rw [hv516_0] at ge516_0; have HL516_0 := Aside0.mk (show Kd.R (Kd.int .i64) 3 _ _ _ _ (rd_L1 x7_1 (ji112)) from ge516_0); clear hv516_0 ge516_0; have HX516_0 := Aside0.mk hx516_0; clear hcc516 hce516; have HR516_0 := Aside0.mk hi516_0; have HC516_0 := Aside0.mk hl516_0; clear hi516_0 hl516_0; replace p516 := eq_true p516; replace q516 := eq_true q516; obtain ⟨go129, co129, eo129, gb129, gl129, cl129, HG129⟩ := Kd.S_form HO_7.out (by have h_ : ((ji112) : Int) < ((x7_1.length : Int) : Int) := of_decide_eq_true (by first | (with_reducible assumption) | assumption); have h2_ : 0 ≤ ((ji112) : Int) := (of_decide_eq_true (by first | (with_reducible assumption) | assumption)); omega); (first | cases eo129 | (injection eo129 with ea_ en_ ec_; (first | subst ea_ | (injection ea_ with ea_; subst ea_)); subst ec_; clear en_)); have GB129 := Aside0.mk gb129; have GG129 := Aside0.mk HG129; clear gb129 gl129 HG129; (first | simp only [add_plain] at hx516_0 | skip); obtain ⟨oki129, ce129, hcl129, hM129, hcc129, _, _, hH129⟩ := Kd.S_elem HO_7.out [] ((ji112) : Int) (of_decide_eq_true (by first | (with_reducible assumption) | assumption)) (by have h_ : ((ji112) : Int) < ((x7_1.length : Int) : Int) := of_decide_eq_true (by first | (with_reducible assumption) | assumption); first | exact h_ | (have e_ := (Kd.S_reads' HO_7.out).1; omega) | simpa using h_); obtain ⟨ve129_0, rfl, ge129_0⟩ := hM129; have hv129 := hcc129 0 _ rfl; have hX129 := HX516_0.out; (try simp only [add_plain] at hX129); (try simp only [Nat.add_zero] at hv129); (try rw [show ((Kd.slice 3 (Kd.int .i64))).sz = 1 from rfl, Nat.mul_one] at hv129); replace hv129 := Option.some.inj (hv129.symm.trans hX129); subst hv129; clear hX129 hcc129 hcl129; have UU129 := Aside0.mk (show Kd.R (Kd.int .i64) 3 _ w.heap.size oki129 (.slice A516_0 (rd_L1 x7_1 (ji112)).length c516_0) (rd_L1 x7_1 (ji112)) from ge129_0); have HH129 := Aside0.mk hH129; have HN129 := Aside0.mk (Kd.S_reads' HO_7.out).1; clear hH129 ge129_0) | ((with_reducible refine gate_builtin (b := .append) (xs := #[.tmp 70, .tmp 71]) rfl ?_); (try (refine gate_guard (by rfl) ?_; dsimp only)); at_builtin; refine Kd.R_append (Kd.int .i64) (w0 := w) w.heap.size rfl (.tmp 70) (.tmp 71) 23 3 (.int .i64 0) 8 rfl Try.underlying23 info3 rfl (by decide) (by omega) (.slice A516_0 (rd_L1 x7_1 (ji112)).length c516_0) (rd_L1 x7_1 (ji112)) 0 [.int .i64 0] (fun k_ => oki129 k_ ∨ ((fun _ => True)) k_ ∧ w128.heap.size ≤ k_) (fun _ => False) rfl rfl ?aP (fun _ hk => hk.elim) ?aF ?aO ?aB ?aS ?aL ?_; (case aP => exact rfl); (case aB => exact (by repeat (first | (with_reducible first | exact HB.out | apply below_alloc | apply pw_below_drewN | apply below_drew1) | exact HB.out))); (case aF => exact (fun k_ hk => .inr ⟨trivial, hk⟩)); (case aO => exact (by (with_reducible repeat (first | apply Kd.R_alloc | apply Kd.R_drewN | apply Kd.R_drew)); exact Kd.R_mono UU129.out (fun _ hk => .inl hk))); (case aS => exact (below_size (by repeat (first | (with_reducible first | exact HB.out | apply below_alloc | apply pw_below_drewN | apply below_drew1) | exact HB.out)))); (case aL => have := LMc115.out; omega); intro v518 w130 ho hb hg hat; rw [← Ny517.out] at ho; have n0_ := Aside0.mk (hb); have n1_ := Aside0.mk (Kd.H_grown (Kd.H_widen (by repeat (first | exact HH129.out | refine Kd.H_alloc ?_ _ | refine Kd.H_drewN ?_ _ | refine Kd.H_drew ?_))) hg (fun k_ e_ => .inl (UU129.out.1 k_ e_))); have n2_ := Aside0.mk (ho); clear HB; clear HH129; clear HO_7; clear UU129; clear HL516_0; have HB := n0_; have HH129 := n1_; have HO519 := n2_; clear n0_ n1_ n2_; clear ho hb hg hat; have p116 : 0 ≤ ((ji112) : Int) := of_decide_eq_true (by first | (with_reducible assumption) | assumption); have q116 : ((ji112) : Int) < ((x7_1.length : Int) : Int) := of_decide_eq_true (by first | (with_reducible assumption) | assumption); replace p116 := eq_true p116; replace q116 := eq_true q116; obtain ⟨Ao133, co133, eo133⟩ := Kd.R_slice HO519.out; subst eo133; obtain ⟨_, _, hraw131, _, _, hcc131, _⟩ := Kd.H_raw HH129.out (of_decide_eq_true (by first | (with_reducible assumption) | assumption)) (by have h_ : ((ji112) : Int) < ((x7_1.length : Int) : Int) := of_decide_eq_true (by first | (with_reducible assumption) | assumption); first | exact h_ | (have e_ := (HN129.out); omega) | simpa using h_); obtain ⟨_, hfr131⟩ := Kd.H_at HH129.out (of_decide_eq_true (by first | (with_reducible assumption) | assumption)) (by have h_ : ((ji112) : Int) < ((x7_1.length : Int) : Int) := of_decide_eq_true (by first | (with_reducible assumption) | assumption); first | exact h_ | (have e_ := (HN129.out); omega) | simpa using h_); have hx131_0 := hcc131 0 _ rfl; have hf131_0 := hfr131 0; (try simp only [Nat.add_zero] at hx131_0 hf131_0); (try rw [show ((Kd.slice 3 (Kd.int .i64))).sz = 1 from rfl, Nat.mul_one] at hx131_0); (try rw [show ((Kd.slice 3 (Kd.int .i64))).sz = 1 from rfl, Nat.mul_one] at hf131_0); have HP131 := Kd.S_seg0 HH129.out (of_decide_eq_true (by first | (with_reducible assumption) | assumption)) (by have h_ : ((ji112) : Int) < ((x7_1.length : Int) : Int) := of_decide_eq_true (by first | (with_reducible assumption) | assumption); first | exact h_ | (have e_ := (HN129.out); omega) | simpa using h_) (seg := [.slice Ao133 y517.length co133]) (j := 0) (show 1 ≤ 1 from by decide) (x' := y517) (Kd.M_row HO519.out) (fun _ hk => hk); (try simp only [show ((Kd.slice 3 (Kd.int .i64))).sz = 1 from rfl, Nat.mul_one, Nat.add_zero] at HP131); clear hcc131 hfr131) | ((with_reducible refine gate_store (t := 23) (p := 73) rfl ?_); refine store_event (t := 23) (p := 73) (v := ?vo_w132) (w1 := (w130.setCell ⟨go129, ((ji112) : Int).toNat, none⟩ (.slice Ao133 y517.length co133))) ?hg ?ho ?hn ?hr ?_; (case ho => rfl); (case hg => rfl); (case hn => rfl); (case hr => first | (go_simp; done) | (go_simp; rfl)); intro w132 hw; have hg : w130.grownBy w132 (some go129) := (by rw [hw]; exact HP131.2); have hp_ : Kd.S (Kd.slice 3 (Kd.int .i64)) 23 w132 w.heap.size (fun _ => True) (.slice (some ⟨go129, 0, none⟩) x7_1.length co127) y520 := (by rw [hw, Ny520.out]; exact HP131.1); clear HP131; have n0_ := Aside0.mk ((by rw [hw]; exact below_set HB.out GB129.out : Below w.heap.size w w132)); have n1_ := Aside0.mk (hp_); clear HB; clear HO519; clear HH129; have HB := n0_; have HO_7 := n1_; clear n0_ n1_; clear hg hw hp_ hraw131) | ((with_reducible refine gate_callee (f := 38) rfl ?_); refine goesL_ (some 75) rfl rfl Try.func38 (by kernel_rfl) rfl #[.slice (some ⟨go129, 0, none⟩) y520.length co127] rfl (by (try simp only [List.map_toArray, List.map_cons, List.map_nil]); first | done | (rw [show y520.length = x7_1.length from (Kd.S_reads' HO_7.out).1.symm] <;> rfl) | rfl | (simp only [List.length_drop, List.length_take]; rfl)) ?_; (with_reducible refine (graph_Headers.calls k1 _ _ y520 t521 _ ?side1 ?side2 A117.out).mono ?_); (case side1 => repeat (first | exact (Kd.S_reads' HO_7.out).2.2 | (with_reducible refine Kd.C_alloc ?_ _) | (with_reducible refine Kd.C_drewN ?_ _) | (with_reducible refine Kd.C_drew ?_))); (case side2 => rw [show y520.length = x7_1.length from (Kd.S_reads' HO_7.out).1.symm]; exact (Kd.S_reads' HO_7.out).2.1); rintro e w134 ⟨v522, rfl, ho0, hb⟩; refine ⟨_, rfl, ?_⟩; have n0_ := Aside0.mk (Kd.S_elder' (by (with_reducible repeat (first | apply Kd.S_alloc | apply Kd.S_drewN | apply Kd.S_drew)); exact HO_7.out) (Kd.R_base ho0) hb); have n1_ := Aside0.mk (Kd.R_lower ho0 (below_size (by repeat (first | (with_reducible first | exact HB.out | apply below_alloc | apply pw_below_drewN | apply below_drew1) | exact HB.out)))); have n2_ := Aside0.mk (below_step (by repeat (first | (with_reducible first | exact HB.out | apply below_alloc | apply pw_below_drewN | apply below_drew1) | exact HB.out)) hb); clear HO_7; clear HB; have HO_7 := n0_; have HO523 := n1_; have HB := n2_; clear n0_ n1_ n2_; (try clear hb); (try clear hb2); (try clear hk); (try clear hi); (try clear ho0)))
                  go_ret
                  exact ⟨by first | rfl | (simp [errW_none, errW_some] <;> rfl) | (simp only [← hji112]; first | rfl | (simp [errW_none, errW_some] <;> rfl)) | (simp [*, errW_none, errW_some] <;> rfl), by repeat (first | (with_reducible first | exact HB.out | apply below_alloc | apply pw_below_drewN | apply below_drew1) | exact HB.out)⟩
              · rw [if_neg c115] at H
                exact absurd H (by simp)
            · rw [if_neg c114] at H
              exact absurd H (by simp)
          · rw [if_neg c113] at H
            exact absurd H (by simp)

/-- THE ONE PURE STATEMENT of jacquardlaw02_GraphTree: yours. -/
def jacquardlaw02_GraphTree.Pure : Prop := ∀ (a0 : Int) (l1 : List Int), (Lit.int .i64 a0).wf = true → l1.length ≤ maxLen → l1.length * 8 ≤ 140737488351232 → (∀ x ∈ l1, (Lit.int .i64 x).wf = true) → ∃ k, jacquardlaw02_GraphTree.f k a0 l1 = some true
theorem jacquardlaw02_GraphTree.walk (P : jacquardlaw02_GraphTree.Pure) (a0 : Int) (a1 : Option Addr) (len1 cap1 : Nat) (z1 : List Int) (w : World) (w0 : (Lit.int .i64 a0).wf = true) (w1 : (a1 = none ∧ len1 = 0 ∧ cap1 = 0 ∧ z1 = []) ∨ ∃ x, a1 = some x ∧ len1 ≤ cap1 ∧ cap1 ≤ maxLen ∧ z1.length = cap1 ∧ (∀ i, i < z1.length → w.cell? (x.add i) = some (.int .i64 (z1.getD i 0))) ∧ ∀ n ∈ z1, (Lit.int .i64 n).wf = true) (y1 : len1 * 8 ≤ 140737488351232) :
    Calls Try.prog 12 #[.int .i64 a0, .slice a1 len1 cap1] w fun e w' => e = .returned (.bool true) ∧ Below w.heap.size w w' := by
  obtain ⟨l1, rfl, hr1, hm1, hw1, hc1⟩ := ReadsInt.ofRowC w1
  obtain ⟨k, h⟩ := P a0 l1 w0 hm1 y1 hw1
  refine (jacquardlaw02_GraphTree.calls k a0 _ _ l1 true w (Kd.C_of_reads (d := (0 : Int)) (h1 := fun _ => rfl) hr1) hc1 h).mono ?_
  rintro e w' ⟨rfl, hd⟩
  exact ⟨rfl, hd⟩

end Go.Proofs.Ytnmeomdjhjgnfaa.X
end
section
/-! Plain: what a walk over blocks (overL) comes to, in which order. -/
set_option linter.unusedVariables false
set_option linter.unusedSimpArgs false
namespace Go.Proofs.Ytnmeomdjhjgnfaa.X
open Go.RowKit Go.Proofs.YtnmeomdjhjgnfaaW.PrintWords Go.Proofs.YtnmeomdjhjgnfaaW.PrintLast Go.Proofs.YtnmeomdjhjgnfaaW.PrintMore

/-- y stands ahead of x. -/
def Bef (L : List Int) (y x : Int) : Prop := ∃ l1 l2, L = l1 ++ l2 ∧ y ∈ l1 ∧ x ∈ l2
theorem Bef.left {L : List Int} {y x : Int} (h : Bef L y x) (M : List Int) : Bef (L ++ M) y x := by
  obtain ⟨l1, l2, rfl, h1, h2⟩ := h
  exact ⟨l1, l2 ++ M, by simp, h1, by simp [h2]⟩
theorem Bef.right {L : List Int} {y x : Int} (h : Bef L y x) (M : List Int) : Bef (M ++ L) y x := by
  obtain ⟨l1, l2, rfl, h1, h2⟩ := h
  exact ⟨M ++ l1, l2, by simp, by simp [h1], h2⟩
theorem Bef.cross {L M : List Int} {y x : Int} (h : y ∈ L) (k : x ∈ M) : Bef (L ++ M) y x := ⟨L, M, rfl, h, k⟩
/-- A way from y on, each step to a block that is left earlier. -/
inductive FP (E : Int → Int → Prop) (L : List Int) (y : Int) : Int → Prop
  | refl : FP E L y y
  | step {z x : Int} : FP E L y z → E z x → Bef L x z → FP E L y x
theorem FP.mono {E : Int → Int → Prop} {L M : List Int} (hb : ∀ a b, Bef L a b → Bef M a b) {y x : Int} (h : FP E L y x) : FP E M y x := by
  induction h with
  | refl => exact .refl
  | step _ he hbf ih => exact .step ih he (hb _ _ hbf)
theorem FP.trans {E : Int → Int → Prop} {L : List Int} {w y x : Int} (h : FP E L w y) (k : FP E L y x) : FP E L w x := by
  induction k with
  | refl => exact h
  | step _ he hbf ih => exact .step ih he hbf

def on (t : List Bool) (y : Int) : Prop := t.getD y.toNat false = true
theorem on_set {t : List Bool} {a y : Int} (ha : 0 ≤ a ∧ a < t.length) (hy : 0 ≤ y) : on (t.set a.toNat true) y ↔ on t y ∨ y = a := by
  unfold on
  rw [List.getD_eq_getElem?_getD, List.getD_eq_getElem?_getD]
  by_cases h : a.toNat = y.toNat
  · rw [← h, List.getElem?_set_self (by omega)]
    simp; right; omega
  · rw [List.getElem?_set_ne h]
    constructor
    · exact .inl
    · rintro (h2 | h2)
      · exact h2
      · exfalso; apply h; rw [h2]
def cf (t : List Bool) : Nat := t.count false
theorem cf_set (t : List Bool) : ∀ (i : Nat), i < t.length → t.getD i false = false → cf (t.set i true) + 1 = cf t := by
  unfold cf
  induction t with
  | nil => intro i h; simp at h
  | cons x t ih =>
    intro i h hf
    cases i with
    | zero => simp at hf; subst hf; simp
    | succ i =>
      have := ih i (by simpa using h) (by simpa using hf)
      simp only [List.set_cons_succ, List.count_cons]
      omega
theorem cf_mono (t : List Bool) : ∀ (s : List Bool), t.length = s.length → (∀ i, t.getD i false = true → s.getD i false = true) → cf s ≤ cf t := by
  unfold cf
  induction t with
  | nil => intro s h _; have : s = [] := List.length_eq_zero_iff.1 h.symm; subst this; simp
  | cons x t ih =>
    intro s h hm
    cases s with
    | nil => simp at h
    | cons y s =>
      have h1 := ih s (by simpa using h) (fun i => by have := hm (i + 1); simpa using this)
      have h2 := hm 0
      simp only [List.getD_cons_zero] at h2
      simp only [List.count_cons]
      cases x <;> cases y <;> simp_all <;> omega

/-- What is new from t to t'. -/
structure DfsNew (E : Int → Int → Prop) (n : Nat) (t t' : List Bool) (new : List Int) : Prop where
  len : t'.length = t.length
  mark : ∀ y : Int, 0 ≤ y → y < (n : Int) → (on t' y ↔ on t y ∨ y ∈ new)
  rng : ∀ x ∈ new, 0 ≤ x ∧ x < (n : Int)
  fresh : ∀ x ∈ new, ¬ on t x
  nodup : new.Nodup
  closed : ∀ x ∈ new, ∀ y, E x y → on t' y
  back : ∀ x ∈ new, ∀ y ∈ new, E x y → Bef new y x ∨ FP E new y x
theorem DfsNew.nil (E : Int → Int → Prop) (n : Nat) (t : List Bool) : DfsNew E n t t [] :=
  ⟨rfl, (fun y _ _ => by simp), (fun x (h : x ∈ []) => nomatch h), (fun x (h : x ∈ []) => nomatch h), List.nodup_nil, (fun x (h : x ∈ []) => nomatch h), (fun x (h : x ∈ []) => nomatch h)⟩
theorem DfsNew.join {E : Int → Int → Prop} {n : Nat} (hE : ∀ x y, E x y → 0 ≤ y ∧ y < n) {t s u : List Bool} {l m : List Int} (h : DfsNew E n t s l) (k : DfsNew E n s u m) : DfsNew E n t u (l ++ m) := by
  have hsu : ∀ y, 0 ≤ y → y < (n : Int) → on s y → on u y := fun y h0 h1 hy => (k.mark y h0 h1).2 (.inl hy)
  refine ⟨k.len.trans h.len, fun y h0 h1 => ?_, fun x hx => ?_, fun x hx => ?_, ?_, fun x hx y he => ?_, fun x hx y hy he => ?_⟩
  · rw [k.mark y h0 h1, h.mark y h0 h1, List.mem_append, or_assoc]
  · rcases List.mem_append.1 hx with hx | hx
    · exact h.rng x hx
    · exact k.rng x hx
  · rcases List.mem_append.1 hx with hx | hx
    · exact h.fresh x hx
    · have hr := k.rng x hx
      exact fun hy => k.fresh x hx ((h.mark x hr.1 hr.2).2 (.inl hy))
  · rw [List.nodup_append]
    refine ⟨h.nodup, k.nodup, fun x hx y hy e => ?_⟩
    subst e
    have hr := h.rng x hx
    exact k.fresh x hy ((h.mark x hr.1 hr.2).2 (.inr hx))
  · have hr := hE x y he
    rcases List.mem_append.1 hx with hx | hx
    · exact hsu y hr.1 hr.2 (h.closed x hx y he)
    · exact k.closed x hx y he
  · rcases List.mem_append.1 hx with hx | hx <;> rcases List.mem_append.1 hy with hy | hy
    · exact (h.back x hx y hy he).imp (fun b => b.left m) (fun f => f.mono (fun a b hb => hb.left m))
    · exact absurd (h.closed x hx y he) (k.fresh y hy)
    · exact .inl (Bef.cross hy hx)
    · exact (k.back x hx y hy he).imp (fun b => b.right l) (fun f => f.mono (fun a b hb => hb.right l))

def RE (rows : List (List Int)) (x y : Int) : Prop := 0 ≤ x ∧ y ∈ rows.getD x.toNat []
theorem RE_in {rows : List (List Int)} {n : Nat} (hrows : ∀ row ∈ rows, ∀ b ∈ row, 0 ≤ b ∧ b < (n : Int)) (x y : Int) (h : RE rows x y) : 0 ≤ y ∧ y < (n : Int) := by
  obtain ⟨_, h⟩ := h
  rcases Nat.lt_or_ge x.toNat rows.length with hl | hl
  · rw [List.getD_eq_getElem?_getD, List.getElem?_eq_getElem hl] at h
    exact hrows _ (List.getElem_mem hl) y h
  · rw [List.getD_eq_getElem?_getD, List.getElem?_eq_none hl] at h
    cases h
def oStep (rows : List (List Int)) (k : Nat) (s : List Bool × List Int) (b : Int) : Option (List Bool × List Int) :=
  if s.1.getD b.toNat false = true then some s else overL rows k b s
theorem oL_eq (rows : List (List Int)) (k : Nat) (a : Int) (s : List Bool × List Int) :
    overL rows (k + 1) a s = ((rows.getD a.toNat []).foldlM (oStep rows k) (s.1.set a.toNat true, s.2)).map fun s => (s.1, s.2 ++ [a]) := rfl

theorem dfs (rows : List (List Int)) (n : Nat) (hrows : ∀ row ∈ rows, ∀ b ∈ row, 0 ≤ b ∧ b < (n : Int)) : ∀ (k : Nat) (a : Int) (t : List Bool) (o : List Int), t.length = n → 0 ≤ a → a < n → ¬ on t a → cf t ≤ k →
    ∃ t' new, overL rows k a (t, o) = some (t', o ++ (new ++ [a])) ∧ DfsNew (RE rows) n t t' (new ++ [a]) ∧ ∀ x ∈ new ++ [a], FP (RE rows) (new ++ [a]) a x := by
  have hE := RE_in hrows
  intro k
  induction k with
  | zero =>
    intro a t o hl h0 h1 hn hc
    have h2 := cf_set t a.toNat (by omega) (by unfold on at hn; simpa using hn)
    omega
  | succ k ih =>
    have key : ∀ (l : List Int) (t : List Bool) (o : List Int), (∀ b ∈ l, 0 ≤ b ∧ b < (n : Int)) → t.length = n → cf t ≤ k →
        ∃ t' new, l.foldlM (oStep rows k) (t, o) = some (t', o ++ new) ∧ DfsNew (RE rows) n t t' new ∧ (∀ b ∈ l, on t' b) ∧ ∀ x ∈ new, ∃ b, b ∈ l ∧ b ∈ new ∧ FP (RE rows) new b x := by
      intro l
      induction l with
      | nil => intro t o _ hl _; exact ⟨t, [], by simp [pure], DfsNew.nil _ _ _, (fun b (hb : b ∈ []) => by cases hb), (fun x (hx : x ∈ []) => by cases hx)⟩
      | cons b l ihl =>
        intro t o hb hl hc
        have hbr := hb b List.mem_cons_self
        by_cases ht : on t b
        · obtain ⟨t', new, h1, h2, h3, h4⟩ := ihl t o (fun x hx => hb x (List.mem_cons_of_mem _ hx)) hl hc
          refine ⟨t', new, ?_, h2, fun x hx => ?_, fun x hx => ?_⟩
          · rw [List.foldlM_cons, show oStep rows k (t, o) b = some (t, o) from by unfold oStep; exact if_pos ht]
            exact h1
          · rcases List.mem_cons.1 hx with rfl | hx
            · exact (h2.mark x hbr.1 hbr.2).2 (.inl ht)
            · exact h3 x hx
          · obtain ⟨c, hc1, hc2, hc3⟩ := h4 x hx
            exact ⟨c, List.mem_cons_of_mem _ hc1, hc2, hc3⟩
        · obtain ⟨t1, new1, g1, g2, g3⟩ := ih b t o hl hbr.1 hbr.2 ht hc
          have hl1 : t1.length = n := g2.len.trans hl
          have hc1 : cf t1 ≤ k := by
            refine Nat.le_trans (cf_mono t t1 g2.len.symm (fun i hi => ?_)) hc
            have hin : i < n := by
              rcases Nat.lt_or_ge i t.length with h | h
              · omega
              · rw [List.getD_eq_getElem?_getD, List.getElem?_eq_none h] at hi; cases hi
            have := (g2.mark (i : Int) (by omega) (by omega)).2 (.inl (by unfold on; simpa using hi))
            unfold on at this
            simpa using this
          obtain ⟨t', new, h1, h2, h3, h4⟩ := ihl t1 (o ++ (new1 ++ [b])) (fun x hx => hb x (List.mem_cons_of_mem _ hx)) hl1 hc1
          refine ⟨t', (new1 ++ [b]) ++ new, ?_, g2.join hE h2, fun x hx => ?_, fun x hx => ?_⟩
          · rw [List.foldlM_cons, show oStep rows k (t, o) b = some (t1, o ++ (new1 ++ [b])) from by unfold oStep; exact (if_neg ht).trans g1]
            show List.foldlM (oStep rows k) (t1, o ++ (new1 ++ [b])) l = _
            rw [h1, List.append_assoc o]
          · rcases List.mem_cons.1 hx with rfl | hx
            · exact (h2.mark x hbr.1 hbr.2).2 (.inl ((g2.mark x hbr.1 hbr.2).2 (.inr (by simp))))
            · exact h3 x hx
          · rcases List.mem_append.1 hx with hx | hx
            · exact ⟨b, List.mem_cons_self, by simp, (g3 x hx).mono (fun _ _ hb => hb.left _)⟩
            · obtain ⟨c, hc1, hc2, hc3⟩ := h4 x hx
              exact ⟨c, List.mem_cons_of_mem _ hc1, List.mem_append_right _ hc2, hc3.mono (fun _ _ hb => hb.right _)⟩
    intro a t o hl h0 h1 hn hc
    have h2 := cf_set t a.toNat (by omega) (by unfold on at hn; simpa using hn)
    have hrow : ∀ b ∈ rows.getD a.toNat [], 0 ≤ b ∧ b < (n : Int) := fun b hb => hE a b ⟨h0, hb⟩
    obtain ⟨t', new, g1, g2, g3, g4⟩ := key (rows.getD a.toNat []) (t.set a.toNat true) o hrow (by simpa using hl) (by omega)
    have hset : ∀ y, 0 ≤ y → (on (t.set a.toNat true) y ↔ on t y ∨ y = a) := fun y hy => on_set ⟨h0, by omega⟩ hy
    have hroot : ∀ x ∈ new ++ [a], FP (RE rows) (new ++ [a]) a x := by
      intro x hx
      rcases List.mem_append.1 hx with hx | hx
      · obtain ⟨b, hb1, hb2, hb3⟩ := g4 x hx
        exact (FP.step .refl ⟨h0, hb1⟩ (Bef.cross hb2 (by simp))).trans (hb3.mono (fun _ _ hb => hb.left _))
      · rw [List.mem_singleton.1 hx]; exact .refl
    refine ⟨t', new, ?_, ⟨?_, fun y hy0 hy1 => ?_, fun x hx => ?_, fun x hx => ?_, ?_, fun x hx y he => ?_, fun x hx y hy he => ?_⟩, hroot⟩
    · rw [oL_eq, g1]
      simp
    · rw [g2.len]; simp
    · rw [g2.mark y hy0 hy1, hset y hy0, List.mem_append, List.mem_singleton]
      constructor
      · rintro ((h | h) | h)
        · exact .inl h
        · exact .inr (.inr h)
        · exact .inr (.inl h)
      · rintro (h | h | h)
        · exact .inl (.inl h)
        · exact .inr h
        · exact .inl (.inr h)
    · rcases List.mem_append.1 hx with hx | hx
      · exact g2.rng x hx
      · rw [List.mem_singleton.1 hx]; exact ⟨h0, h1⟩
    · rcases List.mem_append.1 hx with hx | hx
      · exact fun hy => g2.fresh x hx ((hset x (g2.rng x hx).1).2 (.inl hy))
      · rw [List.mem_singleton.1 hx]; exact hn
    · rw [List.nodup_append]
      refine ⟨g2.nodup, by simp, fun x hx y hy e => ?_⟩
      rw [List.mem_singleton.1 hy] at e
      exact g2.fresh x hx ((hset x (g2.rng x hx).1).2 (.inr e))
    · rcases List.mem_append.1 hx with hx | hx
      · exact g2.closed x hx y he
      · rw [List.mem_singleton.1 hx] at he
        exact g3 y he.2
    · rcases List.mem_append.1 hx with hx | hx
      · rcases List.mem_append.1 hy with hy | hy
        · exact (g2.back x hx y hy he).imp (fun b => b.left _) (fun f => f.mono (fun _ _ hb => hb.left _))
        · rw [List.mem_singleton.1 hy]
          exact .inr (hroot x (List.mem_append_left _ hx))
      · rw [List.mem_singleton.1 hx] at he ⊢
        rcases List.mem_append.1 hy with hy | hy
        · exact .inl (Bef.cross hy (by simp))
        · rw [List.mem_singleton.1 hy]; exact .inr .refl
end Go.Proofs.Ytnmeomdjhjgnfaa.X
end
section
/-! Plain: an order of blocks by places. -/
set_option linter.unusedVariables false
set_option linter.unusedSimpArgs false
namespace Go.Proofs.Ytnmeomdjhjgnfaa.X
open Go.RowKit Go.Proofs.YtnmeomdjhjgnfaaW.PrintWords Go.Proofs.YtnmeomdjhjgnfaaW.PrintLast Go.Proofs.YtnmeomdjhjgnfaaW.PrintMore

/-- The block at a place. -/
def at_ (o : List Int) (i : Nat) : Int := o.getD i 0
/-- From place j on to place i, by edges that go on. -/
inductive FW (E : Int → Int → Prop) (o : List Int) (j : Nat) : Nat → Prop
  | refl : FW E o j j
  | step {z x : Nat} : FW E o j z → E (at_ o z) (at_ o x) → z < x → x < o.length → FW E o j x
structure Ordd (E : Int → Int → Prop) (n : Nat) (o : List Int) : Prop where
  nodup : o.Nodup
  rng : ∀ x ∈ o, 0 ≤ x ∧ x < (n : Int)
  pos : 0 < o.length
  head : at_ o 0 = 0
  closed : ∀ x ∈ o, ∀ y, E x y → y ∈ o
  fwd : ∀ i, 0 < i → i < o.length → ∃ j, j < i ∧ E (at_ o j) (at_ o i)
  back : ∀ i j, i < o.length → j < o.length → E (at_ o i) (at_ o j) → i < j ∨ FW E o j i
theorem at_mem {o : List Int} {i : Nat} (h : i < o.length) : at_ o i ∈ o := by
  unfold at_
  rw [List.getD_eq_getElem?_getD, List.getElem?_eq_getElem h]
  exact List.getElem_mem h
theorem at_inj {o : List Int} (hn : o.Nodup) {i j : Nat} (hi : i < o.length) (hj : j < o.length) (h : at_ o i = at_ o j) : i = j := by
  unfold at_ at h
  rw [List.getD_eq_getElem?_getD, List.getElem?_eq_getElem hi, List.getD_eq_getElem?_getD, List.getElem?_eq_getElem hj] at h
  have hp := List.pairwise_iff_getElem.1 hn
  rcases Nat.lt_trichotomy i j with hlt | hlt | hlt
  · exact absurd h (hp i j hi hj hlt)
  · exact hlt
  · exact absurd h.symm (hp j i hj hi hlt)
theorem mem_at {o : List Int} {x : Int} (h : x ∈ o) : ∃ i, i < o.length ∧ at_ o i = x := by
  obtain ⟨i, hi, rfl⟩ := List.getElem_of_mem h
  exact ⟨i, hi, by unfold at_; rw [List.getD_eq_getElem?_getD, List.getElem?_eq_getElem hi]; rfl⟩
theorem bef_place {L : List Int} (hn : L.Nodup) {i j : Nat} (hi : i < L.reverse.length) (hj : j < L.reverse.length) (h : Bef L (at_ L.reverse i) (at_ L.reverse j)) : j < i := by
  obtain ⟨l1, l2, rfl, h1, h2⟩ := h
  have hr : (l1 ++ l2).reverse.Nodup := (List.reverse_perm _).nodup_iff.2 hn
  have e : (l1 ++ l2).reverse = l2.reverse ++ l1.reverse := List.reverse_append
  obtain ⟨j', hj', ej⟩ := mem_at (List.mem_reverse.2 h2)
  obtain ⟨i', hi', ei⟩ := mem_at (List.mem_reverse.2 h1)
  have ej2 : at_ (l1 ++ l2).reverse j' = at_ (l1 ++ l2).reverse j := by
    rw [← ej, e]
    unfold at_
    rw [List.getD_eq_getElem?_getD, List.getElem?_append_left hj', ← List.getD_eq_getElem?_getD]
  have ei2 : at_ (l1 ++ l2).reverse (l2.reverse.length + i') = at_ (l1 ++ l2).reverse i := by
    rw [← ei, e]
    unfold at_
    rw [List.getD_eq_getElem?_getD, List.getElem?_append_right (by omega), Nat.add_sub_cancel_left, ← List.getD_eq_getElem?_getD]
  have h3 := at_inj hr (by rw [e, List.length_append]; omega) hj ej2
  have h4 := at_inj hr (by rw [e, List.length_append]; omega) hi ei2
  omega
theorem fp_fw {E : Int → Int → Prop} {L : List Int} (hn : L.Nodup) (hm : ∀ y x, Bef L y x → y ∈ L ∧ x ∈ L) {y x : Int} (h : FP E L y x) : ∀ j i, j < L.reverse.length → i < L.reverse.length → at_ L.reverse j = y → at_ L.reverse i = x → FW E L.reverse j i := by
  have hr : L.reverse.Nodup := (List.reverse_perm _).nodup_iff.2 hn
  induction h with
  | refl =>
    intro j i hj hi ej ei
    obtain rfl := at_inj hr hj hi (ej.trans ei.symm)
    exact .refl
  | @step z x _ he hb ih =>
    intro j i hj hi ej ei
    obtain ⟨k, hk, ek⟩ := mem_at (List.mem_reverse.2 (hm _ _ hb).2)
    refine .step (ih j k hj hk ej ek) (by rw [ek, ei]; exact he) ?_ hi
    exact bef_place hn hi hk (by rw [ek, ei]; exact hb)
theorem bef_mem {L : List Int} {y x : Int} (h : Bef L y x) : y ∈ L ∧ x ∈ L := by
  obtain ⟨l1, l2, rfl, h1, h2⟩ := h
  exact ⟨by simp [h1], by simp [h2]⟩
/-- The order that a walk from block 0 leaves. -/
theorem order_of (rows : List (List Int)) (n : Nat) (hn0 : 0 < n) (hrows : ∀ row ∈ rows, ∀ b ∈ row, 0 ≤ b ∧ b < (n : Int)) (k : Nat) (hk : n ≤ k) :
    ∃ t o, overL rows k 0 (List.replicate n false, []) = some (t, o) ∧ Ordd (RE rows) n o.reverse := by
  obtain ⟨t, new, h1, h2, h3⟩ := dfs rows n hrows k 0 (List.replicate n false) [] (by simp) (by omega) (by omega) (by unfold on; simp [List.getD_eq_getElem?_getD, List.getElem?_replicate, hn0]) (by unfold cf; simp; omega)
  have hr : (new ++ [0]).reverse.Nodup := (List.reverse_perm _).nodup_iff.2 h2.nodup
  refine ⟨t, new ++ [0], by rw [h1]; rfl, hr, fun x hx => h2.rng x (List.mem_reverse.1 hx), by simp, by simp [at_], fun x hx y he => ?_, fun i h0 hi => ?_, fun i j hi hj he => ?_⟩
  · have hy := RE_in hrows x y he
    have h4 := (h2.mark y hy.1 hy.2).1 (h2.closed x (List.mem_reverse.1 hx) y he)
    refine List.mem_reverse.2 (h4.resolve_left (fun h => ?_))
    unfold on at h
    rw [List.getD_eq_getElem?_getD, List.getElem?_replicate] at h
    split at h <;> cases h
  · have hx := at_mem hi
    have h4 := h3 _ (List.mem_reverse.1 hx)
    obtain ⟨y, hy⟩ : ∃ y, at_ (new ++ [0]).reverse i = y := ⟨_, rfl⟩
    rw [hy] at h4 ⊢
    cases h4 with
    | refl =>
      exfalso
      have h6 : at_ (new ++ [0]).reverse i = at_ (new ++ [0]).reverse 0 := by
        rw [hy]
        simp [at_]
      have := at_inj hr hi (by simp) h6
      omega
    | @step z x _ he hb =>
      obtain ⟨j, hj, ej⟩ := mem_at (List.mem_reverse.2 (bef_mem hb).2)
      exact ⟨j, bef_place h2.nodup hi hj (by rw [ej, hy]; exact hb), by rw [ej]; exact he⟩
  · rcases h2.back _ (List.mem_reverse.1 (at_mem hi)) _ (List.mem_reverse.1 (at_mem hj)) he with hb | hf
    · exact .inl (bef_place h2.nodup hj hi hb)
    · exact .inr (fp_fw h2.nodup (fun _ _ h => bef_mem h) hf j i hj hi rfl rfl)
end Go.Proofs.Ytnmeomdjhjgnfaa.X
end
section
/-! Plain: chains of parents, the nearest one of two chains, and how sweeps come to rest. -/
set_option linter.unusedVariables false
namespace Go.Proofs.Ytnmeomdjhjgnfaa.X

/-- z stands on u's chain. -/
inductive An (par : Nat → Nat) (z : Nat) : Nat → Prop
  | refl : An par z z
  | up {u : Nat} : 0 < u → An par z (par u) → An par z u
/-- Parents stand ahead. -/
def Dn (par : Nat → Nat) : Prop := ∀ u, 0 < u → par u < u
theorem An.le {par : Nat → Nat} (hd : Dn par) {z u : Nat} (h : An par z u) : z ≤ u := by
  induction h with
  | refl => exact Nat.le_refl _
  | up h0 _ ih => have := hd _ h0; omega
theorem An.trans {par : Nat → Nat} {z w u : Nat} (h : An par z w) (k : An par w u) : An par z u := by
  induction k with
  | refl => exact h
  | up h0 _ ih => exact .up h0 ih
theorem An.inv {par : Nat → Nat} {z u : Nat} (h : An par z u) : z = u ∨ (0 < u ∧ An par z (par u)) := by
  cases h with
  | refl => exact .inl rfl
  | up h0 h => exact .inr ⟨h0, h⟩
theorem An.linear {par : Nat → Nat} (hd : Dn par) {z w u : Nat} (h : An par z u) (k : An par w u) (hle : z ≤ w) : An par z w := by
  induction k with
  | refl => exact h
  | @up u h0 k ih =>
    rcases h.inv with rfl | ⟨_, h⟩
    · have h1 := k.le hd
      have h2 := hd _ h0
      omega
    · exact ih h
theorem An.root {par : Nat → Nat} (hd : Dn par) : ∀ (n u : Nat), u ≤ n → An par 0 u
  | 0, u, h => by obtain rfl : u = 0 := by omega
                  exact .refl
  | n + 1, u, h => by
    rcases Nat.eq_zero_or_pos u with rfl | h0
    · exact .refl
    · exact .up h0 (An.root hd n (par u) (by have := hd u h0; omega))
theorem An.of_zero {par : Nat → Nat} (hd : Dn par) {z : Nat} (h : An par z 0) : z = 0 := by have := h.le hd; omega

/-- The nearest one of two chains. -/
def com (par : Nat → Nat) : Nat → Nat → Nat → Nat
  | 0, a, _ => a
  | k + 1, a, b => if b < a then com par k (par a) b else if a < b then com par k a (par b) else a
theorem com_an {par : Nat → Nat} (hd : Dn par) : ∀ (k a b : Nat), a + b < k → ∀ z, An par z (com par k a b) ↔ An par z a ∧ An par z b
  | 0, _, _, h, _ => by omega
  | k + 1, a, b, h, z => by
    rw [com]
    by_cases h1 : b < a
    · have h2 := hd a (by omega)
      rw [if_pos h1, com_an hd k (par a) b (by omega) z]
      constructor
      · exact fun ⟨x, y⟩ => ⟨.up (by omega) x, y⟩
      · rintro ⟨x, y⟩
        rcases x.inv with rfl | ⟨_, x⟩
        · have := y.le hd; omega
        · exact ⟨x, y⟩
    · rw [if_neg h1]
      by_cases h3 : a < b
      · have h2 := hd b (by omega)
        rw [if_pos h3, com_an hd k a (par b) (by omega) z]
        constructor
        · exact fun ⟨x, y⟩ => ⟨x, .up (by omega) y⟩
        · rintro ⟨x, y⟩
          rcases y.inv with rfl | ⟨_, y⟩
          · have := x.le hd; omega
          · exact ⟨x, y⟩
      · rw [if_neg h3]
        obtain rfl : a = b := by omega
        exact ⟨fun x => ⟨x, x⟩, fun x => x.1⟩
theorem com_dom {par : Nat → Nat} (hd : Dn par) {Dm : Nat → Nat → Prop} (hle : ∀ d u, Dm d u → d ≤ u) (d : Nat) : ∀ (k a b : Nat), (∀ u, 0 < u → u ≤ max a b → Dm d u → d ≠ u → Dm d (par u)) → Dm d a → Dm d b → Dm d (com par k a b)
  | 0, _, _, _, ha, _ => ha
  | k + 1, a, b, hB, ha, hb => by
    rw [com]
    by_cases h1 : b < a
    · rw [if_pos h1]
      have h2 := hd a (by omega)
      refine com_dom hd hle d k (par a) b (fun u h0 hu => hB u h0 (by omega)) (hB a (by omega) (by omega) ha (fun e => ?_)) hb
      have := hle d b hb
      omega
    · rw [if_neg h1]
      by_cases h3 : a < b
      · rw [if_pos h3]
        have h2 := hd b (by omega)
        refine com_dom hd hle d k a (par b) (fun u h0 hu => hB u h0 (by omega)) ha (hB b (by omega) (by omega) hb (fun e => ?_))
        have := hle d a ha
        omega
      · rw [if_neg h3]; exact ha
/-- The nearest one of several: of p and those behind it. -/
def nca (par : Nat → Nat) (K p : Nat) (ps : List Nat) : Nat := ps.foldl (com par K) p
theorem com_le {par : Nat → Nat} (hd : Dn par) (K a b : Nat) (h : a + b < K) : com par K a b ≤ a ∧ com par K a b ≤ b := by
  have := (com_an hd K a b h (com par K a b)).1 .refl
  exact ⟨this.1.le hd, this.2.le hd⟩
theorem nca_an {par : Nat → Nat} (hd : Dn par) (m : Nat) : ∀ (ps : List Nat) (p : Nat), p < m → (∀ q ∈ ps, q < m) → ∀ z, An par z (nca par (2 * m) p ps) ↔ An par z p ∧ ∀ q ∈ ps, An par z q
  | [], p, _, _, z => by simp [nca]
  | q :: ps, p, hp, hq, z => by
    have h1 := hq q List.mem_cons_self
    have h2 := com_le hd (2 * m) p q (by omega)
    have ih := nca_an hd m ps (com par (2 * m) p q) (by omega) (fun x hx => hq x (List.mem_cons_of_mem _ hx)) z
    unfold nca at ih ⊢
    rw [List.foldl_cons, ih, com_an hd (2 * m) p q (by omega) z]
    constructor
    · rintro ⟨⟨x, y⟩, h⟩
      refine ⟨x, fun w hw => ?_⟩
      rcases List.mem_cons.1 hw with rfl | hw
      · exact y
      · exact h w hw
    · rintro ⟨x, h⟩
      exact ⟨⟨x, h q List.mem_cons_self⟩, fun w hw => h w (List.mem_cons_of_mem _ hw)⟩
theorem nca_dom {par : Nat → Nat} (hd : Dn par) {Dm : Nat → Nat → Prop} (hle : ∀ d u, Dm d u → d ≤ u) (m i d : Nat) (hi : i ≤ m) (hB : ∀ u, 0 < u → u < i → Dm d u → d ≠ u → Dm d (par u)) : ∀ (ps : List Nat) (p : Nat), p < i → (∀ q ∈ ps, q < i) → Dm d p → (∀ q ∈ ps, Dm d q) → Dm d (nca par (2 * m) p ps)
  | [], p, _, _, h, _ => h
  | q :: ps, p, hp, hq, h, hs => by
    have h1 := hq q List.mem_cons_self
    have h2 := com_le hd (2 * m) p q (by omega)
    have h3 := com_dom hd hle d (2 * m) p q (fun u h0 hu => hB u h0 (by omega)) h (hs q List.mem_cons_self)
    exact nca_dom hd hle m i d hi hB ps (com par (2 * m) p q) (by omega) (fun x hx => hq x (List.mem_cons_of_mem _ hx)) h3 (fun x hx => hs x (List.mem_cons_of_mem _ hx))

/-! ### one parent is turned -/
def upd (par : Nat → Nat) (b v : Nat) : Nat → Nat := fun u => if u = b then v else par u
theorem upd_dn {par : Nat → Nat} (hd : Dn par) {b v : Nat} (hv : v < b) : Dn (upd par b v) := by
  intro u h0
  unfold upd
  split
  · omega
  · exact hd u h0
theorem an_upd_lt {par : Nat → Nat} (hd : Dn par) {b v z : Nat} (hv : v < b) {u : Nat} (hu : u < b) : An (upd par b v) z u ↔ An par z u := by
  constructor
  · intro h
    induction h with
    | refl => exact .refl
    | @up u h0 _ ih =>
      have e : upd par b v u = par u := by unfold upd; rw [if_neg (by omega)]
      rw [e] at ih
      exact .up h0 (ih (by have := hd u h0; omega))
  · intro h
    induction h with
    | refl => exact .refl
    | @up u h0 _ ih =>
      have e : upd par b v u = par u := by unfold upd; rw [if_neg (by omega)]
      exact .up h0 (by rw [e]; exact ih (by have := hd u h0; omega))
theorem an_upd_off {par : Nat → Nat} {b v z u : Nat} (hu : ¬ An par b u) : An (upd par b v) z u ↔ An par z u := by
  constructor
  · intro h
    induction h with
    | refl => exact .refl
    | @up u h0 _ ih =>
      have hb : u ≠ b := fun e => hu (e ▸ .refl)
      have e : upd par b v u = par u := by unfold upd; rw [if_neg hb]
      rw [e] at ih
      exact .up h0 (ih (fun h => hu (.up h0 h)))
  · intro h
    induction h with
    | refl => exact .refl
    | @up u h0 _ ih =>
      have hb : u ≠ b := fun e => hu (e ▸ .refl)
      have e : upd par b v u = par u := by unfold upd; rw [if_neg hb]
      exact .up h0 (by rw [e]; exact ih (fun h => hu (.up h0 h)))
theorem an_upd_at {par : Nat → Nat} (hd : Dn par) {b v z : Nat} (h0 : 0 < b) (hv : v < b) : An (upd par b v) z b ↔ z = b ∨ An par z v := by
  have e : upd par b v b = v := by unfold upd; rw [if_pos rfl]
  constructor
  · intro h
    rcases h.inv with h | ⟨_, h⟩
    · exact .inl h
    · rw [e] at h; exact .inr ((an_upd_lt hd hv hv).1 h)
  · rintro (rfl | h)
    · exact .refl
    · exact .up h0 (by rw [e]; exact (an_upd_lt hd hv hv).2 h)
theorem an_upd_on {par : Nat → Nat} (hd : Dn par) {b v z u : Nat} (h0 : 0 < b) (hv : v < b) (hu : An par b u) : An (upd par b v) z u ↔ (b ≤ z ∧ An par z u) ∨ An par z v := by
  induction hu with
  | refl =>
    rw [an_upd_at hd h0 hv]
    constructor
    · rintro (rfl | h)
      · exact .inl ⟨Nat.le_refl _, .refl⟩
      · exact .inr h
    · rintro (⟨h1, h2⟩ | h)
      · exact .inl (by have := h2.le hd; omega)
      · exact .inr h
  | @up u hu0 hb ih =>
    have hbu : b < u := by have := hb.le hd; have := hd u hu0; omega
    have e : upd par b v u = par u := by unfold upd; rw [if_neg (by omega)]
    constructor
    · intro h
      rcases h.inv with rfl | ⟨_, h⟩
      · exact .inl ⟨by omega, .refl⟩
      · rw [e] at h
        rcases ih.1 h with ⟨h1, h2⟩ | h
        · exact .inl ⟨h1, .up hu0 h2⟩
        · exact .inr h
    · rintro (⟨h1, h2⟩ | h)
      · rcases h2.inv with rfl | ⟨_, h2⟩
        · exact .refl
        · exact .up hu0 (by rw [e]; exact ih.2 (.inl ⟨h1, h2⟩))
      · exact .up hu0 (by rw [e]; exact ih.2 (.inr h))
/-- Where the new parent stands on the old one's chain, chains only lose. -/
theorem an_upd_le {par : Nat → Nat} (hd : Dn par) {b v z u : Nat} (h0 : 0 < b) (hv : An par v (par b)) (h : An (upd par b v) z u) : An par z u := by
  have hvb : v < b := by have := hv.le hd; have := hd b h0; omega
  by_cases hu : An par b u
  · rcases (an_upd_on hd h0 hvb hu).1 h with ⟨_, h⟩ | h
    · exact h
    · exact (h.trans hv).trans ((An.up h0 .refl : An par (par b) b).trans hu)
  · exact (an_upd_off hu).1 h
end Go.Proofs.Ytnmeomdjhjgnfaa.X
namespace Go.Proofs.Ytnmeomdjhjgnfaa.X
/-! ### sweeps -/
/-- m blocks by their places in the order; P: the places from which each one comes; Dm: who dominates. -/
structure Gr (m : Nat) (P : Nat → List Nat) (Dm : Nat → Nat → Prop) : Prop where
  inb : ∀ u, u < m → ∀ p ∈ P u, p < m
  fwd : ∀ u, 0 < u → u < m → ∃ s, s ∈ P u ∧ s < u
  dle : ∀ d u, Dm d u → d ≤ u
  dstep : ∀ d u, 0 < u → u < m → Dm d u → d ≠ u → ∀ p ∈ P u, Dm d p
/-- What holds while a later sweep goes, the places below i done. -/
structure Swp (m : Nat) (P : Nat → List Nat) (Dm : Nat → Nat → Prop) (i : Nat) (par : Nat → Nat) : Prop where
  dn : Dn par
  dom : ∀ u, 0 < u → u < m → ∀ d, Dm d u → d ≠ u → Dm d (par u)
  low : ∀ u, 0 < u → u < m → ∀ z, (∀ p ∈ P u, An par z p) → z ≤ par u
  old : ∀ u, 0 < u → u < m → ∃ s, s ∈ P u ∧ s < u ∧ ((u < i → An par (par u) s) ∧ (An par (par u) s ∨ (par u < i ∧ ∀ z, An par z s → z ≤ par u → An par z (par u))))
theorem Swp.step {m : Nat} {P : Nat → List Nat} {Dm : Nat → Nat → Prop} (G : Gr m P Dm) {i : Nat} {par : Nat → Nat} (h : Swp m P Dm i par) (h0 : 0 < i) (hm : i < m) {p : Nat} {ps : List Nat} (hP : P i = p :: ps) :
    nca par (2 * m) p ps ≤ par i ∧ Swp m P Dm (i + 1) (upd par i (nca par (2 * m) p ps)) := by
  obtain ⟨v, hv⟩ : ∃ v, nca par (2 * m) p ps = v := ⟨_, rfl⟩
  have hp : p < m := G.inb i hm p (by rw [hP]; exact List.mem_cons_self)
  have hps : ∀ q ∈ ps, q < m := fun q hq => G.inb i hm q (by rw [hP]; exact List.mem_cons_of_mem _ hq)
  have hvA : ∀ z, An par z v ↔ ∀ q ∈ P i, An par z q := by
    intro z
    rw [← hv, nca_an h.dn m ps p hp hps z, hP]
    simp
  have hvv := (hvA v).1 .refl
  rw [hv]
  have hlow : v ≤ par i := h.low i h0 hm v hvv
  have hvi : v < i := by have := h.dn i h0; omega
  have hvp : An par v (par i) := by
    obtain ⟨s, hs, _, _, ho⟩ := h.old i h0 hm
    rcases ho with ho | ⟨_, ho⟩
    · exact (hvv s hs).linear h.dn ho hlow
    · exact ho v (hvv s hs) hlow
  have hle : ∀ {z u}, An (upd par i v) z u → An par z u := fun hz => an_upd_le h.dn h0 hvp hz
  have e : ∀ u, u ≠ i → upd par i v u = par u := fun u hu => by unfold upd; rw [if_neg hu]
  have ei : upd par i v i = v := by unfold upd; rw [if_pos rfl]
  refine ⟨hlow, upd_dn h.dn hvi, fun u hu0 hum d hd hne => ?_, fun u hu0 hum z hz => ?_, fun u hu0 hum => ?_⟩
  · by_cases hu : u = i
    · subst hu
      rw [ei, ← hv]
      exact nca_dom h.dn G.dle m m d (Nat.le_refl _) (fun u h0 hm hd hne => h.dom u h0 hm d hd hne) ps p hp hps (G.dstep d u h0 hm hd hne p (by rw [hP]; exact List.mem_cons_self)) (fun q hq => G.dstep d u h0 hm hd hne q (by rw [hP]; exact List.mem_cons_of_mem _ hq))
    · rw [e u hu]; exact h.dom u hu0 hum d hd hne
  · by_cases hu : u = i
    · subst hu
      rw [ei]
      exact ((hvA z).2 (fun q hq => hle (hz q hq))).le h.dn
    · rw [e u hu]; exact h.low u hu0 hum z (fun q hq => hle (hz q hq))
  · obtain ⟨s, hs, hsu, ho1, ho2⟩ := h.old u hu0 hum
    rcases Nat.lt_trichotomy u i with hu | hu | hu
    · have h1 : An (upd par i v) (par u) s := (an_upd_lt h.dn hvi (by omega)).2 (ho1 hu)
      rw [e u (by omega)]
      exact ⟨s, hs, hsu, fun _ => h1, .inl h1⟩
    · subst hu
      rw [ei]
      have h1 : An (upd par u v) v s := (an_upd_lt h.dn hvi hsu).2 (hvv s hs)
      exact ⟨s, hs, hsu, fun _ => h1, .inl h1⟩
    · rw [e u (by omega)]
      refine ⟨s, hs, hsu, fun hlt => by omega, ?_⟩
      rcases ho2 with ho | ⟨ho, hq⟩
      · by_cases hb : An par i s
        · by_cases hge : i ≤ par u
          · exact .inl ((an_upd_on h.dn h0 hvi hb).2 (.inl ⟨hge, ho⟩))
          · refine .inr ⟨by omega, fun z hz hzo => ?_⟩
            have hzv : An par z v := by
              rcases (an_upd_on h.dn h0 hvi hb).1 hz with ⟨h1, _⟩ | h1
              · omega
              · exact h1
            have hoi : An par (par u) i := ho.linear h.dn hb (by omega)
            have hop : An par (par u) (par i) := by
              rcases hoi.inv with h1 | ⟨_, h1⟩
              · omega
              · exact h1
            have h1 : An par z (par u) := (hzv.trans hvp).linear h.dn hop hzo
            exact (an_upd_lt h.dn hvi (by omega)).2 h1
        · exact .inl ((an_upd_off hb).2 ho)
      · exact .inr ⟨by omega, fun z hz hzo => (an_upd_lt h.dn hvi ho).2 (hq z (hle hz) hzo)⟩
/-- A sweep's end is the next one's start. -/
theorem Swp.again {m : Nat} {P : Nat → List Nat} {Dm : Nat → Nat → Prop} {par : Nat → Nat} (h : Swp m P Dm m par) : Swp m P Dm 1 par :=
  ⟨h.dn, h.dom, h.low, fun u h0 hm => by
    obtain ⟨s, hs, hsu, h1, _⟩ := h.old u h0 hm
    exact ⟨s, hs, hsu, fun hlt => by omega, .inl (h1 hm)⟩⟩
/-- What holds while the first sweep goes. -/
structure Fst (m : Nat) (P : Nat → List Nat) (Dm : Nat → Nat → Prop) (i : Nat) (par : Nat → Nat) : Prop where
  dn : Dn par
  dom : ∀ u, 0 < u → u < i → ∀ d, Dm d u → d ≠ u → Dm d (par u)
  low : ∀ u, 0 < u → u < i → ∀ z, (∀ p ∈ P u, p < u → An par z p) → z ≤ par u
  old : ∀ u, 0 < u → u < i → ∃ s, s ∈ P u ∧ s < u ∧ An par (par u) s
theorem Fst.start (m : Nat) (P : Nat → List Nat) (Dm : Nat → Nat → Prop) : Fst m P Dm 1 (fun _ => 0) :=
  ⟨fun u h => h, fun u h0 h1 => by omega, fun u h0 h1 => by omega, fun u h0 h1 => by omega⟩
theorem Fst.step {m : Nat} {P : Nat → List Nat} {Dm : Nat → Nat → Prop} (G : Gr m P Dm) {i : Nat} {par : Nat → Nat} (h : Fst m P Dm i par) (h0 : 0 < i) (hm : i < m) {p : Nat} {ps : List Nat} (hP : (P i).filter (fun q => decide (q < i)) = p :: ps) :
    Fst m P Dm (i + 1) (upd par i (nca par (2 * m) p ps)) := by
  obtain ⟨v, hv⟩ : ∃ v, nca par (2 * m) p ps = v := ⟨_, rfl⟩
  have hmem : ∀ q, q ∈ p :: ps ↔ q ∈ P i ∧ q < i := fun q => by rw [← hP, List.mem_filter]; simp
  have hp : p ∈ P i ∧ p < i := (hmem p).1 List.mem_cons_self
  have hps : ∀ q ∈ ps, q ∈ P i ∧ q < i := fun q hq => (hmem q).1 (List.mem_cons_of_mem _ hq)
  have hvA : ∀ z, An par z v ↔ ∀ q ∈ P i, q < i → An par z q := by
    intro z
    rw [← hv, nca_an h.dn m ps p (by omega) (fun q hq => by have := (hps q hq).2; omega) z]
    constructor
    · rintro ⟨h1, h2⟩ q hq hlt
      rcases List.mem_cons.1 ((hmem q).2 ⟨hq, hlt⟩) with rfl | hq
      · exact h1
      · exact h2 q hq
    · exact fun hh => ⟨hh p hp.1 hp.2, fun q hq => hh q (hps q hq).1 (hps q hq).2⟩
  have hvv := (hvA v).1 .refl
  have hvi : v < i := by have := (hvv p hp.1 hp.2).le h.dn; omega
  have e : ∀ u, u ≠ i → upd par i v u = par u := fun u hu => by unfold upd; rw [if_neg hu]
  have ei : upd par i v i = v := by unfold upd; rw [if_pos rfl]
  rw [hv]
  refine ⟨upd_dn h.dn hvi, fun u hu0 hum d hd hne => ?_, fun u hu0 hum z hz => ?_, fun u hu0 hum => ?_⟩
  · by_cases hu : u = i
    · subst hu
      rw [ei, ← hv]
      exact nca_dom h.dn G.dle m u d (by omega) (fun u' h0 hm' hd hne => h.dom u' h0 hm' d hd hne) ps p hp.2 (fun q hq => (hps q hq).2) (G.dstep d u h0 hm hd hne p hp.1) (fun q hq => G.dstep d u h0 hm hd hne q (hps q hq).1)
    · rw [e u hu]; exact h.dom u hu0 (by omega) d hd hne
  · by_cases hu : u = i
    · subst hu
      rw [ei]
      exact ((hvA z).2 (fun q hq hlt => (an_upd_lt h.dn hvi hlt).1 (hz q hq hlt))).le h.dn
    · rw [e u hu]; exact h.low u hu0 (by omega) z (fun q hq hlt => (an_upd_lt h.dn hvi (by omega)).1 (hz q hq hlt))
  · by_cases hu : u = i
    · subst hu
      obtain ⟨s, hs, hsu⟩ := G.fwd u h0 hm
      rw [ei]
      exact ⟨s, hs, hsu, (an_upd_lt h.dn hvi hsu).2 (hvv s hs hsu)⟩
    · obtain ⟨s, hs, hsu, h1⟩ := h.old u hu0 (by omega)
      rw [e u hu]
      exact ⟨s, hs, hsu, (an_upd_lt h.dn hvi (by omega)).2 h1⟩
theorem Fst.swp {m : Nat} {P : Nat → List Nat} {Dm : Nat → Nat → Prop} {par : Nat → Nat} (h : Fst m P Dm m par) : Swp m P Dm 1 par :=
  ⟨h.dn, h.dom, fun u h0 hm z hz => h.low u h0 hm z (fun p hp _ => hz p hp), fun u h0 hm => by
    obtain ⟨s, hs, hsu, h1⟩ := h.old u h0 hm
    exact ⟨s, hs, hsu, fun hlt => by omega, .inl h1⟩⟩
/-- At rest the chains are who dominates. -/
theorem Swp.sound {m : Nat} {P : Nat → List Nat} {Dm : Nat → Nat → Prop} {i : Nat} {par : Nat → Nat} (h : Swp m P Dm i par) (hr : ∀ d, Dm d d) : ∀ (n u : Nat), u ≤ n → u < m → ∀ d, Dm d u → (∀ d u, Dm d u → d ≤ u) → An par d u
  | 0, u, hn, _, d, hd, hle => by
    have h1 := hle d u hd
    obtain rfl : d = u := by omega
    exact .refl
  | n + 1, u, hn, hm, d, hd, hle => by
    by_cases hne : d = u
    · subst hne; exact .refl
    · have h1 := hle d u hd
      have h2 := h.dn u (by omega)
      exact .up (by omega) (h.sound hr n (par u) (by omega) (by omega) d (h.dom u (by omega) hm d hd hne) hle)
end Go.Proofs.Ytnmeomdjhjgnfaa.X
end
section
-- written by a driver of this session (wip/xprint.py) over the kit's print, for this claim; Lean checks it
namespace Go.Proofs.Ytnmeomdjhjgnfaa.X
open Go.RowKit Go.Proofs.YtnmeomdjhjgnfaaW.PrintWords Go.Proofs.YtnmeomdjhjgnfaaW.PrintLast Go.Proofs.YtnmeomdjhjgnfaaW.PrintMore
attribute [local go_sem] max2_int min2_int max_two min_two max_three min_three max_four min_four   -- for this text's walks alone
set_option linter.unusedVariables false
set_option linter.unusedSimpArgs false

/-! ### jacquardref02_Made: function 25 -/
mutual
def jacquardref02_Made.j0 : Nat → List Int → Int → Option ((List (List Int)))
  | 0, _, _ => none
  | k + 1, x0, x3 => jacquardref02_Made.l0 k x0 x3 ([] : List (List Int)) 0
def jacquardref02_Made.l0 : Nat → List Int → Int → List (List Int) → Int → Option ((List (List Int)))
  | 0, _, _, _, _ => none
  | k + 1, x0, x3, x4, x5 => if x5 < x3 then (jacquardref02_Made.l1 k x0 x3 x4 x5 ([] : List Int) 1) else (some x4)
def jacquardref02_Made.l1 : Nat → List Int → Int → List (List Int) → Int → List Int → Int → Option ((List (List Int)))
  | 0, _, _, _, _, _, _ => none
  | k + 1, x0, x3, x4, x5, x6, x7 => if x7 ≤ 3 then (if (wrap64 ((wrap64 (3 * x5)) + x7)) < (x0.length : Int) then (if 0 ≤ (wrap64 ((wrap64 (3 * x5)) + x7)) then (if (wrap64 (x3 + 3)) = 0 then (none) else (if (Int.tmod (wrap64 ((wrap64 ((Int.tmod (rd x0 (wrap64 ((wrap64 (3 * x5)) + x7))) (wrap64 (x3 + 3))) + x3)) + 3)) (wrap64 (x3 + 3))) < x3 then (if x6.length < 17592186044416 then (jacquardref02_Made.l1 k x0 x3 x4 x5 (x6 ++ [Int.tmod (wrap64 ((wrap64 ((Int.tmod (rd x0 (wrap64 ((wrap64 (3 * x5)) + x7))) (wrap64 (x3 + 3))) + x3)) + 3)) (wrap64 (x3 + 3))]) (wrap64 (x7 + 1))) else (none)) else (jacquardref02_Made.l1 k x0 x3 x4 x5 x6 (wrap64 (x7 + 1))))) else (none)) else (jacquardref02_Made.l1 k x0 x3 x4 x5 x6 (wrap64 (x7 + 1)))) else (if x4.length < 5864062014805 then (jacquardref02_Made.l0 k x0 x3 (x4 ++ [x6]) (wrap64 (x5 + 1))) else (none))
end
def jacquardref02_Made.f (k : Nat) (l0 : List Int) : Option ((List (List Int))) := if (l0.length : Int) > 0 then (if 0 < (l0.length : Int) then (jacquardref02_Made.j0 k l0 (wrap64 (1 + (Int.tmod (wrap64 ((Int.tmod (rd l0 0) 10) + 10)) 10)))) else (none)) else (jacquardref02_Made.j0 k l0 1)
theorem jacquardref02_Made.mono_l : ∀ k, (∀ y0 y1, LeO (jacquardref02_Made.j0 k y0 y1) (jacquardref02_Made.j0 (k + 1) y0 y1)) ∧ (∀ y0 y1 y2 y3, LeO (jacquardref02_Made.l0 k y0 y1 y2 y3) (jacquardref02_Made.l0 (k + 1) y0 y1 y2 y3)) ∧ (∀ y0 y1 y2 y3 y4 y5, LeO (jacquardref02_Made.l1 k y0 y1 y2 y3 y4 y5) (jacquardref02_Made.l1 (k + 1) y0 y1 y2 y3 y4 y5))
  | 0 => ⟨fun _ _ r h => by simp [jacquardref02_Made.j0] at h, fun _ _ _ _ r h => by simp [jacquardref02_Made.l0] at h, fun _ _ _ _ _ _ r h => by simp [jacquardref02_Made.l1] at h⟩
  | k + 1 => by
    obtain ⟨ih0, ih1, ih2⟩ := jacquardref02_Made.mono_l k
    refine ⟨?_, ?_, ?_⟩
    · intro y0 y1
      unfold jacquardref02_Made.j0
      repeat' first
      | (with_reducible exact ih0 _ _)
      | (with_reducible exact ih1 _ _ _ _)
      | (with_reducible exact ih2 _ _ _ _ _ _)
      | (with_reducible exact LeO.refl _)
      | (with_reducible exact LeO.none _)
      | (with_reducible refine LeO.ite ?_ ?_)
      | (with_reducible refine LeO.bind ?_ (fun _ => ?_))
      | exact ih0 _ _
      | exact ih1 _ _ _ _
      | exact ih2 _ _ _ _ _ _
      | exact LeO.none _
      | refine LeO.ite ?_ ?_
      | refine LeO.bind ?_ (fun _ => ?_)
    · intro y0 y1 y2 y3
      unfold jacquardref02_Made.l0
      repeat' first
      | (with_reducible exact ih0 _ _)
      | (with_reducible exact ih1 _ _ _ _)
      | (with_reducible exact ih2 _ _ _ _ _ _)
      | (with_reducible exact LeO.refl _)
      | (with_reducible exact LeO.none _)
      | (with_reducible refine LeO.ite ?_ ?_)
      | (with_reducible refine LeO.bind ?_ (fun _ => ?_))
      | exact ih0 _ _
      | exact ih1 _ _ _ _
      | exact ih2 _ _ _ _ _ _
      | exact LeO.none _
      | refine LeO.ite ?_ ?_
      | refine LeO.bind ?_ (fun _ => ?_)
    · intro y0 y1 y2 y3 y4 y5
      unfold jacquardref02_Made.l1
      repeat' first
      | (with_reducible exact ih0 _ _)
      | (with_reducible exact ih1 _ _ _ _)
      | (with_reducible exact ih2 _ _ _ _ _ _)
      | (with_reducible exact LeO.refl _)
      | (with_reducible exact LeO.none _)
      | (with_reducible refine LeO.ite ?_ ?_)
      | (with_reducible refine LeO.bind ?_ (fun _ => ?_))
      | exact ih0 _ _
      | exact ih1 _ _ _ _
      | exact ih2 _ _ _ _ _ _
      | exact LeO.none _
      | refine LeO.ite ?_ ?_
      | refine LeO.bind ?_ (fun _ => ?_)
theorem jacquardref02_Made.mono : ∀ a0 k, LeO (jacquardref02_Made.f k a0) (jacquardref02_Made.f (k + 1) a0) := by
  intro a0 k
  obtain ⟨ih0, ih1, ih2⟩ := jacquardref02_Made.mono_l k
  unfold jacquardref02_Made.f
  repeat' first
      | (with_reducible exact ih0 _ _)
      | (with_reducible exact ih1 _ _ _ _)
      | (with_reducible exact ih2 _ _ _ _ _ _)
      | (with_reducible exact LeO.refl _)
      | (with_reducible exact LeO.none _)
      | (with_reducible refine LeO.ite ?_ ?_)
      | (with_reducible refine LeO.bind ?_ (fun _ => ?_))
      | exact ih0 _ _
      | exact ih1 _ _ _ _
      | exact ih2 _ _ _ _ _ _
      | exact LeO.none _
      | refine LeO.ite ?_ ?_
      | refine LeO.bind ?_ (fun _ => ?_)
set_option maxHeartbeats 8000000 in
set_option maxRecDepth 100000 in
theorem jacquardref02_Made.calls (k : Nat) (A0 : Option Addr) (c0 : Nat) (l0 : List Int) (r : List (List Int)) (w : World) (hr0 : Kd.C (Kd.int .i64) w A0 l0.length l0) (hc0 : l0.length ≤ c0) (h : jacquardref02_Made.f k l0 = some r) :
    Calls Try.prog 25 #[.slice A0 l0.length c0] w fun e w' => ∃ v0_ : Value, e = .returned (v0_) ∧ Kd.S (Kd.slice 3 (Kd.int .i64)) 23 w' w.heap.size (fun _ => True) v0_ r ∧ Below w.heap.size w w' := by
  have HR0 := Aside0.mk hr0
  have HC0 := Aside0.mk hc0
  clear hr0 hc0
  have HB := Aside0.mk (Below.refl w.heap.size w)
  have H : (if (l0.length : Int) > 0 then (if 0 < (l0.length : Int) then (jacquardref02_Made.j0 k l0 (wrap64 (1 + (Int.tmod (wrap64 ((Int.tmod (rd l0 0) 10) + 10)) 10)))) else (none)) else (jacquardref02_Made.j0 k l0 1)) = some r := h
  clear h
  have HC2 := Aside0.mk H
  clear H
  go_enter Try.func25, Try.ntmps25
  go_upto_if 12 with (fail)
  go_cut [3] (fun v3 wc => ∃ (kq : Nat) (x3_1 : Int), v3 = .int .i64 x3_1 ∧ Aside0 (jacquardref02_Made.j0 kq l0 x3_1 = some r) ∧ Aside0 (kq ≤ k) ∧ Aside0 (Below w.heap.size w wc))
  case first =>
    have H := HC2.out
    clear HC2
    by_cases c3 : (l0.length : Int) > 0
    · rw [if_pos c3] at H
      have c3b0 : decide (0 < (l0.length : Int)) = true := decide_eq_true c3
      have c3b1 : decide (0 < l0.length) = true := decide_eq_true (by omega)
      have c3p : 0 < l0.length := by omega
      clear c3
      rw [c3b1]
      (first | rw [c3b0] | (simp only [i64_w, i32_w]; rw [c3b0]) | skip)
      by_cases c4 : 0 < (l0.length : Int)
      · rw [if_pos c4] at H
        have c4b0 : decide (0 < (l0.length : Int)) = true := decide_eq_true c4
        have c4b1 : decide (0 < l0.length) = true := decide_eq_true (by omega)
        clear c4
        have H' := Aside0.mk H
        clear H
        have p314 : 0 ≤ (0 : Int) := (by omega)
        have q314 : 0 < (l0.length : Int) := of_decide_eq_true (by first | (with_reducible assumption) | assumption)
        obtain ⟨ad314, e314, hx314_0⟩ := Kd.at_int HR0.out 0 p314 q314
        cases e314
        have qi314 : (0 < l0.length) = True := eq_true (by omega)
        (try rw [show ((0 : Int)).toNat = 0 from rfl] at hx314_0)
        (try rw [Addr.add_zero'] at hx314_0)
        replace hx314_0 := (HB.out.cell (World.block_lt_of_cell? w _ hx314_0)).trans hx314_0
        replace p314 := eq_true p314
        replace q314 := eq_true q314
        go_wp2
        go_meet
        case rel => exact ⟨_, (wrap64 (1 + (Int.tmod (wrap64 ((Int.tmod (rd l0 0) 10) + 10)) 10))), (by first | rfl | (simp; done) | (simp [*]; done)), H', ⟨by first | omega | exact Nat.le_refl _⟩, ⟨by repeat (first | (with_reducible first | exact HB.out | apply below_alloc | apply pw_below_drewN | apply below_drew1) | exact HB.out)⟩⟩
      · rw [if_neg c4] at H
        exact absurd H (by simp)
    · rw [if_neg c3] at H
      have c3b0 : decide (0 < (l0.length : Int)) = false := decide_eq_false c3
      have c3b1 : decide (0 < l0.length) = false := decide_eq_false (by omega)
      have c3p : ¬ 0 < l0.length := by omega
      clear c3
      rw [c3b1]
      (first | rw [c3b0] | (simp only [i64_w, i32_w]; rw [c3b0]) | skip)
      have H' := Aside0.mk H
      clear H
      go_wp2
      go_meet
      case rel => exact ⟨_, (1), (by first | rfl | (simp; done) | (simp [*]; done)), H', ⟨by first | omega | exact Nat.le_refl _⟩, ⟨by repeat (first | (with_reducible first | exact HB.out | apply below_alloc | apply pw_below_drewN | apply below_drew1) | exact HB.out)⟩⟩
  case rest =>
    clear HC2; (try clear c2); (try clear p2); (try clear c3); (try clear c3b0); (try clear c3b1); (try clear p3); (try clear q3); (try clear hx3); (try clear qi3); (try clear c4); (try clear c4b0); (try clear c4b1); (try clear hx314_0); (try clear p314); (try clear q314)
    obtain ⟨kq, x3_1, rfl, HA, HJ1, HB⟩ := hcut
    cases kq with
    | zero => exact absurd HA.out (by simp [jacquardref02_Made.j0])
    | succ kj1 =>
      have H := HA.out
      clear HA
      simp only [jacquardref02_Made.j0] at H
      have H' := Aside0.mk H
      clear H
      go_wp2
      go_loopg [4, 5] kj1 (fun kq v4 v5 w' => ∃ (x4_2 : List (List Int)) (x5_2 : Int), v5 = .int .i64 x5_2 ∧ Aside0 (jacquardref02_Made.l0 kq l0 x3_1 x4_2 x5_2 = some r) ∧ Aside0 (kq ≤ kj1) ∧ Aside0 (Kd.S (Kd.slice 3 (Kd.int .i64)) 23 w' w.heap.size (fun _ => True) v4 x4_2) ∧ Aside0 (Below w.heap.size w w'))
      case atStart => exact ⟨(([] : List (List Int))), (0), (by first | rfl | (simp; done) | (simp [*]; done)), H', ⟨Nat.le_refl _⟩, ⟨by first | exact Kd.S_nil _ _ _ _ _ | exact Kd.N_nil _ _ _ _ _ | exact Kd.V_nil _ _ _ _ _ | exact Kd.Q_nil _ _ _ _ _ | exact Kd.R_nil _ _ _ _ _⟩, ⟨by repeat (first | (with_reducible first | exact HB.out | apply below_alloc | apply pw_below_drewN | apply below_drew1) | exact HB.out)⟩⟩
      case round =>
        clear H'; (try clear c2); (try clear p2); (try clear c3); (try clear c3b0); (try clear c3b1); (try clear p3); (try clear q3); (try clear hx3); (try clear qi3); (try clear c4); (try clear c4b0); (try clear c4b1); (try clear hx314_0); (try clear p2); (try clear p3); (try clear p314); (try clear q3); (try clear q314)
        obtain ⟨x4_2, x5_2, rfl, HA, HK2, HO_4, HB⟩ := hrel
        cases gk with
        | zero => exact absurd HA.out (by simp [jacquardref02_Made.l0])
        | succ k2 =>
          have H := HA.out
          clear HA
          simp only [jacquardref02_Made.l0] at H
          by_cases c5 : x5_2 < x3_1
          · rw [if_pos c5] at H
            have c5b0 : decide (x5_2 < x3_1) = true := decide_eq_true c5
            clear c5
            have H' := Aside0.mk H
            clear H
            go_wp2
            go_loopg [6, 7] k2 (fun kq v6 v7 w' => ∃ (x6_3 : List Int) (x7_3 : Int), v7 = .int .i64 x7_3 ∧ Aside0 (jacquardref02_Made.l1 kq l0 x3_1 x4_2 x5_2 x6_3 x7_3 = some r) ∧ Aside0 (kq ≤ k2) ∧ Aside0 (Kd.S (Kd.slice 3 (Kd.int .i64)) 23 w' w.heap.size (fun k_ => some k_ ≠ (v6 : Value).ownBlock) u4 x4_2) ∧ Aside0 (Kd.R (Kd.int .i64) 3 w' w.heap.size (fun _ => True) v6 x6_3) ∧ Aside0 (Below w.heap.size w w'))
            case atStart => exact ⟨(([] : List Int)), (1), (by first | rfl | (simp; done) | (simp [*]; done)), H', ⟨Nat.le_refl _⟩, ⟨by (with_reducible repeat (first | apply Kd.S_alloc | apply Kd.S_drewN | apply Kd.S_drew)); exact Kd.S_mono HO_4.out (fun _ hk => (by simp [Value.ownBlock]))⟩, ⟨by first | exact Kd.R_nil _ _ _ _ _ | exact Kd.N_nil _ _ _ _ _ | exact Kd.V_nil _ _ _ _ _ | exact Kd.Q_nil _ _ _ _ _ | exact Kd.S_nil _ _ _ _ _⟩, ⟨by repeat (first | (with_reducible first | exact HB.out | apply below_alloc | apply pw_below_drewN | apply below_drew1) | exact HB.out)⟩⟩
            case round =>
              clear H'; (try clear c2); (try clear p2); (try clear c3); (try clear c3b0); (try clear c3b1); (try clear p3); (try clear q3); (try clear hx3); (try clear qi3); (try clear c4); (try clear c4b0); (try clear c4b1); (try clear c5); (try clear c5b0); (try clear hx314_0); (try clear p2); (try clear p3); (try clear p314); (try clear q3); (try clear q314)
              obtain ⟨x6_3, x7_3, rfl, HA, HK3, HO_4, HO_6, HB⟩ := hrel
              cases gk with
              | zero => exact absurd HA.out (by simp [jacquardref02_Made.l1])
              | succ k3 =>
                have H := HA.out
                clear HA
                simp only [jacquardref02_Made.l1] at H
                by_cases c6 : x7_3 ≤ 3
                · rw [if_pos c6] at H
                  have c6b0 : decide (x7_3 ≤ 3) = true := decide_eq_true c6
                  clear c6
                  by_cases c7 : (wrap64 ((wrap64 (3 * x5_2)) + x7_3)) < (l0.length : Int)
                  · rw [if_pos c7] at H
                    have c7b0 : decide ((wrap64 ((wrap64 (3 * x5_2)) + x7_3)) < (l0.length : Int)) = true := decide_eq_true c7
                    clear c7
                    obtain ⟨ji8, hji8⟩ : ∃ j_ : Int, (wrap64 ((wrap64 (3 * x5_2)) + x7_3)) = j_ := ⟨_, rfl⟩
                    replace H : (if 0 ≤ (ji8) then (if (wrap64 (x3_1 + 3)) = 0 then (none) else (if (Int.tmod (wrap64 ((wrap64 ((Int.tmod (rd l0 (ji8)) (wrap64 (x3_1 + 3))) + x3_1)) + 3)) (wrap64 (x3_1 + 3))) < x3_1 then (if x6_3.length < 17592186044416 then (jacquardref02_Made.l1 k3 l0 x3_1 x4_2 x5_2 (x6_3 ++ [Int.tmod (wrap64 ((wrap64 ((Int.tmod (rd l0 (ji8)) (wrap64 (x3_1 + 3))) + x3_1)) + 3)) (wrap64 (x3_1 + 3))]) (wrap64 (x7_3 + 1))) else (none)) else (jacquardref02_Made.l1 k3 l0 x3_1 x4_2 x5_2 x6_3 (wrap64 (x7_3 + 1))))) else (none)) = some r := by first | (rw [hji8] at H; exact H) | (simp only [hji8] at H ⊢; exact H)
                    (try rw [hji8] at c7b0)
                    have hji8w : (IntKind.i64.wrap ((wrap64 (3 * x5_2)) + x7_3)) = ji8 := (i64_w _).trans hji8
                    by_cases c9 : 0 ≤ (ji8)
                    · rw [if_pos c9] at H
                      have c9b0 : decide (0 ≤ (ji8)) = true := decide_eq_true c9
                      clear c9
                      by_cases c10 : (wrap64 (x3_1 + 3)) = 0
                      · rw [if_pos c10] at H
                        exact absurd H (by simp)
                      · rw [if_neg c10] at H
                        have c10b0 : ((wrap64 (x3_1 + 3)) == 0) = false := beq_eq_false_iff_ne.mpr c10
                        have c10b1 : ((wrap64 (x3_1 + 3)) != 0) = true := bne_iff_ne.mpr c10
                        by_cases c11 : (Int.tmod (wrap64 ((wrap64 ((Int.tmod (rd l0 (ji8)) (wrap64 (x3_1 + 3))) + x3_1)) + 3)) (wrap64 (x3_1 + 3))) < x3_1
                        · rw [if_pos c11] at H
                          have c11b0 : decide ((Int.tmod (wrap64 ((wrap64 ((Int.tmod (rd l0 (ji8)) (wrap64 (x3_1 + 3))) + x3_1)) + 3)) (wrap64 (x3_1 + 3))) < x3_1) = true := decide_eq_true c11
                          clear c11
                          by_cases c12 : x6_3.length < 17592186044416
                          · rw [if_pos c12] at H
                            have LMc12 := Aside0.mk c12
                            clear c12
                            obtain ⟨y319, hy319⟩ : ∃ y_ : List Int, y_ = (x6_3 ++ [Int.tmod (wrap64 ((wrap64 ((Int.tmod (rd l0 (ji8)) (wrap64 (x3_1 + 3))) + x3_1)) + 3)) (wrap64 (x3_1 + 3))]) := ⟨_, rfl⟩
                            replace H : (jacquardref02_Made.l1 k3 l0 x3_1 x4_2 x5_2 y319 (wrap64 (x7_3 + 1))) = some r := by first | (rw [hy319]; with_reducible exact H) | (have H2_ := (Option.bind_some _ _).symm.trans H; rw [hy319]; with_reducible exact H2_) | (have H2_ := (Option.bind_some _ _).symm.trans H; with_reducible exact H2_) | with_reducible exact H | (rw [hy319]; exact H) | exact H
                            have Ny319 := Aside0.mk hy319
                            clear hy319
                            have H' := Aside0.mk H
                            clear H
                            have p318 : 0 ≤ ((ji8) : Int) := of_decide_eq_true (by first | (with_reducible assumption) | assumption)
                            have q318 : (ji8) < (l0.length : Int) := of_decide_eq_true (by first | (with_reducible assumption) | assumption)
                            obtain ⟨ad318, e318, hx318_0⟩ := Kd.at_int HR0.out (ji8) p318 q318
                            cases e318
                            replace hx318_0 := (HB.out.cell (World.block_lt_of_cell? w _ hx318_0)).trans hx318_0
                            replace p318 := eq_true p318
                            replace q318 := eq_true q318
                            go_wp2_with (first | ((with_reducible refine gate_builtin (b := .append) (xs := #[.tmp 53, .tmp 55]) rfl ?_); at_builtin; refine Kd.R_append (Kd.int .i64) (w0 := w) w.heap.size rfl (.tmp 53) (.tmp 55) 23 3 (.int .i64 0) 8 rfl Try.underlying23 info3 rfl (by decide) (by omega) u6 x6_3 (Int.tmod (wrap64 ((wrap64 ((Int.tmod (rd l0 (ji8)) (wrap64 (x3_1 + 3))) + x3_1)) + 3)) (wrap64 (x3_1 + 3))) [.int .i64 (Int.tmod (wrap64 ((wrap64 ((Int.tmod (rd l0 (ji8)) (wrap64 (x3_1 + 3))) + x3_1)) + 3)) (wrap64 (x3_1 + 3)))] (fun _ => True) (fun _ => False) rfl rfl ?aP (fun _ hk => hk.elim) ?aF ?aO ?aB ?aS ?aL ?_; (case aP => exact rfl); (case aB => exact (by repeat (first | (with_reducible first | exact HB.out | apply below_alloc | apply pw_below_drewN | apply below_drew1) | exact HB.out))); (case aF => exact (fun _ _ => trivial)); (case aO => exact (by (with_reducible repeat (first | apply Kd.R_alloc | apply Kd.R_drewN | apply Kd.R_drew)); exact HO_6.out)); (case aS => exact (below_size (by repeat (first | (with_reducible first | exact HB.out | apply below_alloc | apply pw_below_drewN | apply below_drew1) | exact HB.out)))); (case aL => have := LMc12.out; omega); intro v320 w13 ho hb hg hat; rw [← Ny319.out] at ho; have n0_ := Aside0.mk (Kd.S_after (ok := (fun _ => True)) (by (with_reducible repeat (first | apply Kd.S_alloc | apply Kd.S_drewN | apply Kd.S_drew)); exact Kd.S_mono HO_4.out (fun _ hk => ⟨trivial, hk⟩)) hg hat); have n1_ := Aside0.mk (hb); have n2_ := Aside0.mk (ho); clear HO_4; clear HB; clear HO_6; have HO_4 := n0_; have HB := n1_; have HO321 := n2_; clear n0_ n1_ n2_; clear ho hb hg hat))
                            go_roundg k3
                            case measure => have := HJ1.out; have := HK2.out; have := HK3.out; omega
                            case rel => exact ⟨(y319), (wrap64 (x7_3 + 1)), (by first | rfl | (simp; done) | (simp [*]; done)), H', ⟨by have := HJ1.out; have := HK2.out; have := HK3.out; omega⟩, ⟨by (with_reducible repeat (first | apply Kd.S_alloc | apply Kd.S_drewN | apply Kd.S_drew)); exact Kd.S_mono HO_4.out (fun _ hk => hk.2)⟩, ⟨by (with_reducible repeat (first | apply Kd.R_alloc | apply Kd.R_drewN | apply Kd.R_drew)); exact HO321.out⟩, ⟨by repeat (first | (with_reducible first | exact HB.out | apply below_alloc | apply pw_below_drewN | apply below_drew1) | exact HB.out)⟩⟩
                          · rw [if_neg c12] at H
                            exact absurd H (by simp)
                        · rw [if_neg c11] at H
                          have c11b0 : decide ((Int.tmod (wrap64 ((wrap64 ((Int.tmod (rd l0 (ji8)) (wrap64 (x3_1 + 3))) + x3_1)) + 3)) (wrap64 (x3_1 + 3))) < x3_1) = false := decide_eq_false c11
                          clear c11
                          have H' := Aside0.mk H
                          clear H
                          have p318 : 0 ≤ ((ji8) : Int) := of_decide_eq_true (by first | (with_reducible assumption) | assumption)
                          have q318 : (ji8) < (l0.length : Int) := of_decide_eq_true (by first | (with_reducible assumption) | assumption)
                          obtain ⟨ad318, e318, hx318_0⟩ := Kd.at_int HR0.out (ji8) p318 q318
                          cases e318
                          replace hx318_0 := (HB.out.cell (World.block_lt_of_cell? w _ hx318_0)).trans hx318_0
                          replace p318 := eq_true p318
                          replace q318 := eq_true q318
                          go_wp2
                          go_roundg k3
                          case measure => have := HJ1.out; have := HK2.out; have := HK3.out; omega
                          case rel => exact ⟨(x6_3), (wrap64 (x7_3 + 1)), (by first | rfl | (simp; done) | (simp [*]; done)), H', ⟨by have := HJ1.out; have := HK2.out; have := HK3.out; omega⟩, ⟨by (with_reducible repeat (first | apply Kd.S_alloc | apply Kd.S_drewN | apply Kd.S_drew)); exact HO_4.out⟩, ⟨by (with_reducible repeat (first | apply Kd.R_alloc | apply Kd.R_drewN | apply Kd.R_drew)); exact HO_6.out⟩, ⟨by repeat (first | (with_reducible first | exact HB.out | apply below_alloc | apply pw_below_drewN | apply below_drew1) | exact HB.out)⟩⟩
                    · rw [if_neg c9] at H
                      exact absurd H (by simp)
                  · rw [if_neg c7] at H
                    have c7b0 : decide ((wrap64 ((wrap64 (3 * x5_2)) + x7_3)) < (l0.length : Int)) = false := decide_eq_false c7
                    clear c7
                    have H' := Aside0.mk H
                    clear H
                    go_wp2
                    go_roundg k3
                    case measure => have := HJ1.out; have := HK2.out; have := HK3.out; omega
                    case rel => exact ⟨(x6_3), (wrap64 (x7_3 + 1)), (by first | rfl | (simp; done) | (simp [*]; done)), H', ⟨by have := HJ1.out; have := HK2.out; have := HK3.out; omega⟩, ⟨by (with_reducible repeat (first | apply Kd.S_alloc | apply Kd.S_drewN | apply Kd.S_drew)); exact HO_4.out⟩, ⟨by (with_reducible repeat (first | apply Kd.R_alloc | apply Kd.R_drewN | apply Kd.R_drew)); exact HO_6.out⟩, ⟨by repeat (first | (with_reducible first | exact HB.out | apply below_alloc | apply pw_below_drewN | apply below_drew1) | exact HB.out)⟩⟩
                · rw [if_neg c6] at H
                  have c6b0 : decide (x7_3 ≤ 3) = false := decide_eq_false c6
                  clear c6
                  by_cases c14 : x4_2.length < 5864062014805
                  · rw [if_pos c14] at H
                    have LMc14 := Aside0.mk c14
                    clear c14
                    obtain ⟨y315, hy315⟩ : ∃ y_ : List (List Int), y_ = (x4_2 ++ [x6_3]) := ⟨_, rfl⟩
                    replace H : (jacquardref02_Made.l0 k3 l0 x3_1 y315 (wrap64 (x5_2 + 1))) = some r := by first | (rw [hy315]; with_reducible exact H) | (have H2_ := (Option.bind_some _ _).symm.trans H; rw [hy315]; with_reducible exact H2_) | (have H2_ := (Option.bind_some _ _).symm.trans H; with_reducible exact H2_) | with_reducible exact H | (rw [hy315]; exact H) | exact H
                    have Ny315 := Aside0.mk hy315
                    clear hy315
                    have H' := Aside0.mk H
                    clear H
                    obtain ⟨Ao16, co16, eo16⟩ := Kd.R_slice HO_6.out
                    subst eo16
                    go_wp2_with (first | ((with_reducible refine gate_builtin (b := .append) (xs := #[.tmp 57, .tmp 59]) rfl ?_); at_builtin; refine Kd.S_append (Kd.slice 3 (Kd.int .i64)) (w0 := w) w.heap.size rfl (.tmp 57) (.tmp 59) 22 23 (.slice none 0 0) 24 rfl Try.underlying22 info23 rfl (by decide) (by omega) u4 x4_2 x6_3 [.slice Ao16 x6_3.length co16] (fun _ => True) (fun k_ => some k_ = (.slice Ao16 x6_3.length co16 : Value).ownBlock) rfl rfl ?aP (fun k_ hk_ => ((Kd.R_mono (ok' := fun k_ => ((fun _ => True)) k_ ∧ some k_ ≠ (u4 : Value).ownBlock) (Kd.R_apart' (HO_6.out) (Kd.S_typed HO_4.out) (by decide)) (fun k_ hk => ⟨trivial, hk.2⟩))).1 k_ hk_.symm) ?aF ?aO ?aB ?aS ?aL ?_; (case aP => exact Kd.M_row (Kd.R_mono (Kd.R_tight rfl (Kd.R_mono (ok' := fun k_ => ((fun _ => True)) k_ ∧ some k_ ≠ (u4 : Value).ownBlock) (Kd.R_apart' (HO_6.out) (Kd.S_typed HO_4.out) (by decide)) (fun k_ hk => ⟨trivial, hk.2⟩))) (fun _ h_ => h_))); (case aB => exact (by repeat (first | (with_reducible first | exact HB.out | apply below_alloc | apply pw_below_drewN | apply below_drew1) | exact HB.out))); (case aF => exact (fun _ _ => trivial)); (case aO => exact (by (with_reducible repeat (first | apply Kd.S_alloc | apply Kd.S_drewN | apply Kd.S_drew)); exact Kd.S_mono HO_4.out (fun k_ hk => ⟨trivial, fun e_ => hk e_⟩))); (case aS => exact (below_size (by repeat (first | (with_reducible first | exact HB.out | apply below_alloc | apply pw_below_drewN | apply below_drew1) | exact HB.out)))); (case aL => have := LMc14.out; omega); intro v316 w15 ho hb hg hat; rw [← Ny315.out] at ho; have n0_ := Aside0.mk (hb); have n1_ := Aside0.mk (ho); clear HB; clear HO_4; clear HO_6; have HB := n0_; have HO317 := n1_; clear n0_ n1_; clear ho hb hg hat))
                    go_roundg k3
                    case measure => have := HJ1.out; have := HK2.out; have := HK3.out; omega
                    case rel => exact ⟨(y315), (wrap64 (x5_2 + 1)), (by first | rfl | (simp; done) | (simp [*]; done)), H', ⟨by have := HJ1.out; have := HK2.out; have := HK3.out; omega⟩, ⟨by (with_reducible repeat (first | apply Kd.S_alloc | apply Kd.S_drewN | apply Kd.S_drew)); exact HO317.out⟩, ⟨by repeat (first | (with_reducible first | exact HB.out | apply below_alloc | apply pw_below_drewN | apply below_drew1) | exact HB.out)⟩⟩
                  · rw [if_neg c14] at H
                    exact absurd H (by simp)
          · rw [if_neg c5] at H
            have c5b0 : decide (x5_2 < x3_1) = false := decide_eq_false c5
            clear c5
            obtain rfl := Option.some.inj H
            go_wp2
            go_ret
            exact ⟨_, by first | rfl | (simp [errW_none, errW_some] <;> rfl) | (simp [*, errW_none, errW_some] <;> rfl), by (with_reducible repeat (first | apply Kd.S_alloc | apply Kd.S_drewN | apply Kd.S_drew)); exact HO_4.out, by repeat (first | (with_reducible first | exact HB.out | apply below_alloc | apply pw_below_drewN | apply below_drew1) | exact HB.out)⟩

end Go.Proofs.Ytnmeomdjhjgnfaa.X
end
section
/-! Plain: edges, Preds' rows, what Made makes. -/
set_option linter.unusedSimpArgs false
set_option linter.unusedVariables false
namespace Go.Proofs.Ytnmeomdjhjgnfaa.X
open Go.RowKit Go.Proofs.YtnmeomdjhjgnfaaW.PrintWords Go.Proofs.YtnmeomdjhjgnfaaW.PrintLast Go.Proofs.YtnmeomdjhjgnfaaW.PrintMore

/-- More rounds tell the same. -/
theorem up {α : Type} {f : Nat → Option α} (h : ∀ k, LeO (f k) (f (k + 1))) {k m : Nat} (hm : k ≤ m) {r : α} (hr : f k = some r) : f m = some r := by
  obtain ⟨d, rfl⟩ := Nat.exists_eq_add_of_le hm
  clear hm
  induction d with
  | zero => exact hr
  | succ d ih => exact h (k + d) r ih
theorem w64 {x : Int} (h0 : -9223372036854775808 ≤ x) (h1 : x ≤ 9223372036854775807) : wrap64 x = x := by unfold wrap64; omega

/-! ### an edge -/
def eB (g : List (List Int)) (a b : Int) : Bool := decide (0 ≤ a ∧ a < g.length ∧ 0 ≤ b ∧ b < g.length) && (rd_L1 g a).contains b
theorem edge_l0 (g : List (List Int)) (a b : Int) (ha : 0 ≤ a ∧ a < g.length) (hl : (rd_L1 g a).length ≤ 1000000) : ∀ (d : Nat) (i : Nat), i + d = (rd_L1 g a).length →
    jacquardref02_Edge.l0 (d + 1) g a b i = some (((rd_L1 g a).drop i).contains b) := by
  intro d
  induction d with
  | zero =>
    intro i hi
    rw [jacquardref02_Edge.l0, if_pos ha.1, if_pos ha.2, if_neg (by omega), List.drop_of_length_le (by omega)]
    rfl
  | succ d ih =>
    intro i hi
    have hlt : i < (rd_L1 g a).length := by omega
    have hrd : rd (rd_L1 g a) i = (rd_L1 g a)[i] := by simp [rd, hlt]
    rw [jacquardref02_Edge.l0, if_pos ha.1, if_pos ha.2, if_pos (by omega), if_pos (by omega), hrd, List.drop_eq_getElem_cons hlt]
    by_cases he : (rd_L1 g a)[i] = b
    · rw [if_pos he]; simp [he]
    · rw [if_neg he, w64 (by omega) (by omega), show ((i : Int) + 1) = ((i + 1 : Nat) : Int) from by omega, ih (i + 1) (by omega)]
      have : (b == (rd_L1 g a)[i]) = false := by simpa using fun h : b = _ => he h.symm
      rw [List.contains_cons, this, Bool.false_or]
theorem edge_some (g : List (List Int)) (hg : okG g = true) (a b : Int) {k : Nat} (hk : 1000003 ≤ k) : jacquardref02_Edge.f k g a b = some (eB g a b) := by
  obtain ⟨k, rfl⟩ := Nat.exists_eq_add_of_le hk
  have e : 1000003 + k = (1000002 + k) + 1 := by omega
  unfold jacquardref02_Edge.f
  rw [e]
  have no : ∀ {x : Bool}, x = true → (¬ (0 ≤ a ∧ a < (g.length : Int) ∧ 0 ≤ b ∧ b < (g.length : Int))) → jacquardref02_Edge.j0 (1000002 + k + 1) g a b x = some (eB g a b) := by
    intro x hx hn
    rw [jacquardref02_Edge.j0, if_pos hx]
    unfold eB
    rw [decide_eq_false hn, Bool.false_and]
  by_cases h0 : a < 0
  · rw [if_pos h0]; exact no rfl (by omega)
  · rw [if_neg h0]
    by_cases h1 : a ≥ (g.length : Int)
    · rw [if_pos h1]; exact no rfl (by omega)
    · rw [if_neg h1]
      by_cases h2 : b < 0
      · rw [if_pos h2]; exact no rfl (by omega)
      · rw [if_neg h2]
        by_cases h3 : b ≥ (g.length : Int)
        · exact no (decide_eq_true h3) (by omega)
        · rw [decide_eq_false h3, jacquardref02_Edge.j0, if_neg (by decide)]
          have hl : (rd_L1 g a).length ≤ 1000000 := by
            have : rd_L1 g a = g[a.toNat]'(by omega) := by
              unfold rd_L1
              rw [List.getD_eq_getElem?_getD, List.getElem?_eq_getElem (by omega)]; rfl
            rw [this]
            exact (okG_len hg).2 _ (List.getElem_mem _)
          have h := edge_l0 g a b (by omega) hl (rd_L1 g a).length 0 (by omega)
          have h2 := up (f := fun k => jacquardref02_Edge.l0 k g a b ((0 : Nat) : Int)) (fun k => (jacquardref02_Edge.mono_l k).2 _ _ _ _) (m := 1000002 + k) (by omega) h
          have h3 : jacquardref02_Edge.l0 (1000002 + k) g a b 0 = some (((rd_L1 g a).drop 0).contains b) := h2
          rw [h3]
          unfold eB
          rw [decide_eq_true (by omega), Bool.true_and, List.drop_zero]
theorem eB_iff {g : List (List Int)} {a b : Int} : eB g a b = true ↔ 0 ≤ a ∧ a < g.length ∧ 0 ≤ b ∧ b < g.length ∧ b ∈ rd_L1 g a := by
  unfold eB
  rw [Bool.and_eq_true, decide_eq_true_eq, List.contains_iff_mem]
  constructor
  · rintro ⟨⟨h1, h2, h3, h4⟩, h5⟩; exact ⟨h1, h2, h3, h4, h5⟩
  · rintro ⟨h1, h2, h3, h4, h5⟩; exact ⟨⟨h1, h2, h3, h4⟩, h5⟩
theorem eB_eq {g g' : List (List Int)} {a b a' b' : Int} (h : eB g a b = true ↔ eB g' a' b' = true) : eB g a b = eB g' a' b' := by
  rw [Bool.eq_iff_iff]; exact h

/-! ### the edges' list -/
theorem mem_edgesFrom (rows : List (List Int)) : ∀ (i : Nat) (e : Int × Int), e ∈ edgesFrom i rows ↔ ∃ j : Nat, j < rows.length ∧ e.1 = ((i + j : Nat) : Int) ∧ e.2 ∈ rd_L1 rows j := by
  induction rows with
  | nil => intro i e; simp [edgesFrom]
  | cons r rows ih =>
    intro i e
    simp only [edgesFrom, List.mem_append, List.mem_map, ih, List.length_cons]
    constructor
    · rintro (⟨b, hb, rfl⟩ | ⟨j, hj, h1, h2⟩)
      · exact ⟨0, by omega, by simp, by simpa [rd_L1] using hb⟩
      · refine ⟨j + 1, by omega, by omega, ?_⟩
        simpa [rd_L1] using h2
    · rintro ⟨j, hj, h1, h2⟩
      cases j with
      | zero => exact .inl ⟨e.2, by simpa [rd_L1] using h2, by rw [Prod.ext_iff]; exact ⟨by simpa using h1.symm, rfl⟩⟩
      | succ j => exact .inr ⟨j, by omega, by omega, by simpa [rd_L1] using h2⟩
theorem rd_clean (g : List (List Int)) (j : Nat) (h : j < g.length) : rd_L1 (cleanL g) j = keptL (rd_L1 g j) g.length := by
  simp [rd_L1, cleanL, h]
theorem mem_edgesL (g : List (List Int)) (a b : Int) : (a, b) ∈ edgesL g ↔ eB g a b = true := by
  unfold edgesL
  rw [mem_edgesFrom, eB_iff]
  constructor
  · rintro ⟨j, hj, h1, h2⟩
    rw [cleanL_length] at hj
    rw [rd_clean g j hj, mem_keptL] at h2
    simp only [Nat.zero_add] at h1
    subst h1
    exact ⟨by omega, by omega, h2.2.1, h2.2.2, h2.1⟩
  · rintro ⟨h1, h2, h3, h4, h5⟩
    obtain ⟨j, rfl⟩ := Int.eq_ofNat_of_zero_le h1
    refine ⟨j, by rw [cleanL_length]; omega, by simp, ?_⟩
    rw [rd_clean g j (by omega), mem_keptL]
    exact ⟨h5, h3, h4⟩

/-! ### Preds' rows -/
theorem preds_row (es : List (Int × Int)) : ∀ (rows : List (List Int)) (b : Nat), b < rows.length → (∀ e ∈ es, 0 ≤ e.2) →
    (es.foldl predStep rows).getD b [] = rows.getD b [] ++ (es.filter fun e => e.2 == (b : Int)).map (·.1) := by
  induction es with
  | nil => intro rows b _ _; simp
  | cons e es ih =>
    intro rows b hb he
    rw [List.foldl_cons, ih _ b (by simpa [predStep] using hb) (fun e' h => he e' (List.mem_cons_of_mem _ h))]
    have h0 := he e List.mem_cons_self
    by_cases h : e.2 = b
    · have h2 : e.2.toNat = b := by omega
      simp only [predStep, List.filter_cons, h, beq_self_eq_true, if_true, List.map_cons, Int.toNat_natCast]
      rw [List.getD_eq_getElem?_getD, List.getElem?_set_self (by omega)]
      simp
    · have h2 : e.2.toNat ≠ b := by omega
      have h3 : (e.2 == (b : Int)) = false := by simpa using h
      simp only [predStep, List.filter_cons, h3]
      rw [List.getD_eq_getElem?_getD, List.getElem?_set_ne (by omega), ← List.getD_eq_getElem?_getD]
      simp
theorem rd_preds (g : List (List Int)) (b : Nat) (hb : b < g.length) : rd_L1 (predsL g) b = ((edgesL g).filter fun e => e.2 == (b : Int)).map (·.1) := by
  have := preds_row (edgesL g) (List.replicate g.length []) b (by simpa using hb) (fun e he => ((eB_iff.1 ((mem_edgesL g e.1 e.2).1 he)).2.2.1))
  unfold rd_L1 predsL
  rw [Int.toNat_natCast, this]
  simp [List.getD_eq_getElem?_getD, List.getElem?_replicate, hb]
theorem predsL_len (g : List (List Int)) : (predsL g).length = g.length := by
  have key : ∀ (es : List (Int × Int)) (rows : List (List Int)), (es.foldl predStep rows).length = rows.length := by
    intro es
    induction es with
    | nil => intro rows; rfl
    | cons e es ih => intro rows; rw [List.foldl_cons, ih]; simp [predStep]
  unfold predsL; rw [key]; simp
theorem mem_preds (g : List (List Int)) (a b : Int) (hb : 0 ≤ b ∧ b < g.length) : a ∈ rd_L1 (predsL g) b ↔ eB g a b = true := by
  obtain ⟨j, rfl⟩ := Int.eq_ofNat_of_zero_le hb.1
  rw [rd_preds g j (by omega), List.mem_map, ← mem_edgesL]
  constructor
  · rintro ⟨e, he, rfl⟩
    obtain ⟨h1, h2⟩ := List.mem_filter.1 he
    have h3 : e.2 = (j : Int) := by simpa using h2
    rw [← h3]; exact h1
  · intro h
    exact ⟨(a, (j : Int)), List.mem_filter.2 ⟨h, by simp⟩, rfl⟩
theorem eB_preds (g : List (List Int)) (a b : Int) : eB (predsL g) b a = eB g a b := by
  refine eB_eq ?_
  rw [eB_iff, predsL_len]
  constructor
  · rintro ⟨h1, h2, h3, h4, h5⟩
    exact (mem_preds g a b ⟨h1, h2⟩).1 h5
  · intro h
    obtain ⟨h1, h2, h3, h4, _⟩ := eB_iff.1 h
    exact ⟨h3, h4, h1, h2, (mem_preds g a b ⟨h3, h4⟩).2 h⟩
theorem okG_preds (g : List (List Int)) (hn : g.length ≤ 1000) : okG (predsL g) = true := by
  unfold okG
  rw [predsL_len, Bool.and_eq_true, decide_eq_true_eq, List.all_eq_true]
  refine ⟨by omega, fun r hr => decide_eq_true ?_⟩
  have h1 := preds_len (edgesL g) (List.replicate g.length []) 0 (fun r hr => by rw [List.eq_of_mem_replicate hr]; simp) r (.inr hr)
  have h2 := edgesL_length g
  have h3 : g.length * g.length ≤ 1000 * 1000 := Nat.mul_le_mul hn hn
  omega
theorem Preds_some (g : List (List Int)) (hg : okG g = true) : graph_Preds.f g = some (predsL g) := by unfold graph_Preds.f; rw [if_pos hg]

/-! ### a graph of plain numbers -/
structure MadeG (g : List (List Int)) : Prop where
  pos : 1 ≤ g.length
  few : g.length ≤ 10
  rows : ∀ r ∈ g, r.length ≤ 3 ∧ ∀ b ∈ r, 0 ≤ b ∧ b < g.length
theorem MadeG.ok {g : List (List Int)} (h : MadeG g) : okG g = true := by
  unfold okG
  rw [Bool.and_eq_true, decide_eq_true_eq, List.all_eq_true]
  exact ⟨by have := h.few; omega, fun r hr => decide_eq_true (by have := (h.rows r hr).1; omega)⟩
theorem made_l1 (s : List Int) (n : Int) (hs : s.length ≤ 17592186044416) (h1 : 1 ≤ n) (h2 : n ≤ 10) (x4 : List (List Int)) (x5 : Int) (h5 : 0 ≤ x5 ∧ x5 < n) (hx4 : x4.length ≤ 10) (P : List (List Int) → Prop)
    (H : ∀ row : List Int, row.length ≤ 3 → (∀ b ∈ row, 0 ≤ b ∧ b < n) → ∃ k r, jacquardref02_Made.l0 k s n (x4 ++ [row]) (x5 + 1) = some r ∧ P r) :
    ∀ (e : Nat) (x6 : List Int) (x7 : Int), 0 ≤ x7 → x7 + e = 4 → x6.length + 1 ≤ x7 → (∀ b ∈ x6, 0 ≤ b ∧ b < n) → ∃ k r, jacquardref02_Made.l1 k s n x4 x5 x6 x7 = some r ∧ P r := by
  intro e
  induction e with
  | zero =>
    intro x6 x7 h7 he hl hb
    obtain ⟨k, r, hr, hP⟩ := H x6 (by omega) hb
    refine ⟨k + 1, r, ?_, hP⟩
    rw [jacquardref02_Made.l1, if_neg (by omega), if_pos (by omega), w64 (by omega) (by omega)]
    exact hr
  | succ e ih =>
    intro x6 x7 h7 he hl hb
    have e1 : wrap64 (wrap64 (3 * x5) + x7) = 3 * x5 + x7 := by rw [w64 (x := 3 * x5) (by omega) (by omega), w64 (by omega) (by omega)]
    have e2 : wrap64 (n + 3) = n + 3 := w64 (by omega) (by omega)
    have e3 : wrap64 (x7 + 1) = x7 + 1 := w64 (by omega) (by omega)
    by_cases ha : 3 * x5 + x7 < (s.length : Int)
    · have hm1 := Int.tmod_lt_of_pos (rd s (3 * x5 + x7)) (show 0 < n + 3 by omega)
      have hm2 := Int.lt_tmod_of_pos (rd s (3 * x5 + x7)) (show 0 < n + 3 by omega)
      have e4 : wrap64 (Int.tmod (rd s (3 * x5 + x7)) (n + 3) + n) = Int.tmod (rd s (3 * x5 + x7)) (n + 3) + n := w64 (by omega) (by omega)
      have e5 : wrap64 (Int.tmod (rd s (3 * x5 + x7)) (n + 3) + n + 3) = Int.tmod (rd s (3 * x5 + x7)) (n + 3) + n + 3 := w64 (by omega) (by omega)
      have hy0 : 0 ≤ Int.tmod (Int.tmod (rd s (3 * x5 + x7)) (n + 3) + n + 3) (n + 3) := Int.tmod_nonneg _ (by omega)
      by_cases hy : Int.tmod (Int.tmod (rd s (3 * x5 + x7)) (n + 3) + n + 3) (n + 3) < n
      · obtain ⟨k, r, hr, hP⟩ := ih (x6 ++ [Int.tmod (Int.tmod (rd s (3 * x5 + x7)) (n + 3) + n + 3) (n + 3)]) (x7 + 1) (by omega) (by omega) (by rw [List.length_append]; simp; omega) (fun b hb' => by
          rcases List.mem_append.1 hb' with h | h
          · exact hb b h
          · rw [List.mem_singleton.1 h]; exact ⟨hy0, hy⟩)
        refine ⟨k + 1, r, ?_, hP⟩
        rw [jacquardref02_Made.l1, if_pos (by omega), e1, e2, if_pos ha, if_pos (by omega), if_neg (by omega), e4, e5, if_pos hy, if_pos (by omega), e3]
        exact hr
      · obtain ⟨k, r, hr, hP⟩ := ih x6 (x7 + 1) (by omega) (by omega) (by omega) hb
        refine ⟨k + 1, r, ?_, hP⟩
        rw [jacquardref02_Made.l1, if_pos (by omega), e1, e2, if_pos ha, if_pos (by omega), if_neg (by omega), e4, e5, if_neg hy, e3]
        exact hr
    · obtain ⟨k, r, hr, hP⟩ := ih x6 (x7 + 1) (by omega) (by omega) (by omega) hb
      refine ⟨k + 1, r, ?_, hP⟩
      rw [jacquardref02_Made.l1, if_pos (by omega), e1, if_neg ha, e3]
      exact hr
theorem made_l0 (s : List Int) (n : Int) (hs : s.length ≤ 17592186044416) (h1 : 1 ≤ n) (h2 : n ≤ 10) : ∀ (d : Nat) (x4 : List (List Int)) (x5 : Int), x5 + d = n → (x4.length : Int) = x5 → (∀ r ∈ x4, r.length ≤ 3 ∧ ∀ b ∈ r, 0 ≤ b ∧ b < n) →
    ∃ k r, jacquardref02_Made.l0 k s n x4 x5 = some r ∧ (r.length : Int) = n ∧ ∀ row ∈ r, row.length ≤ 3 ∧ ∀ b ∈ row, 0 ≤ b ∧ b < n := by
  intro d
  induction d with
  | zero =>
    intro x4 x5 h h4 hr
    exact ⟨1, x4, by rw [jacquardref02_Made.l0, if_neg (by omega)], by omega, hr⟩
  | succ d ih =>
    intro x4 x5 h h4 hr
    obtain ⟨k, r, hk, hP⟩ := made_l1 s n hs h1 h2 x4 x5 (by omega) (by omega) (fun r => (r.length : Int) = n ∧ ∀ row ∈ r, row.length ≤ 3 ∧ ∀ b ∈ row, 0 ≤ b ∧ b < n) (fun row hl hb =>
      ih (x4 ++ [row]) (x5 + 1) (by omega) (by rw [List.length_append]; simp; omega) (fun r' hr' => by
        rcases List.mem_append.1 hr' with h | h
        · exact hr r' h
        · rw [List.mem_singleton.1 h]; exact ⟨hl, hb⟩)) 3 [] 1 (by omega) (by omega) (by simp) (fun b hb => by cases hb)
    exact ⟨k + 1, r, by rw [jacquardref02_Made.l0, if_pos (by omega)]; exact hk, hP⟩
theorem made_some (s : List Int) (hs : s.length * 8 ≤ 140737488351232) : ∃ k g, jacquardref02_Made.f k s = some g ∧ MadeG g := by
  have key : ∀ n : Int, 1 ≤ n → n ≤ 10 → ∃ k g, jacquardref02_Made.j0 k s n = some g ∧ MadeG g := by
    intro n h1 h2
    obtain ⟨k, r, hk, hl, hr⟩ := made_l0 s n (by omega) h1 h2 n.toNat [] 0 (by omega) rfl (fun r hr => by cases hr)
    exact ⟨k + 1, r, by rw [jacquardref02_Made.j0]; exact hk, ⟨by omega, by omega, fun row h => by rw [hl]; exact hr row h⟩⟩
  by_cases h : (s.length : Int) > 0
  · have hm1 := Int.tmod_lt_of_pos (rd s 0) (show (0 : Int) < 10 by omega)
    have hm2 := Int.lt_tmod_of_pos (rd s 0) (show (0 : Int) < 10 by omega)
    have e4 : wrap64 (Int.tmod (rd s 0) 10 + 10) = Int.tmod (rd s 0) 10 + 10 := w64 (by omega) (by omega)
    have hy0 : 0 ≤ Int.tmod (Int.tmod (rd s 0) 10 + 10) 10 := Int.tmod_nonneg _ (by omega)
    have hy1 := Int.tmod_lt_of_pos (Int.tmod (rd s 0) 10 + 10) (show (0 : Int) < 10 by omega)
    obtain ⟨k, g, hk, hg⟩ := key (wrap64 (1 + Int.tmod (Int.tmod (rd s 0) 10 + 10) 10)) (by rw [w64 (by omega) (by omega)]; omega) (by rw [w64 (by omega) (by omega)]; omega)
    refine ⟨k, g, ?_, hg⟩
    unfold jacquardref02_Made.f
    rw [if_pos h, if_pos (by omega), e4]
    exact hk
  · obtain ⟨k, g, hk, hg⟩ := key 1 (by omega) (by omega)
    refine ⟨k, g, ?_, hg⟩
    unfold jacquardref02_Made.f
    rw [if_neg h]
    exact hk
end Go.Proofs.Ytnmeomdjhjgnfaa.X
end
section
/-! Plain: graph.Idom's loops over places. -/
set_option linter.unusedVariables false
set_option linter.unusedSimpArgs false
namespace Go.Proofs.Ytnmeomdjhjgnfaa.X
open Go.RowKit Go.Proofs.YtnmeomdjhjgnfaaW.PrintWords Go.Proofs.YtnmeomdjhjgnfaaW.PrintLast Go.Proofs.YtnmeomdjhjgnfaaW.PrintMore

/-- The numbers of the blocks. -/
structure Nm (o : List Int) (n : Nat) (num : List Int) : Prop where
  len : num.length = n
  on : ∀ i, i < o.length → rd num (at_ o i) = i
  off : ∀ x, 0 ≤ x → x < (n : Int) → x ∉ o → rd num x = -1
/-- What the list of parents holds when the places below i have one. -/
structure Ot (o : List Int) (n i : Nat) (par : Nat → Nat) (out : List Int) : Prop where
  len : out.length = n
  on : ∀ j, 0 < j → j < i → rd out (at_ o j) = at_ o (par j)
  root : rd out 0 = -1
  not : ∀ j, i ≤ j → j < o.length → rd out (at_ o j) = -1
  off : ∀ x, 0 ≤ x → x < (n : Int) → x ∉ o → rd out x = -1

theorem chk_common {o : List Int} {n i : Nat} {par : Nat → Nat} {out num : List Int} (hr : ∀ x ∈ o, 0 ≤ x ∧ x < (n : Int)) (hi : i ≤ o.length) (hN : Nm o n num) (hO : Ot o n i par out) (hd : Dn par) : ∀ (K a b : Nat), a < i → b < i → a + b < K →
    graph_common.f K out num (at_ o a) (at_ o b) = some (at_ o (com par K a b))
  | 0, a, b, _, _, h => by omega
  | K + 1, a, b, ha, hb, h => by
    have h1 := hr _ (at_mem (show a < o.length by omega))
    have h2 := hr _ (at_mem (show b < o.length by omega))
    have hl := hN.len
    have hl2 := hO.len
    rw [graph_common.f, if_pos (by omega), hN.on a (by omega), hN.on b (by omega), com]
    by_cases hba : b < a
    · have h3 := hd a (by omega)
      rw [if_pos (by omega), if_pos (by omega), if_pos hba, hO.on a (by omega) ha]
      exact chk_common hr hi hN hO hd K (par a) b (by omega) hb (by omega)
    · rw [if_neg (by omega), if_neg hba]
      by_cases hab : a < b
      · have h3 := hd b (by omega)
        rw [if_pos (by omega), if_pos (by omega), if_pos hab, hO.on b (by omega) hb]
        exact chk_common hr hi hN hO hd K a (par b) ha (by omega) (by omega)
      · rw [if_neg (by omega), if_neg hab]

/-- Has a block a parent (or is it the first)? -/
def hasP (num out : List Int) (x : Int) : Bool := decide (0 ≤ rd num x) && (decide (x = 0) || decide (0 ≤ rd out x))
def encB (o : List Int) : Option Nat → Int
  | none => -1
  | some p => at_ o p
def stepB (num out : List Int) (par : Nat → Nat) (m : Nat) (best : Option Nat) (x : Int) : Option Nat :=
  if hasP num out x = true then some (match best with | none => (rd num x).toNat | some p => com par (2 * m) p (rd num x).toNat) else best
theorem hasP_iff {E : Int → Int → Prop} {o : List Int} {n i : Nat} {par : Nat → Nat} {out num : List Int} (H : Ordd E n o) (hi0 : 0 < i) (hi : i ≤ o.length) (hN : Nm o n num) (hO : Ot o n i par out) (hd : Dn par) (x : Int) (hx : 0 ≤ x ∧ x < (n : Int)) :
    hasP num out x = true ↔ ∃ j, j < i ∧ x = at_ o j := by
  unfold hasP
  rw [Bool.and_eq_true, Bool.or_eq_true, decide_eq_true_eq, decide_eq_true_eq, decide_eq_true_eq]
  constructor
  · rintro ⟨h1, h2⟩
    by_cases hm : x ∈ o
    · obtain ⟨j, hj, rfl⟩ := mem_at hm
      refine ⟨j, ?_, rfl⟩
      rcases Nat.lt_or_ge j i with h | h
      · exact h
      · exfalso
        rcases h2 with h2 | h2
        · have := at_inj H.nodup hj H.pos (h2.trans H.head.symm)
          omega
        · rw [hO.not j h hj] at h2; omega
    · rw [hN.off x hx.1 hx.2 hm] at h1; omega
  · rintro ⟨j, hj, rfl⟩
    refine ⟨by rw [hN.on j (by omega)]; omega, ?_⟩
    rcases Nat.eq_zero_or_pos j with rfl | h0
    · exact .inl H.head
    · have h3 := hd j h0
      exact .inr (by rw [hO.on j h0 hj]; exact (H.rng _ (at_mem (by omega))).1)
def contL (x3 num out : List Int) (preds : List (List Int)) (chg : Bool) (x12 : Int) (x55 : List Int) (x56 x57 : Int) (k : Nat) (x13 : Int) : Option (List Int) :=
  if 0 ≤ x12 then (if x12 < (out.length : Int) then (if rd out x12 = x13 then (graph_Idom.l3 k x3 num out preds chg x55 x56 (wrap64 (x57 + 1))) else (graph_Idom.l3 k x3 num (out.set (x12 : Int).toNat x13) preds true x55 x56 (wrap64 (x57 + 1)))) else (none)) else (none)
theorem up4 (x3 num out : List Int) (preds : List (List Int)) (chg : Bool) (x12 x13 : Int) (x55 : List Int) (x56 x57 : Int) (row : List Int) (x65 x66 : Int) (r : List Int) {k m : Nat} (hm : k ≤ m) (h : graph_Idom.l4 k x3 num out preds chg x12 x13 x55 x56 x57 row x65 x66 = some r) :
    graph_Idom.l4 m x3 num out preds chg x12 x13 x55 x56 x57 row x65 x66 = some r :=
  up (f := fun k => graph_Idom.l4 k x3 num out preds chg x12 x13 x55 x56 x57 row x65 x66) (fun k => (graph_Idom.mono_l k).2.2.2.2.1 _ _ _ _ _ _ _ _ _ _ _ _ _) hm h
theorem chk_l4 {E : Int → Int → Prop} {o : List Int} {n i : Nat} {par : Nat → Nat} {out num : List Int} (H : Ordd E n o) (hi0 : 0 < i) (hi : i ≤ o.length) (hN : Nm o n num) (hO : Ot o n i par out) (hd : Dn par) (x3 : List Int) (preds : List (List Int)) (chg : Bool) (x12 : Int) (x55 : List Int) (x56 x57 : Int) (row : List Int)
    (hrow : ∀ x ∈ row, 0 ≤ x ∧ x < (n : Int)) (hl : row.length ≤ 1000000) (r : List Int) : ∀ (d i66 : Nat) (best : Option Nat), i66 + d = row.length → (∀ p, best = some p → p < i) →
    (∃ k, contL x3 num out preds chg x12 x55 x56 x57 k (encB o ((row.drop i66).foldl (stepB num out par o.length) best)) = some r) →
    ∃ k, graph_Idom.l4 k x3 num out preds chg x12 (encB o best) x55 x56 x57 row row.length i66 = some r := by
  intro d
  induction d with
  | zero =>
    intro i66 best h66 hb hc
    obtain ⟨k, hk⟩ := hc
    rw [List.drop_of_length_le (by omega)] at hk
    refine ⟨k + 1, ?_⟩
    rw [graph_Idom.l4, if_neg (by omega)]
    exact hk
  | succ d ih =>
    intro i66 best h66 hb hc
    have hlt : i66 < row.length := by omega
    have hx : rd row i66 = row[i66] := by simp [rd, hlt]
    have hxr := hrow (rd row i66) (by rw [hx]; exact List.getElem_mem _)
    rw [List.drop_eq_getElem_cons hlt, List.foldl_cons, ← hx] at hc
    have hw : wrap64 ((i66 : Int) + 1) = ((i66 + 1 : Nat) : Int) := by unfold wrap64; omega
    have hnl := hN.len
    have hol := hO.len
    have hiff := hasP_iff H hi0 hi hN hO hd (rd row i66) hxr
    cases hp : hasP num out (rd row i66) with
    | false =>
      rw [show stepB num out par o.length best (rd row i66) = best from by unfold stepB; rw [hp]; rfl] at hc
      obtain ⟨k, hk⟩ := ih (i66 + 1) best (by omega) hb hc
      refine ⟨k + 1 + 1, ?_⟩
      rw [graph_Idom.l4, if_pos (by omega), if_pos (by omega), if_pos (by omega), if_pos hxr.1, if_pos (by omega)]
      have hj : graph_Idom.j5 (k + 1) x3 num out preds chg x12 (encB o best) (rd row i66) x55 x56 x57 row row.length i66 true = some r := by
        rw [graph_Idom.j5, if_pos rfl, hw]; exact hk
      unfold hasP at hp
      by_cases h1 : rd num (rd row i66) < 0
      · rw [if_pos h1]; exact hj
      · rw [if_neg h1]
        rw [decide_eq_true (by omega), Bool.true_and, Bool.or_eq_false_iff] at hp
        have h2 := of_decide_eq_false hp.1
        have h3 := of_decide_eq_false hp.2
        rw [if_neg h2, if_pos (by omega), decide_eq_true (by omega)]
        exact hj
    | true =>
      obtain ⟨j, hj, ej⟩ := hiff.1 hp
      have hnum : rd num (rd row i66) = j := by rw [ej]; exact hN.on j (by omega)
      have hin : ∃ k, graph_Idom.j5 k x3 num out preds chg x12 (encB o best) (rd row i66) x55 x56 x57 row row.length i66 false = some r := by
        cases best with
        | none =>
          rw [show stepB num out par o.length none (rd row i66) = some j from by unfold stepB; rw [if_pos hp, hnum]; rfl] at hc
          obtain ⟨k, hk⟩ := ih (i66 + 1) (some j) (by omega) (fun p e => by injection e with e; omega) hc
          refine ⟨k + 1, ?_⟩
          rw [graph_Idom.j5, if_neg (by decide), if_pos (show encB o none < 0 from by show (-1 : Int) < 0; omega), hw, ej]
          exact hk
        | some p =>
          rw [show stepB num out par o.length (some p) (rd row i66) = some (com par (2 * o.length) p j) from by unfold stepB; rw [if_pos hp, hnum]; rfl] at hc
          have hpi := hb p rfl
          have hcl := com_le hd (2 * o.length) p j (by omega)
          obtain ⟨k, hk⟩ := ih (i66 + 1) (some (com par (2 * o.length) p j)) (by omega) (fun q e => by injection e with e; omega) hc
          have hpr := H.rng _ (at_mem (show p < o.length by omega))
          refine ⟨(k + 2 * o.length) + 1, ?_⟩
          have hcm := up (f := fun k => graph_common.f k out num (at_ o p) (at_ o j)) (fun k => graph_common.mono _ _ _ _ _) (m := k + 2 * o.length) (by omega) (chk_common (fun x hx => H.rng x hx) hi hN hO hd (2 * o.length) p j hpi hj (by omega))
          rw [graph_Idom.j5, if_neg (by decide), if_neg (show ¬ (encB o (some p) < 0) from by show ¬ (at_ o p < 0); omega), ej]
          show (graph_common.f (k + 2 * o.length) out num (at_ o p) (at_ o j)).bind _ = _
          rw [hcm, Option.bind_some, hw]
          exact up4 _ _ _ _ _ _ _ _ _ _ _ _ _ _ (by omega) hk
      obtain ⟨k, hk⟩ := hin
      refine ⟨k + 1, ?_⟩
      rw [graph_Idom.l4, if_pos (by omega), if_pos (by omega), if_pos (by omega), if_pos hxr.1, if_pos (by omega), if_neg (by omega)]
      by_cases h0 : rd row i66 = 0
      · rw [if_pos h0]; exact hk
      · rw [if_neg h0, if_pos (by omega)]
        unfold hasP at hp
        rw [decide_eq_true (by omega), Bool.true_and, decide_eq_false h0, Bool.false_or, decide_eq_true_eq] at hp
        rw [decide_eq_false (by omega)]
        exact hk
end Go.Proofs.Ytnmeomdjhjgnfaa.X
namespace Go.Proofs.Ytnmeomdjhjgnfaa.X
open Go.RowKit Go.Proofs.YtnmeomdjhjgnfaaW.PrintWords Go.Proofs.YtnmeomdjhjgnfaaW.PrintLast Go.Proofs.YtnmeomdjhjgnfaaW.PrintMore
/-! ### the fold is the nearest one -/
def plN (num : List Int) (x : Int) : Nat := (rd num x).toNat
theorem fold_some (num out : List Int) (par : Nat → Nat) (m : Nat) : ∀ (l : List Int) (p : Nat), l.foldl (stepB num out par m) (some p) = some (nca par (2 * m) p ((l.filter (hasP num out)).map (plN num)))
  | [], p => rfl
  | x :: l, p => by
    rw [List.foldl_cons]
    by_cases h : hasP num out x = true
    · rw [show stepB num out par m (some p) x = some (com par (2 * m) p (plN num x)) from by unfold stepB; rw [if_pos h]; rfl, fold_some num out par m l, List.filter_cons, if_pos h]
      rfl
    · rw [show stepB num out par m (some p) x = some p from by unfold stepB; rw [if_neg h], fold_some num out par m l, List.filter_cons, if_neg h]
theorem fold_none (num out : List Int) (par : Nat → Nat) (m : Nat) : ∀ (l : List Int) (p : Nat) (ps : List Nat), (l.filter (hasP num out)).map (plN num) = p :: ps → l.foldl (stepB num out par m) none = some (nca par (2 * m) p ps)
  | [], p, ps, h => by simp at h
  | x :: l, p, ps, h => by
    rw [List.foldl_cons]
    by_cases hx : hasP num out x = true
    · rw [List.filter_cons, if_pos hx, List.map_cons] at h
      injection h with h1 h2
      rw [show stepB num out par m none x = some (plN num x) from by unfold stepB; rw [if_pos hx]; rfl, fold_some, h1, h2]
    · rw [List.filter_cons, if_neg hx] at h
      rw [show stepB num out par m none x = none from by unfold stepB; rw [if_neg hx]]
      exact fold_none num out par m l p ps h
/-- A parent is written. -/
theorem Ot.put {E : Int → Int → Prop} {o : List Int} {n i k v : Nat} {par : Nat → Nat} {out : List Int} (H : Ordd E n o) (h : Ot o n i par out) (hk0 : 0 < k) (hk : k < o.length) (hki : k ≤ i) (him : i ≤ o.length) (hv : v < o.length) :
    Ot o n (max i (k + 1)) (upd par k v) (out.set (at_ o k).toNat (at_ o v)) := by
  have hr := H.rng _ (at_mem hk)
  have hlen := h.len
  have hne : ∀ x, 0 ≤ x → x ≠ at_ o k → rd (out.set (at_ o k).toNat (at_ o v)) x = rd out x := fun x h0 hn => by
    unfold rd
    rw [List.getD_eq_getElem?_getD, List.getD_eq_getElem?_getD, List.getElem?_set_ne (by omega)]
  have heq : rd (out.set (at_ o k).toNat (at_ o v)) (at_ o k) = at_ o v := by
    unfold rd
    rw [List.getD_eq_getElem?_getD, List.getElem?_set_self (by omega)]
    rfl
  refine ⟨by simp [h.len], fun j h0 hj => ?_, ?_, fun j hj hm => ?_, fun x h0 h1 hx => ?_⟩
  · by_cases e : j = k
    · subst e; rw [heq]; unfold upd; rw [if_pos rfl]
    · rw [hne _ (H.rng _ (at_mem (by omega))).1 (fun hh => e (at_inj H.nodup (by omega) hk hh)), h.on j h0 (by omega)]
      unfold upd; rw [if_neg e]
  · rw [hne 0 (Int.le_refl 0) (fun hh => by have := at_inj H.nodup H.pos hk (H.head.trans hh); omega)]; exact h.root
  · rw [hne _ (H.rng _ (at_mem hm)).1 (fun hh => by have := at_inj H.nodup hm hk hh; omega)]; exact h.not j (by omega) hm
  · rw [hne x h0 (fun hh => hx (hh ▸ at_mem hk))]; exact h.off x h0 h1 hx
end Go.Proofs.Ytnmeomdjhjgnfaa.X
namespace Go.Proofs.Ytnmeomdjhjgnfaa.X
open Go.RowKit Go.Proofs.YtnmeomdjhjgnfaaW.PrintWords Go.Proofs.YtnmeomdjhjgnfaaW.PrintLast Go.Proofs.YtnmeomdjhjgnfaaW.PrintMore
/-! ### sweeps over the lists -/
/-- The places from which a place is come to. -/
def PP (o num : List Int) (preds : List (List Int)) (i : Nat) : List Nat := ((rd_L1 preds (at_ o i)).filter (fun x => decide (x ∈ o))).map (plN num)
theorem filt_map (p : Int → Bool) (q : Int → Bool) (f : Int → Nat) (t : Nat → Bool) : ∀ (l : List Int), (∀ x ∈ l, p x = (q x && t (f x))) → (l.filter p).map f = ((l.filter q).map f).filter t
  | [], _ => rfl
  | x :: l, h => by
    have ih := filt_map p q f t l (fun y hy => h y (List.mem_cons_of_mem _ hy))
    have hx := h x List.mem_cons_self
    rw [List.filter_cons, List.filter_cons]
    cases hq : q x with
    | false =>
      rw [hq, Bool.false_and] at hx
      rw [hx]
      simpa using ih
    | true =>
      rw [hq, Bool.true_and] at hx
      rw [hx]
      cases ht : t (f x) with
      | false => simp [ht, ih]
      | true => simp [ht, ih]
theorem rows_set {E : Int → Int → Prop} {o : List Int} {n i : Nat} {par : Nat → Nat} {out num : List Int} (H : Ordd E n o) (hi0 : 0 < i) (hi : i ≤ o.length) (hN : Nm o n num) (hO : Ot o n i par out) (hd : Dn par) (preds : List (List Int)) (b : Nat) (hrow : ∀ x ∈ rd_L1 preds (at_ o b), 0 ≤ x ∧ x < (n : Int)) :
    ((rd_L1 preds (at_ o b)).filter (hasP num out)).map (plN num) = (PP o num preds b).filter (fun q => decide (q < i)) := by
  unfold PP
  refine filt_map _ _ _ _ _ (fun x hx => ?_)
  rw [Bool.eq_iff_iff, hasP_iff H hi0 hi hN hO hd x (hrow x hx), Bool.and_eq_true, decide_eq_true_eq, decide_eq_true_eq]
  constructor
  · rintro ⟨j, hj, rfl⟩
    refine ⟨at_mem (by omega), ?_⟩
    unfold plN
    rw [hN.on j (by omega)]
    exact hj
  · rintro ⟨hm, hp⟩
    obtain ⟨j, hj, rfl⟩ := mem_at hm
    unfold plN at hp
    rw [hN.on j hj] at hp
    exact ⟨j, hp, rfl⟩
/-- One block's turn: what is written is the nearest one's block. -/
theorem chk_turn {E : Int → Int → Prop} {o : List Int} {n i b : Nat} {par : Nat → Nat} {out num : List Int} (H : Ordd E n o) (hi0 : 0 < i) (hi : i ≤ o.length) (hN : Nm o n num) (hO : Ot o n i par out) (hd : Dn par) (preds : List (List Int)) (hpl : preds.length = n) (hb0 : 0 < b) (hb : b < o.length) (hbi : b ≤ i)
    (hrow : ∀ x ∈ rd_L1 preds (at_ o b), 0 ≤ x ∧ x < (n : Int)) (hl : (rd_L1 preds (at_ o b)).length ≤ 1000000) (hol : o.length ≤ 1000000) (chg : Bool) (r : List Int) (p : Nat) (ps : List Nat) (hP : (PP o num preds b).filter (fun q => decide (q < i)) = p :: ps) (hv : nca par (2 * o.length) p ps < o.length)
    (hc : ∃ k, graph_Idom.l3 k o num (out.set (at_ o b).toNat (at_ o (nca par (2 * o.length) p ps))) preds (chg || decide (rd out (at_ o b) ≠ at_ o (nca par (2 * o.length) p ps))) (o.drop 1) ((o.drop 1).length : Int) ((b : Nat) : Int) = some r) :
    ∃ k, graph_Idom.l3 k o num out preds chg (o.drop 1) ((o.drop 1).length : Int) ((b : Int) - 1) = some r := by
  have hbr := H.rng _ (at_mem hb)
  have hlen := hO.len
  have hrd : rd (o.drop 1) ((b : Int) - 1) = at_ o b := by
    unfold rd at_
    rw [show ((b : Int) - 1).toNat = b - 1 from by omega, List.getD_eq_getElem?_getD, List.getElem?_drop, List.getD_eq_getElem?_getD, show 1 + (b - 1) = b from by omega]
  have hdl : (o.drop 1).length = o.length - 1 := List.length_drop
  have hw : wrap64 ((b : Int) - 1 + 1) = (b : Int) := by unfold wrap64; omega
  have hfold := fold_none num out par o.length (rd_L1 preds (at_ o b)) p ps (by rw [rows_set H hi0 hi hN hO hd preds b hrow]; exact hP)
  obtain ⟨k, hk⟩ := hc
  obtain ⟨k2, hk2⟩ := chk_l4 H hi0 hi hN hO hd o preds chg (at_ o b) (o.drop 1) ((o.drop 1).length : Int) ((b : Int) - 1) (rd_L1 preds (at_ o b)) hrow hl r (rd_L1 preds (at_ o b)).length 0 none (by omega) (fun p e => by cases e) ⟨k, by
    rw [List.drop_zero, hfold]
    unfold contL
    rw [if_pos hbr.1, if_pos (by omega), hw]
    show (if rd out (at_ o b) = at_ o (nca par (2 * o.length) p ps) then _ else _) = _
    by_cases e : rd out (at_ o b) = at_ o (nca par (2 * o.length) p ps)
    · rw [if_pos e]
      rw [decide_eq_false (fun h => h e), Bool.or_false] at hk
      have hset : out.set (at_ o b).toNat (at_ o (nca par (2 * o.length) p ps)) = out := by
        rw [← e]
        unfold rd
        rw [List.getD_eq_getElem?_getD, List.getElem?_eq_getElem (by omega)]
        exact List.set_getElem_self _
      rw [hset] at hk
      exact hk
    · rw [if_neg e]
      rw [decide_eq_true e, Bool.or_true] at hk
      exact hk⟩
  refine ⟨k2 + 1, ?_⟩
  rw [graph_Idom.l3, if_pos (by omega), if_pos (by omega), if_pos (by omega), hrd, if_pos hbr.1, if_pos (by omega)]
  exact hk2
end Go.Proofs.Ytnmeomdjhjgnfaa.X
namespace Go.Proofs.Ytnmeomdjhjgnfaa.X
open Go.RowKit Go.Proofs.YtnmeomdjhjgnfaaW.PrintWords Go.Proofs.YtnmeomdjhjgnfaaW.PrintLast Go.Proofs.YtnmeomdjhjgnfaaW.PrintMore
/-- The sum of the parents. -/
def sumP (par : Nat → Nat) : Nat → Nat
  | 0 => 0
  | m + 1 => sumP par m + par m
theorem sumP_upd (par : Nat → Nat) (b v : Nat) (hv : v ≤ par b) : ∀ m, sumP (upd par b v) m + (if b < m then par b - v else 0) = sumP par m
  | 0 => by simp [sumP]
  | m + 1 => by
    have ih := sumP_upd par b v hv m
    simp only [sumP]
    by_cases h : b = m
    · subst h
      have e : upd par b v b = v := by unfold upd; rw [if_pos rfl]
      rw [if_neg (Nat.lt_irrefl b)] at ih
      rw [if_pos (Nat.lt_succ_self b), e]
      omega
    · have e : upd par b v m = par m := by unfold upd; rw [if_neg (fun x => h x.symm)]
      rw [e]
      by_cases h2 : b < m
      · rw [if_pos h2] at ih; rw [if_pos (by omega)]; omega
      · rw [if_neg h2] at ih; rw [if_neg (by omega)]; omega
def FixAt (P : Nat → List Nat) (m : Nat) (par : Nat → Nat) (u : Nat) : Prop := ∃ p ps, P u = p :: ps ∧ nca par (2 * m) p ps = par u
theorem upd_self (par : Nat → Nat) (b : Nat) : upd par b (par b) = par := by
  funext u; unfold upd; split
  · rename_i h; rw [h]
  · rfl
theorem nonempty_cons {l : List Nat} {s : Nat} (h : s ∈ l) : ∃ p ps, l = p :: ps := by
  cases l with
  | nil => cases h
  | cons p ps => exact ⟨p, ps, rfl⟩
theorem filter_all (l : List Nat) (m : Nat) (h : ∀ q ∈ l, q < m) : l.filter (fun q => decide (q < m)) = l :=
  List.filter_eq_self.2 (fun q hq => decide_eq_true (h q hq))
section
variable {E : Int → Int → Prop} {o : List Int} {n : Nat} {num : List Int} {preds : List (List Int)} {Dm : Nat → Nat → Prop}
/-- A later sweep. -/
theorem chk_sweep (H : Ordd E n o) (hN : Nm o n num) (hpl : preds.length = n) (G : Gr o.length (PP o num preds) Dm) (hrow : ∀ b, b < o.length → ∀ x ∈ rd_L1 preds (at_ o b), 0 ≤ x ∧ x < (n : Int)) (hl : ∀ b, b < o.length → (rd_L1 preds (at_ o b)).length ≤ 1000000) (hol : o.length ≤ 1000000) (Q : List Int → Prop) (s0 : Nat) :
    ∀ (d b : Nat) (par : Nat → Nat) (out : List Int) (chg : Bool), b + d = o.length → 0 < b → Swp o.length (PP o num preds) Dm b par → Ot o n o.length par out → sumP par o.length ≤ s0 → (chg = true → sumP par o.length < s0) → (chg = false → ∀ u, 0 < u → u < b → FixAt (PP o num preds) o.length par u) →
    (∀ par' out' chg', Swp o.length (PP o num preds) Dm o.length par' → Ot o n o.length par' out' → (chg' = true → sumP par' o.length < s0) → (chg' = false → ∀ u, 0 < u → u < o.length → FixAt (PP o num preds) o.length par' u) → ∃ k r, graph_Idom.l2 k o num out' preds chg' = some r ∧ Q r) →
    ∃ k r, graph_Idom.l3 k o num out preds chg (o.drop 1) ((o.drop 1).length : Int) ((b : Int) - 1) = some r ∧ Q r := by
  intro d
  induction d with
  | zero =>
    intro b par out chg hb h0 hS hO hs1 hs2 hf hend
    obtain rfl : b = o.length := by omega
    obtain ⟨k, r, hk, hq⟩ := hend par out chg hS hO hs2 hf
    have hdl : (o.drop 1).length = o.length - 1 := List.length_drop
    refine ⟨k + 1, r, ?_, hq⟩
    rw [graph_Idom.l3, if_neg (by omega)]
    exact hk
  | succ d ih =>
    intro b par out chg hb h0 hS hO hs1 hs2 hf hend
    have hbm : b < o.length := by omega
    obtain ⟨s, hs, _⟩ := G.fwd b h0 hbm
    obtain ⟨p, ps, hP⟩ := nonempty_cons hs
    obtain ⟨hle, hS'⟩ := hS.step G h0 hbm hP
    have hdn := hS.dn b h0
    have hput := Ot.put H hO h0 hbm (by omega) (Nat.le_refl _) (show nca par (2 * o.length) p ps < o.length by omega)
    rw [show max o.length (b + 1) = o.length from by omega] at hput
    have hsum := sumP_upd par b (nca par (2 * o.length) p ps) hle o.length
    rw [if_pos hbm] at hsum
    have hout : rd out (at_ o b) = at_ o (par b) := hO.on b h0 hbm
    have hiff : rd out (at_ o b) ≠ at_ o (nca par (2 * o.length) p ps) ↔ nca par (2 * o.length) p ps ≠ par b := by
      rw [hout]
      constructor
      · exact fun h e => h (by rw [e])
      · exact fun h e => h (at_inj H.nodup (by omega) (by omega) e).symm
    obtain ⟨kr, r, hkr, hq⟩ := ih (b + 1) (upd par b (nca par (2 * o.length) p ps)) (out.set (at_ o b).toNat (at_ o (nca par (2 * o.length) p ps))) (chg || decide (rd out (at_ o b) ≠ at_ o (nca par (2 * o.length) p ps))) (by omega) (by omega) hS' hput (by omega) (fun hc => by
        rcases Bool.or_eq_true_iff.1 hc with h | h
        · have := hs2 h; omega
        · have := hiff.1 (of_decide_eq_true h); omega) (fun hc u hu0 hu => by
        obtain ⟨h1, h2⟩ := Bool.or_eq_false_iff.1 hc
        have h3 : nca par (2 * o.length) p ps = par b := Classical.byContradiction fun hn => of_decide_eq_false h2 (hiff.2 hn)
        rw [h3, upd_self]
        rcases Nat.lt_or_ge u b with h4 | h4
        · exact hf h1 u hu0 h4
        · obtain rfl : u = b := by omega
          exact ⟨p, ps, hP, h3⟩) hend
    have key := chk_turn H (i := o.length) H.pos (Nat.le_refl _) hN hO hS.dn preds hpl h0 hbm (by omega) (hrow b hbm) (hl b hbm) hol chg r p ps (by rw [filter_all _ _ (fun q hq => G.inb b hbm q hq)]; exact hP) (by omega) ⟨kr, by rw [show (((b + 1 : Nat) : Int) - 1) = (b : Int) from by omega] at hkr; exact hkr⟩
    exact ⟨key.choose, r, key.choose_spec, hq⟩
/-- The first sweep. -/
theorem chk_first (H : Ordd E n o) (hN : Nm o n num) (hpl : preds.length = n) (G : Gr o.length (PP o num preds) Dm) (hrow : ∀ b, b < o.length → ∀ x ∈ rd_L1 preds (at_ o b), 0 ≤ x ∧ x < (n : Int)) (hl : ∀ b, b < o.length → (rd_L1 preds (at_ o b)).length ≤ 1000000) (hol : o.length ≤ 1000000) (Q : List Int → Prop) :
    ∀ (d b : Nat) (par : Nat → Nat) (out : List Int) (chg : Bool), b + d = o.length → 0 < b → (1 < b → chg = true) → Fst o.length (PP o num preds) Dm b par → Ot o n b par out →
    (∀ par' out' chg', Fst o.length (PP o num preds) Dm o.length par' → Ot o n o.length par' out' → (1 < o.length → chg' = true) → ∃ k r, graph_Idom.l2 k o num out' preds chg' = some r ∧ Q r) →
    ∃ k r, graph_Idom.l3 k o num out preds chg (o.drop 1) ((o.drop 1).length : Int) ((b : Int) - 1) = some r ∧ Q r := by
  intro d
  induction d with
  | zero =>
    intro b par out chg hb h0 hc hS hO hend
    obtain rfl : b = o.length := by omega
    obtain ⟨k, r, hk, hq⟩ := hend par out chg hS hO hc
    have hdl : (o.drop 1).length = o.length - 1 := List.length_drop
    refine ⟨k + 1, r, ?_, hq⟩
    rw [graph_Idom.l3, if_neg (by omega)]
    exact hk
  | succ d ih =>
    intro b par out chg hb h0 hc hS hO hend
    have hbm : b < o.length := by omega
    obtain ⟨s, hs, hsb⟩ := G.fwd b h0 hbm
    obtain ⟨p, ps, hP⟩ := nonempty_cons (show s ∈ (PP o num preds b).filter (fun q => decide (q < b)) from List.mem_filter.2 ⟨hs, decide_eq_true hsb⟩)
    have hS' := hS.step G h0 hbm hP
    have hpb : ∀ q ∈ p :: ps, q < b := fun q hq => by rw [← hP] at hq; exact of_decide_eq_true (List.mem_filter.1 hq).2
    have hp := hpb p List.mem_cons_self
    have hvp : nca par (2 * o.length) p ps ≤ p := (((nca_an hS.dn o.length ps p (by omega) (fun q hq => by have := hpb q (List.mem_cons_of_mem _ hq); omega) _).1 .refl).1).le hS.dn
    have hput := Ot.put H hO h0 hbm (Nat.le_refl _) (by omega) (show nca par (2 * o.length) p ps < o.length by omega)
    rw [show max b (b + 1) = b + 1 from by omega] at hput
    have hout : rd out (at_ o b) = -1 := hO.not b (Nat.le_refl _) hbm
    have hv0 := (H.rng _ (at_mem (show nca par (2 * o.length) p ps < o.length by omega))).1
    obtain ⟨kr, r, hkr, hq⟩ := ih (b + 1) (upd par b (nca par (2 * o.length) p ps)) (out.set (at_ o b).toNat (at_ o (nca par (2 * o.length) p ps))) (chg || decide (rd out (at_ o b) ≠ at_ o (nca par (2 * o.length) p ps))) (by omega) (by omega) (fun _ => by rw [decide_eq_true (by omega), Bool.or_true]) hS' hput hend
    have key := chk_turn H h0 (by omega) hN hO hS.dn preds hpl h0 hbm (Nat.le_refl _) (hrow b hbm) (hl b hbm) hol chg r p ps hP (by omega) ⟨kr, by rw [show (((b + 1 : Nat) : Int) - 1) = (b : Int) from by omega] at hkr; exact hkr⟩
    exact ⟨key.choose, r, key.choose_spec, hq⟩
end
end Go.Proofs.Ytnmeomdjhjgnfaa.X
namespace Go.Proofs.Ytnmeomdjhjgnfaa.X
open Go.RowKit Go.Proofs.YtnmeomdjhjgnfaaW.PrintWords Go.Proofs.YtnmeomdjhjgnfaaW.PrintLast Go.Proofs.YtnmeomdjhjgnfaaW.PrintMore
section
variable {E : Int → Int → Prop} {o : List Int} {n : Nat} {num : List Int} {preds : List (List Int)} {Dm : Nat → Nat → Prop}
theorem l2_true (H : Ordd E n o) (hol : o.length ≤ 1000000) (out : List Int) (r : List Int) (h : ∃ k, graph_Idom.l3 k o num out preds false (o.drop 1) ((o.drop 1).length : Int) (((1 : Nat) : Int) - 1) = some r) : ∃ k, graph_Idom.l2 k o num out preds true = some r := by
  obtain ⟨k, hk⟩ := h
  have hp := H.pos
  have hmn : mn 1 (o.length : Int) = 1 := by unfold mn; split <;> omega
  refine ⟨k + 1, ?_⟩
  rw [graph_Idom.l2, if_pos rfl, hmn, if_pos (by omega), if_pos (by omega)]
  exact hk
/-- What the loops end in. -/
def Rest (o : List Int) (n : Nat) (num : List Int) (preds : List (List Int)) (Dm : Nat → Nat → Prop) (r : List Int) : Prop :=
  ∃ par, Swp o.length (PP o num preds) Dm 1 par ∧ Ot o n o.length par r ∧ ∀ u, 0 < u → u < o.length → FixAt (PP o num preds) o.length par u
/-- The later sweeps come to rest. -/
theorem chk_rest (H : Ordd E n o) (hN : Nm o n num) (hpl : preds.length = n) (G : Gr o.length (PP o num preds) Dm) (hrow : ∀ b, b < o.length → ∀ x ∈ rd_L1 preds (at_ o b), 0 ≤ x ∧ x < (n : Int)) (hl : ∀ b, b < o.length → (rd_L1 preds (at_ o b)).length ≤ 1000000) (hol : o.length ≤ 1000000) :
    ∀ (s : Nat) (par : Nat → Nat) (out : List Int), sumP par o.length < s → Swp o.length (PP o num preds) Dm 1 par → Ot o n o.length par out →
    ∃ k r, graph_Idom.l2 k o num out preds true = some r ∧ Rest o n num preds Dm r := by
  intro s
  induction s with
  | zero => intro par out h; omega
  | succ s ih =>
    intro par out hs hS hO
    have hp := H.pos
    obtain ⟨k, r, hk, hq⟩ := chk_sweep H hN hpl G hrow hl hol (Rest o n num preds Dm) (sumP par o.length) (o.length - 1) 1 par out false (by omega) (by omega) hS hO (Nat.le_refl _) (fun h => by cases h) (fun _ u h0 h1 => by omega) (fun par' out' chg' hS' hO' hlt hf => by
      cases chg' with
      | true => exact ih par' out' (by have := hlt rfl; omega) hS'.again hO'
      | false => exact ⟨1, out', by rw [graph_Idom.l2, if_neg (by decide)], par', hS'.again, hO', hf rfl⟩)
    obtain ⟨k2, hk2⟩ := l2_true H hol out r ⟨k, hk⟩
    exact ⟨k2, r, hk2, hq⟩
/-- From the lists as they are made. -/
theorem chk_all (H : Ordd E n o) (hN : Nm o n num) (hpl : preds.length = n) (G : Gr o.length (PP o num preds) Dm) (hrow : ∀ b, b < o.length → ∀ x ∈ rd_L1 preds (at_ o b), 0 ≤ x ∧ x < (n : Int)) (hl : ∀ b, b < o.length → (rd_L1 preds (at_ o b)).length ≤ 1000000) (hol : o.length ≤ 1000000)
    (hO : Ot o n 1 (fun _ => 0) (List.replicate n (-1))) : ∃ k r, graph_Idom.l2 k o num (List.replicate n (-1)) preds true = some r ∧ Rest o n num preds Dm r := by
  have hp := H.pos
  obtain ⟨k, r, hk, hq⟩ := chk_first H hN hpl G hrow hl hol (Rest o n num preds Dm) (o.length - 1) 1 (fun _ => 0) (List.replicate n (-1)) false (by omega) (by omega) (fun h => by omega) (Fst.start _ _ _) hO (fun par' out' chg' hS' hO' hc => by
    cases chg' with
    | true => exact chk_rest H hN hpl G hrow hl hol (sumP par' o.length + 1) par' out' (by omega) hS'.swp hO'
    | false =>
      have h1 : ¬ 1 < o.length := fun h => by cases hc h
      exact ⟨1, out', by rw [graph_Idom.l2, if_neg (by decide)], par', hS'.swp, hO', fun u h0 hu => by omega⟩)
  obtain ⟨k2, hk2⟩ := l2_true H hol _ r ⟨k, hk⟩
  exact ⟨k2, r, hk2, hq⟩
end
end Go.Proofs.Ytnmeomdjhjgnfaa.X
end
