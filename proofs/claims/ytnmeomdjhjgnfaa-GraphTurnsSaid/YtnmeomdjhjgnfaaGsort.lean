/- slices.Sort, Compact and Reverse of a row of numbers of the call's own, in the print's words; what Sort and Compact make of a row of blocks. -/
import Derived.Test.YtnmeomdjhjgnfaaGspec
import Derived.Test.YtnmeomdjhjgnfaaShelf
import Derived.Sort.OwnSortedInts
set_option linter.unusedSimpArgs false
namespace Go.Proofs.Ytnmeomdjhjgnfaa.X
open Go.RowKit Go.Sort Go.Proofs.YtnmeomdjhjgnfaaW.PrintWords Go.Proofs.YtnmeomdjhjgnfaaW.PrintLast Go.Proofs.YtnmeomdjhjgnfaaW.PrintMore
set_option linter.unusedVariables false

theorem i1 : ∀ x, (Value.int IntKind.i64 x).oneCell' = true := fun _ => rfl
theorem encs_eq (xs : List Int) : encs (Value.int .i64) xs = xs.map (Value.int .i64) := rfl

/-- The row behind a contract of the sort's kind. -/
theorem R_put_row {w : World} {base g cap : Nat} {ok : Nat → Prop} {xs ts : List Int} (h : (Kd.int .i64).R 3 w base ok (.slice (some ⟨g, 0, none⟩) xs.length cap) xs) (hl : ts.length = xs.length) (n : Nat) (os : Array Obj) :
    (Kd.int .i64).R 3 (grow (putRow (Value.int .i64) (Sort.ahead w n) g 0 ts.toArray) os) base ok (.slice (some ⟨g, 0, none⟩) xs.length cap) ts ∧
    w.grownBy (grow (putRow (Value.int .i64) (Sort.ahead w n) g 0 ts.toArray) os) (some g) := by
  refine ⟨?_, grownBy_sortedI _⟩
  have ho := Kd.own_of_R (h1 := i1) h
  rcases ho.2 with ⟨hv, _⟩ | ⟨g', cap', cur, hv, hb, hc, hn, hm, hs, _⟩
  · cases hv
  · cases hv
    have := ownsRow_sortedI (n := n) (os := os) hl hb hc hn hm hs
    have h2 : ((grow (putRow (Value.int .i64) (Sort.ahead w n) g 0 ts.toArray) os)).ownsRow base 3 1 (.slice (some ⟨g, 0, none⟩) xs.length cap) ts.length (encs (Value.int .i64) ts) := by
      rw [encs_eq, hl]; exact this
    exact Kd.R_of_own h2 h.1

theorem R_holds {w : World} {base g cap : Nat} {ok : Nat → Prop} {xs : List Int} (h : (Kd.int .i64).R 3 w base ok (.slice (some ⟨g, 0, none⟩) xs.length cap) xs) :
    Holds (Value.int .i64) w g 0 xs.toArray ∧ g < w.heap.size ∧ xs.length ≤ cap := by
  have ho := Kd.own_of_R (h1 := i1) h
  rcases ho.2 with ⟨hv, _⟩ | ⟨g', cap', cur, hv, hb, hc, hn, hm, hs, ht⟩
  · cases hv
  · cases hv
    exact ⟨holds_of_blockI hc (by rw [encs_eq] at ht; simpa using ht), (Array.getElem?_eq_some_iff.1 hc).1, hn⟩

/-- A row of one's own is nil and empty, or it begins at its block's head. -/
theorem R_cases {w : World} {base : Nat} {ok : Nat → Prop} {v : Value} {xs : List Int} (h : (Kd.int .i64).R 3 w base ok v xs) : (v = .slice none 0 0 ∧ xs = []) ∨ ∃ g cap, v = .slice (some ⟨g, 0, none⟩) xs.length cap := by
  have ho := Kd.own_of_R (h1 := i1) h
  rcases ho.2 with ⟨hv, hn⟩ | ⟨g', cap', cur, hv, _⟩
  · exact .inl ⟨hv, List.length_eq_zero_iff.1 hn⟩
  · exact .inr ⟨g', cap', hv⟩

theorem isort_length (xs : List Int) : (isort xs).length = xs.length := by
  have : ∀ x l, (ins1 x l).length = l.length + 1 := by
    intro x l
    induction l with
    | nil => rfl
    | cons y t ih => unfold ins1; split <;> simp [ih]
  induction xs with
  | nil => rfl
  | cons x t ih => simp [isort, this, ih]
theorem ins1_perm (x : Int) (l : List Int) : (ins1 x l).Perm (x :: l) := by
  induction l with
  | nil => exact .refl _
  | cons y t ih =>
    unfold ins1
    split
    · exact .refl _
    · exact (List.Perm.cons y ih).trans (.swap x y t)
theorem isort_perm (l : List Int) : (isort l).Perm l := by
  induction l with
  | nil => exact .refl _
  | cons x t ih => exact (ins1_perm x _).trans (.cons x ih)
theorem ins1_sorted (x : Int) (l : List Int) (h : l.Pairwise (· ≤ ·)) : (ins1 x l).Pairwise (· ≤ ·) := by
  induction l with
  | nil => simp [ins1]
  | cons y t ih =>
    unfold ins1
    split
    · rename_i hxy
      refine List.pairwise_cons.2 ⟨?_, h⟩
      intro z hz
      rcases List.mem_cons.1 hz with rfl | hz
      · exact hxy
      · exact Int.le_trans hxy ((List.pairwise_cons.1 h).1 z hz)
    · rename_i hxy
      refine List.pairwise_cons.2 ⟨?_, ih (List.pairwise_cons.1 h).2⟩
      intro z hz
      rcases List.mem_cons.1 ((ins1_perm x t).mem_iff.1 hz) with rfl | hz
      · omega
      · exact (List.pairwise_cons.1 h).1 z hz
theorem isort_sorted (l : List Int) : (isort l).Pairwise (· ≤ ·) := by
  induction l with
  | nil => exact .nil
  | cons x t ih => exact ins1_sorted x _ ih
theorem mergeSort_eq (l : List Int) : (l.mergeSort fun x y => decide (x ≤ y)) = isort l := by
  have h1 : (l.mergeSort fun x y => decide (x ≤ y)).Pairwise (· ≤ ·) := by
    have := List.pairwise_mergeSort (le := fun x y : Int => decide (x ≤ y)) (by intro a b c; simp; omega) (by intro a b; simp; omega) l
    simpa using this
  have hp : (l.mergeSort fun x y => decide (x ≤ y)).Perm (isort l) := (List.mergeSort_perm l _).trans (isort_perm l).symm
  exact hp.eq_of_pairwise (le := (· ≤ ·)) (fun a b _ _ h h' => Int.le_antisymm h h') h1 (isort_sorted l)

/-- slices.Sort of a row of the call's own. -/
theorem sort_R {w : World} {base : Nat} {ok : Nat → Prop} {v : Value} {xs : List Int} (h : (Kd.int .i64).R 3 w base ok v xs) (hlen : xs.length ≤ 100000000) :
    Calls Try.prog 85 #[v] w fun e w' => e = .returned (.tuple #[]) ∧ (Kd.int .i64).R 3 w' base ok v (isort xs) ∧ w.grownBy w' v.ownBlock := by
  rcases R_cases h with ⟨rfl, rfl⟩ | ⟨g, cap, rfl⟩
  · refine (Try.slices_Sort_int_none none 0 w).mono ?_
    rintro e w' ⟨rfl, rfl⟩
    exact ⟨rfl, h, ⟨rfl, rfl, rfl, Nat.le_refl _, fun _ _ _ => rfl⟩⟩
  · obtain ⟨hh, hg, hc⟩ := R_holds h
    refine (Try.slices_Sort_int g 0 cap xs w hh hg (by omega)).mono ?_
    rintro e w' ⟨rfl, n, os, rfl⟩
    rw [mergeSort_eq]
    have := R_put_row h (isort_length xs) n os
    exact ⟨rfl, this.1, this.2⟩

/-- slices.Reverse of a row of the call's own. -/
theorem reverse_R {w : World} {base : Nat} {ok : Nat → Prop} {v : Value} {xs : List Int} (h : (Kd.int .i64).R 3 w base ok v xs) (hlen : xs.length ≤ 100000000) :
    Calls Try.prog 71 #[v] w fun e w' => e = .returned (.tuple #[]) ∧ (Kd.int .i64).R 3 w' base ok v xs.reverse ∧ w.grownBy w' v.ownBlock := by
  rcases R_cases h with ⟨rfl, rfl⟩ | ⟨g, cap, rfl⟩
  · refine (Try.slices_Reverse_int_empty none 0 w).mono ?_
    rintro e w' ⟨rfl, rfl⟩
    exact ⟨rfl, h, ⟨rfl, rfl, rfl, Nat.le_refl _, fun _ _ _ => rfl⟩⟩
  · obtain ⟨hh, hg, hc⟩ := R_holds h
    refine (Try.slices_Reverse_int g 0 cap xs w hh (by omega)).mono ?_
    rintro e w' ⟨rfl, n, rfl⟩
    have := R_put_row h (show xs.reverse.length = xs.length by simp) n #[]
    rw [grow_empty] at this
    exact ⟨rfl, this.1, this.2⟩

theorem compact_le (zs : List Int) : (Lib.compact zs).length ≤ zs.length := by
  unfold Lib.compact Lib.compactUpTo
  rw [List.length_map]
  exact Nat.le_trans (List.length_filter_le _ _) (by simp)

/-- slices.Compact of a row of the call's own. -/
theorem compact_R {w : World} {base : Nat} {ok : Nat → Prop} {v : Value} {xs : List Int} (h : (Kd.int .i64).R 3 w base ok v xs) (hlen : xs.length ≤ 100000000) :
    Calls Try.prog 86 #[v] w fun e w' => ∃ v' : Value, e = .returned v' ∧ (Kd.int .i64).R 3 w' base ok v' (Lib.compact xs) ∧ w.grownBy w' v.ownBlock := by
  rcases R_cases h with ⟨rfl, rfl⟩ | ⟨g, cap, rfl⟩
  · refine (Try.slices_Compact_int_empty none 0 w).mono ?_
    rintro e w' ⟨rfl, rfl⟩
    exact ⟨_, rfl, h, ⟨rfl, rfl, rfl, Nat.le_refl _, fun _ _ _ => rfl⟩⟩
  · obtain ⟨hh, hg, hc⟩ := R_holds h
    refine (Try.slices_Compact_int g 0 cap xs w hh (by omega) hc).mono ?_
    rintro e w' ⟨rfl, n, rfl⟩
    have hle := compact_le xs
    have := R_put_row (ts := Lib.compact xs ++ List.replicate (xs.length - (Lib.compact xs).length) 0) h (by simp; omega) n #[]
    rw [grow_empty] at this
    refine ⟨_, rfl, ?_, this.2⟩
    have h2 := this.1
    have e1 : xs.length = (Lib.compact xs ++ List.replicate (xs.length - (Lib.compact xs).length) 0).length := by simp; omega
    rw [e1] at h2
    have h3 := Kd.R_take (m := (Lib.compact xs).length) h2 (by simp)
    simpa using h3
theorem strict_eq {l1 l2 : List Int} (h1 : l1.Pairwise (· < ·)) (h2 : l2.Pairwise (· < ·)) (hm : ∀ x, x ∈ l1 ↔ x ∈ l2) : l1 = l2 := by
  have n1 : l1.Nodup := h1.imp (fun h e => by omega)
  have n2 : l2.Nodup := h2.imp (fun h e => by omega)
  have hp : l1.Perm l2 := (List.perm_ext_iff_of_nodup n1 n2).2 hm
  exact hp.eq_of_pairwise (le := (· < ·)) (fun a b _ _ h h' => by omega) h1 h2

theorem compactUpTo_strict (zs : List Int) (hs : zs.Pairwise (· ≤ ·)) : ∀ m, m ≤ zs.length →
    (Lib.compactUpTo zs.toArray m).Pairwise (· < ·) ∧ (∀ x, x ∈ Lib.compactUpTo zs.toArray m ↔ ∃ j, j < m ∧ zs[j]? = some x) := by
  have hle : ∀ i j, i ≤ j → j < zs.length → zs.toArray[i]! ≤ zs.toArray[j]! := by
    intro i j hij hj
    by_cases e : i = j
    · subst e; exact Int.le_refl _
    · rw [getElem!_pos _ i (by simp; omega), getElem!_pos _ j (by simpa using hj)]
      exact List.pairwise_iff_getElem.1 hs i j (by omega) hj (by omega)
  intro m
  induction m with
  | zero => intro _; simp [Lib.compactUpTo]
  | succ m ih =>
    intro hm
    obtain ⟨hp, hmem⟩ := ih (by omega)
    have hm' : m < zs.length := by omega
    have hget : zs[m]? = some (zs.toArray[m]!) := by
      rw [getElem!_pos _ m (by simpa using hm')]; simp [hm']
    rw [Lib.compactUpTo_succ]
    by_cases hk : Lib.keeps zs.toArray m = true
    · rw [if_pos hk]
      constructor
      · rw [List.pairwise_append]
        refine ⟨hp, by simp, ?_⟩
        intro x hx y hy
        rw [List.mem_singleton] at hy
        subst hy
        obtain ⟨j, hj, hjx⟩ := (hmem x).1 hx
        have hj' : j < zs.length := by omega
        have ex : x = zs.toArray[j]! := by
          rw [getElem!_pos _ j (by simpa using hj')]
          simpa [hj'] using hjx.symm
        unfold Lib.keeps at hk
        have hk := of_decide_eq_true hk
        rcases hk with h0 | hne
        · omega
        · have a1 := hle j (m - 1) (by omega) (by omega)
          have a2 := hle (m - 1) m (by omega) hm'
          have : zs.toArray[m - 1]! ≠ zs.toArray[m]! := fun e => hne e.symm
          rw [ex]; omega
      · intro x
        rw [List.mem_append, hmem, List.mem_singleton]
        constructor
        · rintro (⟨j, hj, hjx⟩ | rfl)
          · exact ⟨j, by omega, hjx⟩
          · exact ⟨m, by omega, hget⟩
        · rintro ⟨j, hj, hjx⟩
          by_cases e : j = m
          · right
            rw [e, hget] at hjx
            exact (Option.some.inj hjx).symm
          · exact .inl ⟨j, by omega, hjx⟩
    · rw [if_neg hk, List.append_nil]
      refine ⟨hp, fun x => ?_⟩
      rw [hmem]
      constructor
      · rintro ⟨j, hj, hjx⟩; exact ⟨j, by omega, hjx⟩
      · rintro ⟨j, hj, hjx⟩
        by_cases e : j = m
        · unfold Lib.keeps at hk
          have hk : ¬ (m = 0 ∨ zs.toArray[m]! ≠ zs.toArray[m - 1]!) := fun h => hk (decide_eq_true h)
          have h0 : m ≠ 0 := fun h => hk (.inl h)
          have he : zs.toArray[m]! = zs.toArray[m - 1]! := Classical.byContradiction fun h => hk (.inr h)
          refine ⟨m - 1, by omega, ?_⟩
          rw [e, hget] at hjx
          rw [← hjx, he, getElem!_pos _ (m - 1) (by simp; omega)]
          simp
        · exact ⟨j, by omega, hjx⟩

theorem keptL_strict (row : List Int) (n : Int) : (keptL row n).Pairwise (· < ·) := by
  unfold keptL
  refine List.Pairwise.filter _ ?_
  rw [List.pairwise_map]
  exact List.pairwise_lt_range.imp (fun h => by omega)
theorem mem_keptL (row : List Int) (n x : Int) : x ∈ keptL row n ↔ x ∈ row ∧ 0 ≤ x ∧ x < n := by
  unfold keptL
  rw [List.mem_filter, List.mem_map, List.contains_iff_mem]
  constructor
  · rintro ⟨⟨a, ha, rfl⟩, hx⟩
    rw [List.mem_range] at ha
    exact ⟨hx, by omega, by omega⟩
  · rintro ⟨hx, h0, h1⟩
    exact ⟨⟨x.toNat, by rw [List.mem_range]; omega, by omega⟩, hx⟩
/-- What sorting and compacting make. -/
theorem kept_of (l row : List Int) (n : Int) (hm : ∀ x, x ∈ l ↔ x ∈ row ∧ 0 ≤ x ∧ x < n) : Lib.compact (isort l) = keptL row n := by
  have h := compactUpTo_strict (isort l) (isort_sorted l) (isort l).length (Nat.le_refl _)
  refine strict_eq h.1 (keptL_strict row n) (fun x => ?_)
  show x ∈ Lib.compactUpTo _ _ ↔ _
  rw [h.2, mem_keptL, ← hm, ← (isort_perm l).mem_iff, List.mem_iff_getElem?]
  constructor
  · rintro ⟨j, _, hj⟩; exact ⟨j, hj⟩
  · rintro ⟨j, hj⟩; exact ⟨j, (List.getElem?_eq_some_iff.1 hj).1, hj⟩
theorem keptL_length (row : List Int) (n : Int) : (keptL row n).length ≤ n.toNat := by
  unfold keptL
  exact Nat.le_trans (List.length_filter_le _ _) (by simp)
end Go.Proofs.Ytnmeomdjhjgnfaa.X
