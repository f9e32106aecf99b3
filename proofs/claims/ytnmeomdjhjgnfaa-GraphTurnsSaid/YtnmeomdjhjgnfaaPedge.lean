/- Plain: edges, Preds' rows, what Made makes. -/
import Derived.Test.YtnmeomdjhjgnfaaX5
import Derived.Test.YtnmeomdjhjgnfaaX17
import Derived.Test.YtnmeomdjhjgnfaaGpreds
set_option linter.unusedSimpArgs false
set_option linter.unusedVariables false
namespace Go.Proofs.Ytnmeomdjhjgnfaa.X
open Go.RowKit Go.Proofs.YtnmeomdjhjgnfaaW.PrintWords Go.Proofs.YtnmeomdjhjgnfaaW.PrintLast Go.Proofs.YtnmeomdjhjgnfaaW.PrintMore

/-- More rounds tell the same. -/
theorem up {α : Type} {f : Nat → Option α} (h : ∀ k, LeO (f k) (f (k + 1))) {k m : Nat} (hm : k ≤ m) {r : α} (hr : f k = some r) : f m = some r := by
  obtain ⟨d, rfl⟩ := Nat.exists_eq_add_of_le hm
  clear hm
  induction d with
  | zero => exact hr
  | succ d ih => exact h (k + d) r ih
theorem w64 {x : Int} (h0 : -9223372036854775808 ≤ x) (h1 : x ≤ 9223372036854775807) : wrap64 x = x := by unfold wrap64; omega

/-! ### an edge -/
def eB (g : List (List Int)) (a b : Int) : Bool := decide (0 ≤ a ∧ a < g.length ∧ 0 ≤ b ∧ b < g.length) && (rd_L1 g a).contains b
theorem edge_l0 (g : List (List Int)) (a b : Int) (ha : 0 ≤ a ∧ a < g.length) (hl : (rd_L1 g a).length ≤ 1000000) : ∀ (d : Nat) (i : Nat), i + d = (rd_L1 g a).length →
    jacquardref02_Edge.l0 (d + 1) g a b i = some (((rd_L1 g a).drop i).contains b) := by
  intro d
  induction d with
  | zero =>
    intro i hi
    rw [jacquardref02_Edge.l0, if_pos ha.1, if_pos ha.2, if_neg (by omega), List.drop_of_length_le (by omega)]
    rfl
  | succ d ih =>
    intro i hi
    have hlt : i < (rd_L1 g a).length := by omega
    have hrd : rd (rd_L1 g a) i = (rd_L1 g a)[i] := by simp [rd, hlt]
    rw [jacquardref02_Edge.l0, if_pos ha.1, if_pos ha.2, if_pos (by omega), if_pos (by omega), hrd, List.drop_eq_getElem_cons hlt]
    by_cases he : (rd_L1 g a)[i] = b
    · rw [if_pos he]; simp [he]
    · rw [if_neg he, w64 (by omega) (by omega), show ((i : Int) + 1) = ((i + 1 : Nat) : Int) from by omega, ih (i + 1) (by omega)]
      have : (b == (rd_L1 g a)[i]) = false := by simpa using fun h : b = _ => he h.symm
      rw [List.contains_cons, this, Bool.false_or]
theorem edge_some (g : List (List Int)) (hg : okG g = true) (a b : Int) {k : Nat} (hk : 1000003 ≤ k) : jacquardref02_Edge.f k g a b = some (eB g a b) := by
  obtain ⟨k, rfl⟩ := Nat.exists_eq_add_of_le hk
  have e : 1000003 + k = (1000002 + k) + 1 := by omega
  unfold jacquardref02_Edge.f
  rw [e]
  have no : ∀ {x : Bool}, x = true → (¬ (0 ≤ a ∧ a < (g.length : Int) ∧ 0 ≤ b ∧ b < (g.length : Int))) → jacquardref02_Edge.j0 (1000002 + k + 1) g a b x = some (eB g a b) := by
    intro x hx hn
    rw [jacquardref02_Edge.j0, if_pos hx]
    unfold eB
    rw [decide_eq_false hn, Bool.false_and]
  by_cases h0 : a < 0
  · rw [if_pos h0]; exact no rfl (by omega)
  · rw [if_neg h0]
    by_cases h1 : a ≥ (g.length : Int)
    · rw [if_pos h1]; exact no rfl (by omega)
    · rw [if_neg h1]
      by_cases h2 : b < 0
      · rw [if_pos h2]; exact no rfl (by omega)
      · rw [if_neg h2]
        by_cases h3 : b ≥ (g.length : Int)
        · exact no (decide_eq_true h3) (by omega)
        · rw [decide_eq_false h3, jacquardref02_Edge.j0, if_neg (by decide)]
          have hl : (rd_L1 g a).length ≤ 1000000 := by
            have : rd_L1 g a = g[a.toNat]'(by omega) := by
              unfold rd_L1
              rw [List.getD_eq_getElem?_getD, List.getElem?_eq_getElem (by omega)]; rfl
            rw [this]
            exact (okG_len hg).2 _ (List.getElem_mem _)
          have h := edge_l0 g a b (by omega) hl (rd_L1 g a).length 0 (by omega)
          have h2 := up (f := fun k => jacquardref02_Edge.l0 k g a b ((0 : Nat) : Int)) (fun k => (jacquardref02_Edge.mono_l k).2 _ _ _ _) (m := 1000002 + k) (by omega) h
          have h3 : jacquardref02_Edge.l0 (1000002 + k) g a b 0 = some (((rd_L1 g a).drop 0).contains b) := h2
          rw [h3]
          unfold eB
          rw [decide_eq_true (by omega), Bool.true_and, List.drop_zero]
theorem eB_iff {g : List (List Int)} {a b : Int} : eB g a b = true ↔ 0 ≤ a ∧ a < g.length ∧ 0 ≤ b ∧ b < g.length ∧ b ∈ rd_L1 g a := by
  unfold eB
  rw [Bool.and_eq_true, decide_eq_true_eq, List.contains_iff_mem]
  constructor
  · rintro ⟨⟨h1, h2, h3, h4⟩, h5⟩; exact ⟨h1, h2, h3, h4, h5⟩
  · rintro ⟨h1, h2, h3, h4, h5⟩; exact ⟨⟨h1, h2, h3, h4⟩, h5⟩
theorem eB_eq {g g' : List (List Int)} {a b a' b' : Int} (h : eB g a b = true ↔ eB g' a' b' = true) : eB g a b = eB g' a' b' := by
  rw [Bool.eq_iff_iff]; exact h

/-! ### the edges' list -/
theorem mem_edgesFrom (rows : List (List Int)) : ∀ (i : Nat) (e : Int × Int), e ∈ edgesFrom i rows ↔ ∃ j : Nat, j < rows.length ∧ e.1 = ((i + j : Nat) : Int) ∧ e.2 ∈ rd_L1 rows j := by
  induction rows with
  | nil => intro i e; simp [edgesFrom]
  | cons r rows ih =>
    intro i e
    simp only [edgesFrom, List.mem_append, List.mem_map, ih, List.length_cons]
    constructor
    · rintro (⟨b, hb, rfl⟩ | ⟨j, hj, h1, h2⟩)
      · exact ⟨0, by omega, by simp, by simpa [rd_L1] using hb⟩
      · refine ⟨j + 1, by omega, by omega, ?_⟩
        simpa [rd_L1] using h2
    · rintro ⟨j, hj, h1, h2⟩
      cases j with
      | zero => exact .inl ⟨e.2, by simpa [rd_L1] using h2, by rw [Prod.ext_iff]; exact ⟨by simpa using h1.symm, rfl⟩⟩
      | succ j => exact .inr ⟨j, by omega, by omega, by simpa [rd_L1] using h2⟩
theorem rd_clean (g : List (List Int)) (j : Nat) (h : j < g.length) : rd_L1 (cleanL g) j = keptL (rd_L1 g j) g.length := by
  simp [rd_L1, cleanL, h]
theorem mem_edgesL (g : List (List Int)) (a b : Int) : (a, b) ∈ edgesL g ↔ eB g a b = true := by
  unfold edgesL
  rw [mem_edgesFrom, eB_iff]
  constructor
  · rintro ⟨j, hj, h1, h2⟩
    rw [cleanL_length] at hj
    rw [rd_clean g j hj, mem_keptL] at h2
    simp only [Nat.zero_add] at h1
    subst h1
    exact ⟨by omega, by omega, h2.2.1, h2.2.2, h2.1⟩
  · rintro ⟨h1, h2, h3, h4, h5⟩
    obtain ⟨j, rfl⟩ := Int.eq_ofNat_of_zero_le h1
    refine ⟨j, by rw [cleanL_length]; omega, by simp, ?_⟩
    rw [rd_clean g j (by omega), mem_keptL]
    exact ⟨h5, h3, h4⟩

/-! ### Preds' rows -/
theorem preds_row (es : List (Int × Int)) : ∀ (rows : List (List Int)) (b : Nat), b < rows.length → (∀ e ∈ es, 0 ≤ e.2) →
    (es.foldl predStep rows).getD b [] = rows.getD b [] ++ (es.filter fun e => e.2 == (b : Int)).map (·.1) := by
  induction es with
  | nil => intro rows b _ _; simp
  | cons e es ih =>
    intro rows b hb he
    rw [List.foldl_cons, ih _ b (by simpa [predStep] using hb) (fun e' h => he e' (List.mem_cons_of_mem _ h))]
    have h0 := he e List.mem_cons_self
    by_cases h : e.2 = b
    · have h2 : e.2.toNat = b := by omega
      simp only [predStep, List.filter_cons, h, beq_self_eq_true, if_true, List.map_cons, Int.toNat_natCast]
      rw [List.getD_eq_getElem?_getD, List.getElem?_set_self (by omega)]
      simp
    · have h2 : e.2.toNat ≠ b := by omega
      have h3 : (e.2 == (b : Int)) = false := by simpa using h
      simp only [predStep, List.filter_cons, h3]
      rw [List.getD_eq_getElem?_getD, List.getElem?_set_ne (by omega), ← List.getD_eq_getElem?_getD]
      simp
theorem rd_preds (g : List (List Int)) (b : Nat) (hb : b < g.length) : rd_L1 (predsL g) b = ((edgesL g).filter fun e => e.2 == (b : Int)).map (·.1) := by
  have := preds_row (edgesL g) (List.replicate g.length []) b (by simpa using hb) (fun e he => ((eB_iff.1 ((mem_edgesL g e.1 e.2).1 he)).2.2.1))
  unfold rd_L1 predsL
  rw [Int.toNat_natCast, this]
  simp [List.getD_eq_getElem?_getD, List.getElem?_replicate, hb]
theorem predsL_len (g : List (List Int)) : (predsL g).length = g.length := by
  have key : ∀ (es : List (Int × Int)) (rows : List (List Int)), (es.foldl predStep rows).length = rows.length := by
    intro es
    induction es with
    | nil => intro rows; rfl
    | cons e es ih => intro rows; rw [List.foldl_cons, ih]; simp [predStep]
  unfold predsL; rw [key]; simp
theorem mem_preds (g : List (List Int)) (a b : Int) (hb : 0 ≤ b ∧ b < g.length) : a ∈ rd_L1 (predsL g) b ↔ eB g a b = true := by
  obtain ⟨j, rfl⟩ := Int.eq_ofNat_of_zero_le hb.1
  rw [rd_preds g j (by omega), List.mem_map, ← mem_edgesL]
  constructor
  · rintro ⟨e, he, rfl⟩
    obtain ⟨h1, h2⟩ := List.mem_filter.1 he
    have h3 : e.2 = (j : Int) := by simpa using h2
    rw [← h3]; exact h1
  · intro h
    exact ⟨(a, (j : Int)), List.mem_filter.2 ⟨h, by simp⟩, rfl⟩
theorem eB_preds (g : List (List Int)) (a b : Int) : eB (predsL g) b a = eB g a b := by
  refine eB_eq ?_
  rw [eB_iff, predsL_len]
  constructor
  · rintro ⟨h1, h2, h3, h4, h5⟩
    exact (mem_preds g a b ⟨h1, h2⟩).1 h5
  · intro h
    obtain ⟨h1, h2, h3, h4, _⟩ := eB_iff.1 h
    exact ⟨h3, h4, h1, h2, (mem_preds g a b ⟨h3, h4⟩).2 h⟩
theorem okG_preds (g : List (List Int)) (hn : g.length ≤ 1000) : okG (predsL g) = true := by
  unfold okG
  rw [predsL_len, Bool.and_eq_true, decide_eq_true_eq, List.all_eq_true]
  refine ⟨by omega, fun r hr => decide_eq_true ?_⟩
  have h1 := preds_len (edgesL g) (List.replicate g.length []) 0 (fun r hr => by rw [List.eq_of_mem_replicate hr]; simp) r (.inr hr)
  have h2 := edgesL_length g
  have h3 : g.length * g.length ≤ 1000 * 1000 := Nat.mul_le_mul hn hn
  omega
theorem Preds_some (g : List (List Int)) (hg : okG g = true) : graph_Preds.f g = some (predsL g) := by unfold graph_Preds.f; rw [if_pos hg]

/-! ### a graph of plain numbers -/
structure MadeG (g : List (List Int)) : Prop where
  pos : 1 ≤ g.length
  few : g.length ≤ 10
  rows : ∀ r ∈ g, r.length ≤ 3 ∧ ∀ b ∈ r, 0 ≤ b ∧ b < g.length
theorem MadeG.ok {g : List (List Int)} (h : MadeG g) : okG g = true := by
  unfold okG
  rw [Bool.and_eq_true, decide_eq_true_eq, List.all_eq_true]
  exact ⟨by have := h.few; omega, fun r hr => decide_eq_true (by have := (h.rows r hr).1; omega)⟩
theorem made_l1 (s : List Int) (n : Int) (hs : s.length ≤ 17592186044416) (h1 : 1 ≤ n) (h2 : n ≤ 10) (x4 : List (List Int)) (x5 : Int) (h5 : 0 ≤ x5 ∧ x5 < n) (hx4 : x4.length ≤ 10) (P : List (List Int) → Prop)
    (H : ∀ row : List Int, row.length ≤ 3 → (∀ b ∈ row, 0 ≤ b ∧ b < n) → ∃ k r, jacquardref02_Made.l0 k s n (x4 ++ [row]) (x5 + 1) = some r ∧ P r) :
    ∀ (e : Nat) (x6 : List Int) (x7 : Int), 0 ≤ x7 → x7 + e = 4 → x6.length + 1 ≤ x7 → (∀ b ∈ x6, 0 ≤ b ∧ b < n) → ∃ k r, jacquardref02_Made.l1 k s n x4 x5 x6 x7 = some r ∧ P r := by
  intro e
  induction e with
  | zero =>
    intro x6 x7 h7 he hl hb
    obtain ⟨k, r, hr, hP⟩ := H x6 (by omega) hb
    refine ⟨k + 1, r, ?_, hP⟩
    rw [jacquardref02_Made.l1, if_neg (by omega), if_pos (by omega), w64 (by omega) (by omega)]
    exact hr
  | succ e ih =>
    intro x6 x7 h7 he hl hb
    have e1 : wrap64 (wrap64 (3 * x5) + x7) = 3 * x5 + x7 := by rw [w64 (x := 3 * x5) (by omega) (by omega), w64 (by omega) (by omega)]
    have e2 : wrap64 (n + 3) = n + 3 := w64 (by omega) (by omega)
    have e3 : wrap64 (x7 + 1) = x7 + 1 := w64 (by omega) (by omega)
    by_cases ha : 3 * x5 + x7 < (s.length : Int)
    · have hm1 := Int.tmod_lt_of_pos (rd s (3 * x5 + x7)) (show 0 < n + 3 by omega)
      have hm2 := Int.lt_tmod_of_pos (rd s (3 * x5 + x7)) (show 0 < n + 3 by omega)
      have e4 : wrap64 (Int.tmod (rd s (3 * x5 + x7)) (n + 3) + n) = Int.tmod (rd s (3 * x5 + x7)) (n + 3) + n := w64 (by omega) (by omega)
      have e5 : wrap64 (Int.tmod (rd s (3 * x5 + x7)) (n + 3) + n + 3) = Int.tmod (rd s (3 * x5 + x7)) (n + 3) + n + 3 := w64 (by omega) (by omega)
      have hy0 : 0 ≤ Int.tmod (Int.tmod (rd s (3 * x5 + x7)) (n + 3) + n + 3) (n + 3) := Int.tmod_nonneg _ (by omega)
      by_cases hy : Int.tmod (Int.tmod (rd s (3 * x5 + x7)) (n + 3) + n + 3) (n + 3) < n
      · obtain ⟨k, r, hr, hP⟩ := ih (x6 ++ [Int.tmod (Int.tmod (rd s (3 * x5 + x7)) (n + 3) + n + 3) (n + 3)]) (x7 + 1) (by omega) (by omega) (by rw [List.length_append]; simp; omega) (fun b hb' => by
          rcases List.mem_append.1 hb' with h | h
          · exact hb b h
          · rw [List.mem_singleton.1 h]; exact ⟨hy0, hy⟩)
        refine ⟨k + 1, r, ?_, hP⟩
        rw [jacquardref02_Made.l1, if_pos (by omega), e1, e2, if_pos ha, if_pos (by omega), if_neg (by omega), e4, e5, if_pos hy, if_pos (by omega), e3]
        exact hr
      · obtain ⟨k, r, hr, hP⟩ := ih x6 (x7 + 1) (by omega) (by omega) (by omega) hb
        refine ⟨k + 1, r, ?_, hP⟩
        rw [jacquardref02_Made.l1, if_pos (by omega), e1, e2, if_pos ha, if_pos (by omega), if_neg (by omega), e4, e5, if_neg hy, e3]
        exact hr
    · obtain ⟨k, r, hr, hP⟩ := ih x6 (x7 + 1) (by omega) (by omega) (by omega) hb
      refine ⟨k + 1, r, ?_, hP⟩
      rw [jacquardref02_Made.l1, if_pos (by omega), e1, if_neg ha, e3]
      exact hr
theorem made_l0 (s : List Int) (n : Int) (hs : s.length ≤ 17592186044416) (h1 : 1 ≤ n) (h2 : n ≤ 10) : ∀ (d : Nat) (x4 : List (List Int)) (x5 : Int), x5 + d = n → (x4.length : Int) = x5 → (∀ r ∈ x4, r.length ≤ 3 ∧ ∀ b ∈ r, 0 ≤ b ∧ b < n) →
    ∃ k r, jacquardref02_Made.l0 k s n x4 x5 = some r ∧ (r.length : Int) = n ∧ ∀ row ∈ r, row.length ≤ 3 ∧ ∀ b ∈ row, 0 ≤ b ∧ b < n := by
  intro d
  induction d with
  | zero =>
    intro x4 x5 h h4 hr
    exact ⟨1, x4, by rw [jacquardref02_Made.l0, if_neg (by omega)], by omega, hr⟩
  | succ d ih =>
    intro x4 x5 h h4 hr
    obtain ⟨k, r, hk, hP⟩ := made_l1 s n hs h1 h2 x4 x5 (by omega) (by omega) (fun r => (r.length : Int) = n ∧ ∀ row ∈ r, row.length ≤ 3 ∧ ∀ b ∈ row, 0 ≤ b ∧ b < n) (fun row hl hb =>
      ih (x4 ++ [row]) (x5 + 1) (by omega) (by rw [List.length_append]; simp; omega) (fun r' hr' => by
        rcases List.mem_append.1 hr' with h | h
        · exact hr r' h
        · rw [List.mem_singleton.1 h]; exact ⟨hl, hb⟩)) 3 [] 1 (by omega) (by omega) (by simp) (fun b hb => by cases hb)
    exact ⟨k + 1, r, by rw [jacquardref02_Made.l0, if_pos (by omega)]; exact hk, hP⟩
theorem made_some (s : List Int) (hs : s.length * 8 ≤ 140737488351232) : ∃ k g, jacquardref02_Made.f k s = some g ∧ MadeG g := by
  have key : ∀ n : Int, 1 ≤ n → n ≤ 10 → ∃ k g, jacquardref02_Made.j0 k s n = some g ∧ MadeG g := by
    intro n h1 h2
    obtain ⟨k, r, hk, hl, hr⟩ := made_l0 s n (by omega) h1 h2 n.toNat [] 0 (by omega) rfl (fun r hr => by cases hr)
    exact ⟨k + 1, r, by rw [jacquardref02_Made.j0]; exact hk, ⟨by omega, by omega, fun row h => by rw [hl]; exact hr row h⟩⟩
  by_cases h : (s.length : Int) > 0
  · have hm1 := Int.tmod_lt_of_pos (rd s 0) (show (0 : Int) < 10 by omega)
    have hm2 := Int.lt_tmod_of_pos (rd s 0) (show (0 : Int) < 10 by omega)
    have e4 : wrap64 (Int.tmod (rd s 0) 10 + 10) = Int.tmod (rd s 0) 10 + 10 := w64 (by omega) (by omega)
    have hy0 : 0 ≤ Int.tmod (Int.tmod (rd s 0) 10 + 10) 10 := Int.tmod_nonneg _ (by omega)
    have hy1 := Int.tmod_lt_of_pos (Int.tmod (rd s 0) 10 + 10) (show (0 : Int) < 10 by omega)
    obtain ⟨k, g, hk, hg⟩ := key (wrap64 (1 + Int.tmod (Int.tmod (rd s 0) 10 + 10) 10)) (by rw [w64 (by omega) (by omega)]; omega) (by rw [w64 (by omega) (by omega)]; omega)
    refine ⟨k, g, ?_, hg⟩
    unfold jacquardref02_Made.f
    rw [if_pos h, if_pos (by omega), e4]
    exact hk
  · obtain ⟨k, g, hk, hg⟩ := key 1 (by omega) (by omega)
    refine ⟨k, g, ?_, hg⟩
    unfold jacquardref02_Made.f
    rw [if_neg h]
    exact hk
end Go.Proofs.Ytnmeomdjhjgnfaa.X
