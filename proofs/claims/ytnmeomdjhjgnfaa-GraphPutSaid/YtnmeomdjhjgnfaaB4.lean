/- Parts of the proof of GraphPut: Pedge, Pchk, Pdomn, Pidf, Pdm, Pup, Pgr, Plaw, Pput, Pdrest, PureGraphPut. -/
import Derived.Test.YtnmeomdjhjgnfaaB1
import Derived.Test.YtnmeomdjhjgnfaaB3
import Derived.Test.YtnmeomdjhjgnfaaB2
section
/-! Plain: edges, Preds' rows, what Made makes. -/
set_option linter.unusedSimpArgs false
set_option linter.unusedVariables false
namespace Go.Proofs.Ytnmeomdjhjgnfaa.X
open Go.RowKit Go.Proofs.YtnmeomdjhjgnfaaW.PrintWords Go.Proofs.YtnmeomdjhjgnfaaW.PrintLast Go.Proofs.YtnmeomdjhjgnfaaW.PrintMore

/-- More rounds tell the same. -/
theorem up {α : Type} {f : Nat → Option α} (h : ∀ k, LeO (f k) (f (k + 1))) {k m : Nat} (hm : k ≤ m) {r : α} (hr : f k = some r) : f m = some r := by
  obtain ⟨d, rfl⟩ := Nat.exists_eq_add_of_le hm
  clear hm
  induction d with
  | zero => exact hr
  | succ d ih => exact h (k + d) r ih
theorem w64 {x : Int} (h0 : -9223372036854775808 ≤ x) (h1 : x ≤ 9223372036854775807) : wrap64 x = x := by unfold wrap64; omega

/-! ### an edge -/
def eB (g : List (List Int)) (a b : Int) : Bool := decide (0 ≤ a ∧ a < g.length ∧ 0 ≤ b ∧ b < g.length) && (rd_L1 g a).contains b
theorem eB_iff {g : List (List Int)} {a b : Int} : eB g a b = true ↔ 0 ≤ a ∧ a < g.length ∧ 0 ≤ b ∧ b < g.length ∧ b ∈ rd_L1 g a := by
  unfold eB
  rw [Bool.and_eq_true, decide_eq_true_eq, List.contains_iff_mem]
  constructor
  · rintro ⟨⟨h1, h2, h3, h4⟩, h5⟩; exact ⟨h1, h2, h3, h4, h5⟩
  · rintro ⟨h1, h2, h3, h4, h5⟩; exact ⟨⟨h1, h2, h3, h4⟩, h5⟩
/-! ### the edges' list -/
theorem mem_edgesFrom (rows : List (List Int)) : ∀ (i : Nat) (e : Int × Int), e ∈ edgesFrom i rows ↔ ∃ j : Nat, j < rows.length ∧ e.1 = ((i + j : Nat) : Int) ∧ e.2 ∈ rd_L1 rows j := by
  induction rows with
  | nil => intro i e; simp [edgesFrom]
  | cons r rows ih =>
    intro i e
    simp only [edgesFrom, List.mem_append, List.mem_map, ih, List.length_cons]
    constructor
    · rintro (⟨b, hb, rfl⟩ | ⟨j, hj, h1, h2⟩)
      · exact ⟨0, by omega, by simp, by simpa [rd_L1] using hb⟩
      · refine ⟨j + 1, by omega, by omega, ?_⟩
        simpa [rd_L1] using h2
    · rintro ⟨j, hj, h1, h2⟩
      cases j with
      | zero => exact .inl ⟨e.2, by simpa [rd_L1] using h2, by rw [Prod.ext_iff]; exact ⟨by simpa using h1.symm, rfl⟩⟩
      | succ j => exact .inr ⟨j, by omega, by omega, by simpa [rd_L1] using h2⟩
theorem rd_clean (g : List (List Int)) (j : Nat) (h : j < g.length) : rd_L1 (cleanL g) j = keptL (rd_L1 g j) g.length := by
  simp [rd_L1, cleanL, h]
theorem mem_edgesL (g : List (List Int)) (a b : Int) : (a, b) ∈ edgesL g ↔ eB g a b = true := by
  unfold edgesL
  rw [mem_edgesFrom, eB_iff]
  constructor
  · rintro ⟨j, hj, h1, h2⟩
    rw [cleanL_length] at hj
    rw [rd_clean g j hj, mem_keptL] at h2
    simp only [Nat.zero_add] at h1
    subst h1
    exact ⟨by omega, by omega, h2.2.1, h2.2.2, h2.1⟩
  · rintro ⟨h1, h2, h3, h4, h5⟩
    obtain ⟨j, rfl⟩ := Int.eq_ofNat_of_zero_le h1
    refine ⟨j, by rw [cleanL_length]; omega, by simp, ?_⟩
    rw [rd_clean g j (by omega), mem_keptL]
    exact ⟨h5, h3, h4⟩

/-! ### Preds' rows -/
theorem preds_row (es : List (Int × Int)) : ∀ (rows : List (List Int)) (b : Nat), b < rows.length → (∀ e ∈ es, 0 ≤ e.2) →
    (es.foldl predStep rows).getD b [] = rows.getD b [] ++ (es.filter fun e => e.2 == (b : Int)).map (·.1) := by
  induction es with
  | nil => intro rows b _ _; simp
  | cons e es ih =>
    intro rows b hb he
    rw [List.foldl_cons, ih _ b (by simpa [predStep] using hb) (fun e' h => he e' (List.mem_cons_of_mem _ h))]
    have h0 := he e List.mem_cons_self
    by_cases h : e.2 = b
    · have h2 : e.2.toNat = b := by omega
      simp only [predStep, List.filter_cons, h, beq_self_eq_true, if_true, List.map_cons, Int.toNat_natCast]
      rw [List.getD_eq_getElem?_getD, List.getElem?_set_self (by omega)]
      simp
    · have h2 : e.2.toNat ≠ b := by omega
      have h3 : (e.2 == (b : Int)) = false := by simpa using h
      simp only [predStep, List.filter_cons, h3]
      rw [List.getD_eq_getElem?_getD, List.getElem?_set_ne (by omega), ← List.getD_eq_getElem?_getD]
      simp
theorem rd_preds (g : List (List Int)) (b : Nat) (hb : b < g.length) : rd_L1 (predsL g) b = ((edgesL g).filter fun e => e.2 == (b : Int)).map (·.1) := by
  have := preds_row (edgesL g) (List.replicate g.length []) b (by simpa using hb) (fun e he => ((eB_iff.1 ((mem_edgesL g e.1 e.2).1 he)).2.2.1))
  unfold rd_L1 predsL
  rw [Int.toNat_natCast, this]
  simp [List.getD_eq_getElem?_getD, List.getElem?_replicate, hb]
theorem predsL_len (g : List (List Int)) : (predsL g).length = g.length := by
  have key : ∀ (es : List (Int × Int)) (rows : List (List Int)), (es.foldl predStep rows).length = rows.length := by
    intro es
    induction es with
    | nil => intro rows; rfl
    | cons e es ih => intro rows; rw [List.foldl_cons, ih]; simp [predStep]
  unfold predsL; rw [key]; simp
theorem mem_preds (g : List (List Int)) (a b : Int) (hb : 0 ≤ b ∧ b < g.length) : a ∈ rd_L1 (predsL g) b ↔ eB g a b = true := by
  obtain ⟨j, rfl⟩ := Int.eq_ofNat_of_zero_le hb.1
  rw [rd_preds g j (by omega), List.mem_map, ← mem_edgesL]
  constructor
  · rintro ⟨e, he, rfl⟩
    obtain ⟨h1, h2⟩ := List.mem_filter.1 he
    have h3 : e.2 = (j : Int) := by simpa using h2
    rw [← h3]; exact h1
  · intro h
    exact ⟨(a, (j : Int)), List.mem_filter.2 ⟨h, by simp⟩, rfl⟩
theorem okG_preds (g : List (List Int)) (hn : g.length ≤ 1000) : okG (predsL g) = true := by
  unfold okG
  rw [predsL_len, Bool.and_eq_true, decide_eq_true_eq, List.all_eq_true]
  refine ⟨by omega, fun r hr => decide_eq_true ?_⟩
  have h1 := preds_len (edgesL g) (List.replicate g.length []) 0 (fun r hr => by rw [List.eq_of_mem_replicate hr]; simp) r (.inr hr)
  have h2 := edgesL_length g
  have h3 : g.length * g.length ≤ 1000 * 1000 := Nat.mul_le_mul hn hn
  omega
theorem Preds_some (g : List (List Int)) (hg : okG g = true) : graph_Preds.f g = some (predsL g) := by unfold graph_Preds.f; rw [if_pos hg]

/-! ### a graph of plain numbers -/
structure MadeG (g : List (List Int)) : Prop where
  pos : 1 ≤ g.length
  few : g.length ≤ 10
  rows : ∀ r ∈ g, r.length ≤ 3 ∧ ∀ b ∈ r, 0 ≤ b ∧ b < g.length
theorem MadeG.ok {g : List (List Int)} (h : MadeG g) : okG g = true := by
  unfold okG
  rw [Bool.and_eq_true, decide_eq_true_eq, List.all_eq_true]
  exact ⟨by have := h.few; omega, fun r hr => decide_eq_true (by have := (h.rows r hr).1; omega)⟩
theorem made_l1 (s : List Int) (n : Int) (hs : s.length ≤ 17592186044416) (h1 : 1 ≤ n) (h2 : n ≤ 10) (x4 : List (List Int)) (x5 : Int) (h5 : 0 ≤ x5 ∧ x5 < n) (hx4 : x4.length ≤ 10) (P : List (List Int) → Prop)
    (H : ∀ row : List Int, row.length ≤ 3 → (∀ b ∈ row, 0 ≤ b ∧ b < n) → ∃ k r, jacquardref02_Made.l0 k s n (x4 ++ [row]) (x5 + 1) = some r ∧ P r) :
    ∀ (e : Nat) (x6 : List Int) (x7 : Int), 0 ≤ x7 → x7 + e = 4 → x6.length + 1 ≤ x7 → (∀ b ∈ x6, 0 ≤ b ∧ b < n) → ∃ k r, jacquardref02_Made.l1 k s n x4 x5 x6 x7 = some r ∧ P r := by
  intro e
  induction e with
  | zero =>
    intro x6 x7 h7 he hl hb
    obtain ⟨k, r, hr, hP⟩ := H x6 (by omega) hb
    refine ⟨k + 1, r, ?_, hP⟩
    rw [jacquardref02_Made.l1, if_neg (by omega), if_pos (by omega), w64 (by omega) (by omega)]
    exact hr
  | succ e ih =>
    intro x6 x7 h7 he hl hb
    have e1 : wrap64 (wrap64 (3 * x5) + x7) = 3 * x5 + x7 := by rw [w64 (x := 3 * x5) (by omega) (by omega), w64 (by omega) (by omega)]
    have e2 : wrap64 (n + 3) = n + 3 := w64 (by omega) (by omega)
    have e3 : wrap64 (x7 + 1) = x7 + 1 := w64 (by omega) (by omega)
    by_cases ha : 3 * x5 + x7 < (s.length : Int)
    · have hm1 := Int.tmod_lt_of_pos (rd s (3 * x5 + x7)) (show 0 < n + 3 by omega)
      have hm2 := Int.lt_tmod_of_pos (rd s (3 * x5 + x7)) (show 0 < n + 3 by omega)
      have e4 : wrap64 (Int.tmod (rd s (3 * x5 + x7)) (n + 3) + n) = Int.tmod (rd s (3 * x5 + x7)) (n + 3) + n := w64 (by omega) (by omega)
      have e5 : wrap64 (Int.tmod (rd s (3 * x5 + x7)) (n + 3) + n + 3) = Int.tmod (rd s (3 * x5 + x7)) (n + 3) + n + 3 := w64 (by omega) (by omega)
      have hy0 : 0 ≤ Int.tmod (Int.tmod (rd s (3 * x5 + x7)) (n + 3) + n + 3) (n + 3) := Int.tmod_nonneg _ (by omega)
      by_cases hy : Int.tmod (Int.tmod (rd s (3 * x5 + x7)) (n + 3) + n + 3) (n + 3) < n
      · obtain ⟨k, r, hr, hP⟩ := ih (x6 ++ [Int.tmod (Int.tmod (rd s (3 * x5 + x7)) (n + 3) + n + 3) (n + 3)]) (x7 + 1) (by omega) (by omega) (by rw [List.length_append]; simp; omega) (fun b hb' => by
          rcases List.mem_append.1 hb' with h | h
          · exact hb b h
          · rw [List.mem_singleton.1 h]; exact ⟨hy0, hy⟩)
        refine ⟨k + 1, r, ?_, hP⟩
        rw [jacquardref02_Made.l1, if_pos (by omega), e1, e2, if_pos ha, if_pos (by omega), if_neg (by omega), e4, e5, if_pos hy, if_pos (by omega), e3]
        exact hr
      · obtain ⟨k, r, hr, hP⟩ := ih x6 (x7 + 1) (by omega) (by omega) (by omega) hb
        refine ⟨k + 1, r, ?_, hP⟩
        rw [jacquardref02_Made.l1, if_pos (by omega), e1, e2, if_pos ha, if_pos (by omega), if_neg (by omega), e4, e5, if_neg hy, e3]
        exact hr
    · obtain ⟨k, r, hr, hP⟩ := ih x6 (x7 + 1) (by omega) (by omega) (by omega) hb
      refine ⟨k + 1, r, ?_, hP⟩
      rw [jacquardref02_Made.l1, if_pos (by omega), e1, if_neg ha, e3]
      exact hr
theorem made_l0 (s : List Int) (n : Int) (hs : s.length ≤ 17592186044416) (h1 : 1 ≤ n) (h2 : n ≤ 10) : ∀ (d : Nat) (x4 : List (List Int)) (x5 : Int), x5 + d = n → (x4.length : Int) = x5 → (∀ r ∈ x4, r.length ≤ 3 ∧ ∀ b ∈ r, 0 ≤ b ∧ b < n) →
    ∃ k r, jacquardref02_Made.l0 k s n x4 x5 = some r ∧ (r.length : Int) = n ∧ ∀ row ∈ r, row.length ≤ 3 ∧ ∀ b ∈ row, 0 ≤ b ∧ b < n := by
  intro d
  induction d with
  | zero =>
    intro x4 x5 h h4 hr
    exact ⟨1, x4, by rw [jacquardref02_Made.l0, if_neg (by omega)], by omega, hr⟩
  | succ d ih =>
    intro x4 x5 h h4 hr
    obtain ⟨k, r, hk, hP⟩ := made_l1 s n hs h1 h2 x4 x5 (by omega) (by omega) (fun r => (r.length : Int) = n ∧ ∀ row ∈ r, row.length ≤ 3 ∧ ∀ b ∈ row, 0 ≤ b ∧ b < n) (fun row hl hb =>
      ih (x4 ++ [row]) (x5 + 1) (by omega) (by rw [List.length_append]; simp; omega) (fun r' hr' => by
        rcases List.mem_append.1 hr' with h | h
        · exact hr r' h
        · rw [List.mem_singleton.1 h]; exact ⟨hl, hb⟩)) 3 [] 1 (by omega) (by omega) (by simp) (fun b hb => by cases hb)
    exact ⟨k + 1, r, by rw [jacquardref02_Made.l0, if_pos (by omega)]; exact hk, hP⟩
theorem made_some (s : List Int) (hs : s.length * 8 ≤ 140737488351232) : ∃ k g, jacquardref02_Made.f k s = some g ∧ MadeG g := by
  have key : ∀ n : Int, 1 ≤ n → n ≤ 10 → ∃ k g, jacquardref02_Made.j0 k s n = some g ∧ MadeG g := by
    intro n h1 h2
    obtain ⟨k, r, hk, hl, hr⟩ := made_l0 s n (by omega) h1 h2 n.toNat [] 0 (by omega) rfl (fun r hr => by cases hr)
    exact ⟨k + 1, r, by rw [jacquardref02_Made.j0]; exact hk, ⟨by omega, by omega, fun row h => by rw [hl]; exact hr row h⟩⟩
  by_cases h : (s.length : Int) > 0
  · have hm1 := Int.tmod_lt_of_pos (rd s 0) (show (0 : Int) < 10 by omega)
    have hm2 := Int.lt_tmod_of_pos (rd s 0) (show (0 : Int) < 10 by omega)
    have e4 : wrap64 (Int.tmod (rd s 0) 10 + 10) = Int.tmod (rd s 0) 10 + 10 := w64 (by omega) (by omega)
    have hy0 : 0 ≤ Int.tmod (Int.tmod (rd s 0) 10 + 10) 10 := Int.tmod_nonneg _ (by omega)
    have hy1 := Int.tmod_lt_of_pos (Int.tmod (rd s 0) 10 + 10) (show (0 : Int) < 10 by omega)
    obtain ⟨k, g, hk, hg⟩ := key (wrap64 (1 + Int.tmod (Int.tmod (rd s 0) 10 + 10) 10)) (by rw [w64 (by omega) (by omega)]; omega) (by rw [w64 (by omega) (by omega)]; omega)
    refine ⟨k, g, ?_, hg⟩
    unfold jacquardref02_Made.f
    rw [if_pos h, if_pos (by omega), e4]
    exact hk
  · obtain ⟨k, g, hk, hg⟩ := key 1 (by omega) (by omega)
    refine ⟨k, g, ?_, hg⟩
    unfold jacquardref02_Made.f
    rw [if_neg h]
    exact hk
end Go.Proofs.Ytnmeomdjhjgnfaa.X
end
section
/-! Plain: graph.Idom's loops over places. -/
set_option linter.unusedVariables false
set_option linter.unusedSimpArgs false
namespace Go.Proofs.Ytnmeomdjhjgnfaa.X
open Go.RowKit Go.Proofs.YtnmeomdjhjgnfaaW.PrintWords Go.Proofs.YtnmeomdjhjgnfaaW.PrintLast Go.Proofs.YtnmeomdjhjgnfaaW.PrintMore

/-- The numbers of the blocks. -/
structure Nm (o : List Int) (n : Nat) (num : List Int) : Prop where
  len : num.length = n
  on : ∀ i, i < o.length → rd num (at_ o i) = i
  off : ∀ x, 0 ≤ x → x < (n : Int) → x ∉ o → rd num x = -1
/-- What the list of parents holds when the places below i have one. -/
structure Ot (o : List Int) (n i : Nat) (par : Nat → Nat) (out : List Int) : Prop where
  len : out.length = n
  on : ∀ j, 0 < j → j < i → rd out (at_ o j) = at_ o (par j)
  root : rd out 0 = -1
  not : ∀ j, i ≤ j → j < o.length → rd out (at_ o j) = -1
  off : ∀ x, 0 ≤ x → x < (n : Int) → x ∉ o → rd out x = -1

theorem chk_common {o : List Int} {n i : Nat} {par : Nat → Nat} {out num : List Int} (hr : ∀ x ∈ o, 0 ≤ x ∧ x < (n : Int)) (hi : i ≤ o.length) (hN : Nm o n num) (hO : Ot o n i par out) (hd : Dn par) : ∀ (K a b : Nat), a < i → b < i → a + b < K →
    graph_common.f K out num (at_ o a) (at_ o b) = some (at_ o (com par K a b))
  | 0, a, b, _, _, h => by omega
  | K + 1, a, b, ha, hb, h => by
    have h1 := hr _ (at_mem (show a < o.length by omega))
    have h2 := hr _ (at_mem (show b < o.length by omega))
    have hl := hN.len
    have hl2 := hO.len
    rw [graph_common.f, if_pos (by omega), hN.on a (by omega), hN.on b (by omega), com]
    by_cases hba : b < a
    · have h3 := hd a (by omega)
      rw [if_pos (by omega), if_pos (by omega), if_pos hba, hO.on a (by omega) ha]
      exact chk_common hr hi hN hO hd K (par a) b (by omega) hb (by omega)
    · rw [if_neg (by omega), if_neg hba]
      by_cases hab : a < b
      · have h3 := hd b (by omega)
        rw [if_pos (by omega), if_pos (by omega), if_pos hab, hO.on b (by omega) hb]
        exact chk_common hr hi hN hO hd K a (par b) ha (by omega) (by omega)
      · rw [if_neg (by omega), if_neg hab]

/-- Has a block a parent (or is it the first)? -/
def hasP (num out : List Int) (x : Int) : Bool := decide (0 ≤ rd num x) && (decide (x = 0) || decide (0 ≤ rd out x))
def encB (o : List Int) : Option Nat → Int
  | none => -1
  | some p => at_ o p
def stepB (num out : List Int) (par : Nat → Nat) (m : Nat) (best : Option Nat) (x : Int) : Option Nat :=
  if hasP num out x = true then some (match best with | none => (rd num x).toNat | some p => com par (2 * m) p (rd num x).toNat) else best
theorem hasP_iff {E : Int → Int → Prop} {o : List Int} {n i : Nat} {par : Nat → Nat} {out num : List Int} (H : Ordd E n o) (hi0 : 0 < i) (hi : i ≤ o.length) (hN : Nm o n num) (hO : Ot o n i par out) (hd : Dn par) (x : Int) (hx : 0 ≤ x ∧ x < (n : Int)) :
    hasP num out x = true ↔ ∃ j, j < i ∧ x = at_ o j := by
  unfold hasP
  rw [Bool.and_eq_true, Bool.or_eq_true, decide_eq_true_eq, decide_eq_true_eq, decide_eq_true_eq]
  constructor
  · rintro ⟨h1, h2⟩
    by_cases hm : x ∈ o
    · obtain ⟨j, hj, rfl⟩ := mem_at hm
      refine ⟨j, ?_, rfl⟩
      rcases Nat.lt_or_ge j i with h | h
      · exact h
      · exfalso
        rcases h2 with h2 | h2
        · have := at_inj H.nodup hj H.pos (h2.trans H.head.symm)
          omega
        · rw [hO.not j h hj] at h2; omega
    · rw [hN.off x hx.1 hx.2 hm] at h1; omega
  · rintro ⟨j, hj, rfl⟩
    refine ⟨by rw [hN.on j (by omega)]; omega, ?_⟩
    rcases Nat.eq_zero_or_pos j with rfl | h0
    · exact .inl H.head
    · have h3 := hd j h0
      exact .inr (by rw [hO.on j h0 hj]; exact (H.rng _ (at_mem (by omega))).1)
def contL (x3 num out : List Int) (preds : List (List Int)) (chg : Bool) (x12 : Int) (x55 : List Int) (x56 x57 : Int) (k : Nat) (x13 : Int) : Option (List Int) :=
  if 0 ≤ x12 then (if x12 < (out.length : Int) then (if rd out x12 = x13 then (graph_Idom.l3 k x3 num out preds chg x55 x56 (wrap64 (x57 + 1))) else (graph_Idom.l3 k x3 num (out.set (x12 : Int).toNat x13) preds true x55 x56 (wrap64 (x57 + 1)))) else (none)) else (none)
theorem up4 (x3 num out : List Int) (preds : List (List Int)) (chg : Bool) (x12 x13 : Int) (x55 : List Int) (x56 x57 : Int) (row : List Int) (x65 x66 : Int) (r : List Int) {k m : Nat} (hm : k ≤ m) (h : graph_Idom.l4 k x3 num out preds chg x12 x13 x55 x56 x57 row x65 x66 = some r) :
    graph_Idom.l4 m x3 num out preds chg x12 x13 x55 x56 x57 row x65 x66 = some r :=
  up (f := fun k => graph_Idom.l4 k x3 num out preds chg x12 x13 x55 x56 x57 row x65 x66) (fun k => (graph_Idom.mono_l k).2.2.2.2.1 _ _ _ _ _ _ _ _ _ _ _ _ _) hm h
theorem chk_l4 {E : Int → Int → Prop} {o : List Int} {n i : Nat} {par : Nat → Nat} {out num : List Int} (H : Ordd E n o) (hi0 : 0 < i) (hi : i ≤ o.length) (hN : Nm o n num) (hO : Ot o n i par out) (hd : Dn par) (x3 : List Int) (preds : List (List Int)) (chg : Bool) (x12 : Int) (x55 : List Int) (x56 x57 : Int) (row : List Int)
    (hrow : ∀ x ∈ row, 0 ≤ x ∧ x < (n : Int)) (hl : row.length ≤ 1000000) (r : List Int) : ∀ (d i66 : Nat) (best : Option Nat), i66 + d = row.length → (∀ p, best = some p → p < i) →
    (∃ k, contL x3 num out preds chg x12 x55 x56 x57 k (encB o ((row.drop i66).foldl (stepB num out par o.length) best)) = some r) →
    ∃ k, graph_Idom.l4 k x3 num out preds chg x12 (encB o best) x55 x56 x57 row row.length i66 = some r := by
  intro d
  induction d with
  | zero =>
    intro i66 best h66 hb hc
    obtain ⟨k, hk⟩ := hc
    rw [List.drop_of_length_le (by omega)] at hk
    refine ⟨k + 1, ?_⟩
    rw [graph_Idom.l4, if_neg (by omega)]
    exact hk
  | succ d ih =>
    intro i66 best h66 hb hc
    have hlt : i66 < row.length := by omega
    have hx : rd row i66 = row[i66] := by simp [rd, hlt]
    have hxr := hrow (rd row i66) (by rw [hx]; exact List.getElem_mem _)
    rw [List.drop_eq_getElem_cons hlt, List.foldl_cons, ← hx] at hc
    have hw : wrap64 ((i66 : Int) + 1) = ((i66 + 1 : Nat) : Int) := by unfold wrap64; omega
    have hnl := hN.len
    have hol := hO.len
    have hiff := hasP_iff H hi0 hi hN hO hd (rd row i66) hxr
    cases hp : hasP num out (rd row i66) with
    | false =>
      rw [show stepB num out par o.length best (rd row i66) = best from by unfold stepB; rw [hp]; rfl] at hc
      obtain ⟨k, hk⟩ := ih (i66 + 1) best (by omega) hb hc
      refine ⟨k + 1 + 1, ?_⟩
      rw [graph_Idom.l4, if_pos (by omega), if_pos (by omega), if_pos (by omega), if_pos hxr.1, if_pos (by omega)]
      have hj : graph_Idom.j5 (k + 1) x3 num out preds chg x12 (encB o best) (rd row i66) x55 x56 x57 row row.length i66 true = some r := by
        rw [graph_Idom.j5, if_pos rfl, hw]; exact hk
      unfold hasP at hp
      by_cases h1 : rd num (rd row i66) < 0
      · rw [if_pos h1]; exact hj
      · rw [if_neg h1]
        rw [decide_eq_true (by omega), Bool.true_and, Bool.or_eq_false_iff] at hp
        have h2 := of_decide_eq_false hp.1
        have h3 := of_decide_eq_false hp.2
        rw [if_neg h2, if_pos (by omega), decide_eq_true (by omega)]
        exact hj
    | true =>
      obtain ⟨j, hj, ej⟩ := hiff.1 hp
      have hnum : rd num (rd row i66) = j := by rw [ej]; exact hN.on j (by omega)
      have hin : ∃ k, graph_Idom.j5 k x3 num out preds chg x12 (encB o best) (rd row i66) x55 x56 x57 row row.length i66 false = some r := by
        cases best with
        | none =>
          rw [show stepB num out par o.length none (rd row i66) = some j from by unfold stepB; rw [if_pos hp, hnum]; rfl] at hc
          obtain ⟨k, hk⟩ := ih (i66 + 1) (some j) (by omega) (fun p e => by injection e with e; omega) hc
          refine ⟨k + 1, ?_⟩
          rw [graph_Idom.j5, if_neg (by decide), if_pos (show encB o none < 0 from by show (-1 : Int) < 0; omega), hw, ej]
          exact hk
        | some p =>
          rw [show stepB num out par o.length (some p) (rd row i66) = some (com par (2 * o.length) p j) from by unfold stepB; rw [if_pos hp, hnum]; rfl] at hc
          have hpi := hb p rfl
          have hcl := com_le hd (2 * o.length) p j (by omega)
          obtain ⟨k, hk⟩ := ih (i66 + 1) (some (com par (2 * o.length) p j)) (by omega) (fun q e => by injection e with e; omega) hc
          have hpr := H.rng _ (at_mem (show p < o.length by omega))
          refine ⟨(k + 2 * o.length) + 1, ?_⟩
          have hcm := up (f := fun k => graph_common.f k out num (at_ o p) (at_ o j)) (fun k => graph_common.mono _ _ _ _ _) (m := k + 2 * o.length) (by omega) (chk_common (fun x hx => H.rng x hx) hi hN hO hd (2 * o.length) p j hpi hj (by omega))
          rw [graph_Idom.j5, if_neg (by decide), if_neg (show ¬ (encB o (some p) < 0) from by show ¬ (at_ o p < 0); omega), ej]
          show (graph_common.f (k + 2 * o.length) out num (at_ o p) (at_ o j)).bind _ = _
          rw [hcm, Option.bind_some, hw]
          exact up4 _ _ _ _ _ _ _ _ _ _ _ _ _ _ (by omega) hk
      obtain ⟨k, hk⟩ := hin
      refine ⟨k + 1, ?_⟩
      rw [graph_Idom.l4, if_pos (by omega), if_pos (by omega), if_pos (by omega), if_pos hxr.1, if_pos (by omega), if_neg (by omega)]
      by_cases h0 : rd row i66 = 0
      · rw [if_pos h0]; exact hk
      · rw [if_neg h0, if_pos (by omega)]
        unfold hasP at hp
        rw [decide_eq_true (by omega), Bool.true_and, decide_eq_false h0, Bool.false_or, decide_eq_true_eq] at hp
        rw [decide_eq_false (by omega)]
        exact hk
end Go.Proofs.Ytnmeomdjhjgnfaa.X
namespace Go.Proofs.Ytnmeomdjhjgnfaa.X
open Go.RowKit Go.Proofs.YtnmeomdjhjgnfaaW.PrintWords Go.Proofs.YtnmeomdjhjgnfaaW.PrintLast Go.Proofs.YtnmeomdjhjgnfaaW.PrintMore
/-! ### the fold is the nearest one -/
def plN (num : List Int) (x : Int) : Nat := (rd num x).toNat
theorem fold_some (num out : List Int) (par : Nat → Nat) (m : Nat) : ∀ (l : List Int) (p : Nat), l.foldl (stepB num out par m) (some p) = some (nca par (2 * m) p ((l.filter (hasP num out)).map (plN num)))
  | [], p => rfl
  | x :: l, p => by
    rw [List.foldl_cons]
    by_cases h : hasP num out x = true
    · rw [show stepB num out par m (some p) x = some (com par (2 * m) p (plN num x)) from by unfold stepB; rw [if_pos h]; rfl, fold_some num out par m l, List.filter_cons, if_pos h]
      rfl
    · rw [show stepB num out par m (some p) x = some p from by unfold stepB; rw [if_neg h], fold_some num out par m l, List.filter_cons, if_neg h]
theorem fold_none (num out : List Int) (par : Nat → Nat) (m : Nat) : ∀ (l : List Int) (p : Nat) (ps : List Nat), (l.filter (hasP num out)).map (plN num) = p :: ps → l.foldl (stepB num out par m) none = some (nca par (2 * m) p ps)
  | [], p, ps, h => by simp at h
  | x :: l, p, ps, h => by
    rw [List.foldl_cons]
    by_cases hx : hasP num out x = true
    · rw [List.filter_cons, if_pos hx, List.map_cons] at h
      injection h with h1 h2
      rw [show stepB num out par m none x = some (plN num x) from by unfold stepB; rw [if_pos hx]; rfl, fold_some, h1, h2]
    · rw [List.filter_cons, if_neg hx] at h
      rw [show stepB num out par m none x = none from by unfold stepB; rw [if_neg hx]]
      exact fold_none num out par m l p ps h
/-- A parent is written. -/
theorem Ot.put {E : Int → Int → Prop} {o : List Int} {n i k v : Nat} {par : Nat → Nat} {out : List Int} (H : Ordd E n o) (h : Ot o n i par out) (hk0 : 0 < k) (hk : k < o.length) (hki : k ≤ i) (him : i ≤ o.length) (hv : v < o.length) :
    Ot o n (max i (k + 1)) (upd par k v) (out.set (at_ o k).toNat (at_ o v)) := by
  have hr := H.rng _ (at_mem hk)
  have hlen := h.len
  have hne : ∀ x, 0 ≤ x → x ≠ at_ o k → rd (out.set (at_ o k).toNat (at_ o v)) x = rd out x := fun x h0 hn => by
    unfold rd
    rw [List.getD_eq_getElem?_getD, List.getD_eq_getElem?_getD, List.getElem?_set_ne (by omega)]
  have heq : rd (out.set (at_ o k).toNat (at_ o v)) (at_ o k) = at_ o v := by
    unfold rd
    rw [List.getD_eq_getElem?_getD, List.getElem?_set_self (by omega)]
    rfl
  refine ⟨by simp [h.len], fun j h0 hj => ?_, ?_, fun j hj hm => ?_, fun x h0 h1 hx => ?_⟩
  · by_cases e : j = k
    · subst e; rw [heq]; unfold upd; rw [if_pos rfl]
    · rw [hne _ (H.rng _ (at_mem (by omega))).1 (fun hh => e (at_inj H.nodup (by omega) hk hh)), h.on j h0 (by omega)]
      unfold upd; rw [if_neg e]
  · rw [hne 0 (Int.le_refl 0) (fun hh => by have := at_inj H.nodup H.pos hk (H.head.trans hh); omega)]; exact h.root
  · rw [hne _ (H.rng _ (at_mem hm)).1 (fun hh => by have := at_inj H.nodup hm hk hh; omega)]; exact h.not j (by omega) hm
  · rw [hne x h0 (fun hh => hx (hh ▸ at_mem hk))]; exact h.off x h0 h1 hx
end Go.Proofs.Ytnmeomdjhjgnfaa.X
namespace Go.Proofs.Ytnmeomdjhjgnfaa.X
open Go.RowKit Go.Proofs.YtnmeomdjhjgnfaaW.PrintWords Go.Proofs.YtnmeomdjhjgnfaaW.PrintLast Go.Proofs.YtnmeomdjhjgnfaaW.PrintMore
/-! ### sweeps over the lists -/
/-- The places from which a place is come to. -/
def PP (o num : List Int) (preds : List (List Int)) (i : Nat) : List Nat := ((rd_L1 preds (at_ o i)).filter (fun x => decide (x ∈ o))).map (plN num)
theorem filt_map (p : Int → Bool) (q : Int → Bool) (f : Int → Nat) (t : Nat → Bool) : ∀ (l : List Int), (∀ x ∈ l, p x = (q x && t (f x))) → (l.filter p).map f = ((l.filter q).map f).filter t
  | [], _ => rfl
  | x :: l, h => by
    have ih := filt_map p q f t l (fun y hy => h y (List.mem_cons_of_mem _ hy))
    have hx := h x List.mem_cons_self
    rw [List.filter_cons, List.filter_cons]
    cases hq : q x with
    | false =>
      rw [hq, Bool.false_and] at hx
      rw [hx]
      simpa using ih
    | true =>
      rw [hq, Bool.true_and] at hx
      rw [hx]
      cases ht : t (f x) with
      | false => simp [ht, ih]
      | true => simp [ht, ih]
theorem rows_set {E : Int → Int → Prop} {o : List Int} {n i : Nat} {par : Nat → Nat} {out num : List Int} (H : Ordd E n o) (hi0 : 0 < i) (hi : i ≤ o.length) (hN : Nm o n num) (hO : Ot o n i par out) (hd : Dn par) (preds : List (List Int)) (b : Nat) (hrow : ∀ x ∈ rd_L1 preds (at_ o b), 0 ≤ x ∧ x < (n : Int)) :
    ((rd_L1 preds (at_ o b)).filter (hasP num out)).map (plN num) = (PP o num preds b).filter (fun q => decide (q < i)) := by
  unfold PP
  refine filt_map _ _ _ _ _ (fun x hx => ?_)
  rw [Bool.eq_iff_iff, hasP_iff H hi0 hi hN hO hd x (hrow x hx), Bool.and_eq_true, decide_eq_true_eq, decide_eq_true_eq]
  constructor
  · rintro ⟨j, hj, rfl⟩
    refine ⟨at_mem (by omega), ?_⟩
    unfold plN
    rw [hN.on j (by omega)]
    exact hj
  · rintro ⟨hm, hp⟩
    obtain ⟨j, hj, rfl⟩ := mem_at hm
    unfold plN at hp
    rw [hN.on j hj] at hp
    exact ⟨j, hp, rfl⟩
/-- One block's turn: what is written is the nearest one's block. -/
theorem chk_turn {E : Int → Int → Prop} {o : List Int} {n i b : Nat} {par : Nat → Nat} {out num : List Int} (H : Ordd E n o) (hi0 : 0 < i) (hi : i ≤ o.length) (hN : Nm o n num) (hO : Ot o n i par out) (hd : Dn par) (preds : List (List Int)) (hpl : preds.length = n) (hb0 : 0 < b) (hb : b < o.length) (hbi : b ≤ i)
    (hrow : ∀ x ∈ rd_L1 preds (at_ o b), 0 ≤ x ∧ x < (n : Int)) (hl : (rd_L1 preds (at_ o b)).length ≤ 1000000) (hol : o.length ≤ 1000000) (chg : Bool) (r : List Int) (p : Nat) (ps : List Nat) (hP : (PP o num preds b).filter (fun q => decide (q < i)) = p :: ps) (hv : nca par (2 * o.length) p ps < o.length)
    (hc : ∃ k, graph_Idom.l3 k o num (out.set (at_ o b).toNat (at_ o (nca par (2 * o.length) p ps))) preds (chg || decide (rd out (at_ o b) ≠ at_ o (nca par (2 * o.length) p ps))) (o.drop 1) ((o.drop 1).length : Int) ((b : Nat) : Int) = some r) :
    ∃ k, graph_Idom.l3 k o num out preds chg (o.drop 1) ((o.drop 1).length : Int) ((b : Int) - 1) = some r := by
  have hbr := H.rng _ (at_mem hb)
  have hlen := hO.len
  have hrd : rd (o.drop 1) ((b : Int) - 1) = at_ o b := by
    unfold rd at_
    rw [show ((b : Int) - 1).toNat = b - 1 from by omega, List.getD_eq_getElem?_getD, List.getElem?_drop, List.getD_eq_getElem?_getD, show 1 + (b - 1) = b from by omega]
  have hdl : (o.drop 1).length = o.length - 1 := List.length_drop
  have hw : wrap64 ((b : Int) - 1 + 1) = (b : Int) := by unfold wrap64; omega
  have hfold := fold_none num out par o.length (rd_L1 preds (at_ o b)) p ps (by rw [rows_set H hi0 hi hN hO hd preds b hrow]; exact hP)
  obtain ⟨k, hk⟩ := hc
  obtain ⟨k2, hk2⟩ := chk_l4 H hi0 hi hN hO hd o preds chg (at_ o b) (o.drop 1) ((o.drop 1).length : Int) ((b : Int) - 1) (rd_L1 preds (at_ o b)) hrow hl r (rd_L1 preds (at_ o b)).length 0 none (by omega) (fun p e => by cases e) ⟨k, by
    rw [List.drop_zero, hfold]
    unfold contL
    rw [if_pos hbr.1, if_pos (by omega), hw]
    show (if rd out (at_ o b) = at_ o (nca par (2 * o.length) p ps) then _ else _) = _
    by_cases e : rd out (at_ o b) = at_ o (nca par (2 * o.length) p ps)
    · rw [if_pos e]
      rw [decide_eq_false (fun h => h e), Bool.or_false] at hk
      have hset : out.set (at_ o b).toNat (at_ o (nca par (2 * o.length) p ps)) = out := by
        rw [← e]
        unfold rd
        rw [List.getD_eq_getElem?_getD, List.getElem?_eq_getElem (by omega)]
        exact List.set_getElem_self _
      rw [hset] at hk
      exact hk
    · rw [if_neg e]
      rw [decide_eq_true e, Bool.or_true] at hk
      exact hk⟩
  refine ⟨k2 + 1, ?_⟩
  rw [graph_Idom.l3, if_pos (by omega), if_pos (by omega), if_pos (by omega), hrd, if_pos hbr.1, if_pos (by omega)]
  exact hk2
end Go.Proofs.Ytnmeomdjhjgnfaa.X
namespace Go.Proofs.Ytnmeomdjhjgnfaa.X
open Go.RowKit Go.Proofs.YtnmeomdjhjgnfaaW.PrintWords Go.Proofs.YtnmeomdjhjgnfaaW.PrintLast Go.Proofs.YtnmeomdjhjgnfaaW.PrintMore
/-- The sum of the parents. -/
def sumP (par : Nat → Nat) : Nat → Nat
  | 0 => 0
  | m + 1 => sumP par m + par m
theorem sumP_upd (par : Nat → Nat) (b v : Nat) (hv : v ≤ par b) : ∀ m, sumP (upd par b v) m + (if b < m then par b - v else 0) = sumP par m
  | 0 => by simp [sumP]
  | m + 1 => by
    have ih := sumP_upd par b v hv m
    simp only [sumP]
    by_cases h : b = m
    · subst h
      have e : upd par b v b = v := by unfold upd; rw [if_pos rfl]
      rw [if_neg (Nat.lt_irrefl b)] at ih
      rw [if_pos (Nat.lt_succ_self b), e]
      omega
    · have e : upd par b v m = par m := by unfold upd; rw [if_neg (fun x => h x.symm)]
      rw [e]
      by_cases h2 : b < m
      · rw [if_pos h2] at ih; rw [if_pos (by omega)]; omega
      · rw [if_neg h2] at ih; rw [if_neg (by omega)]; omega
def FixAt (P : Nat → List Nat) (m : Nat) (par : Nat → Nat) (u : Nat) : Prop := ∃ p ps, P u = p :: ps ∧ nca par (2 * m) p ps = par u
theorem upd_self (par : Nat → Nat) (b : Nat) : upd par b (par b) = par := by
  funext u; unfold upd; split
  · rename_i h; rw [h]
  · rfl
theorem nonempty_cons {l : List Nat} {s : Nat} (h : s ∈ l) : ∃ p ps, l = p :: ps := by
  cases l with
  | nil => cases h
  | cons p ps => exact ⟨p, ps, rfl⟩
theorem filter_all (l : List Nat) (m : Nat) (h : ∀ q ∈ l, q < m) : l.filter (fun q => decide (q < m)) = l :=
  List.filter_eq_self.2 (fun q hq => decide_eq_true (h q hq))
section
variable {E : Int → Int → Prop} {o : List Int} {n : Nat} {num : List Int} {preds : List (List Int)} {Dm : Nat → Nat → Prop}
/-- A later sweep. -/
theorem chk_sweep (H : Ordd E n o) (hN : Nm o n num) (hpl : preds.length = n) (G : Gr o.length (PP o num preds) Dm) (hrow : ∀ b, b < o.length → ∀ x ∈ rd_L1 preds (at_ o b), 0 ≤ x ∧ x < (n : Int)) (hl : ∀ b, b < o.length → (rd_L1 preds (at_ o b)).length ≤ 1000000) (hol : o.length ≤ 1000000) (Q : List Int → Prop) (s0 : Nat) :
    ∀ (d b : Nat) (par : Nat → Nat) (out : List Int) (chg : Bool), b + d = o.length → 0 < b → Swp o.length (PP o num preds) Dm b par → Ot o n o.length par out → sumP par o.length ≤ s0 → (chg = true → sumP par o.length < s0) → (chg = false → ∀ u, 0 < u → u < b → FixAt (PP o num preds) o.length par u) →
    (∀ par' out' chg', Swp o.length (PP o num preds) Dm o.length par' → Ot o n o.length par' out' → (chg' = true → sumP par' o.length < s0) → (chg' = false → ∀ u, 0 < u → u < o.length → FixAt (PP o num preds) o.length par' u) → ∃ k r, graph_Idom.l2 k o num out' preds chg' = some r ∧ Q r) →
    ∃ k r, graph_Idom.l3 k o num out preds chg (o.drop 1) ((o.drop 1).length : Int) ((b : Int) - 1) = some r ∧ Q r := by
  intro d
  induction d with
  | zero =>
    intro b par out chg hb h0 hS hO hs1 hs2 hf hend
    obtain rfl : b = o.length := by omega
    obtain ⟨k, r, hk, hq⟩ := hend par out chg hS hO hs2 hf
    have hdl : (o.drop 1).length = o.length - 1 := List.length_drop
    refine ⟨k + 1, r, ?_, hq⟩
    rw [graph_Idom.l3, if_neg (by omega)]
    exact hk
  | succ d ih =>
    intro b par out chg hb h0 hS hO hs1 hs2 hf hend
    have hbm : b < o.length := by omega
    obtain ⟨s, hs, _⟩ := G.fwd b h0 hbm
    obtain ⟨p, ps, hP⟩ := nonempty_cons hs
    obtain ⟨hle, hS'⟩ := hS.step G h0 hbm hP
    have hdn := hS.dn b h0
    have hput := Ot.put H hO h0 hbm (by omega) (Nat.le_refl _) (show nca par (2 * o.length) p ps < o.length by omega)
    rw [show max o.length (b + 1) = o.length from by omega] at hput
    have hsum := sumP_upd par b (nca par (2 * o.length) p ps) hle o.length
    rw [if_pos hbm] at hsum
    have hout : rd out (at_ o b) = at_ o (par b) := hO.on b h0 hbm
    have hiff : rd out (at_ o b) ≠ at_ o (nca par (2 * o.length) p ps) ↔ nca par (2 * o.length) p ps ≠ par b := by
      rw [hout]
      constructor
      · exact fun h e => h (by rw [e])
      · exact fun h e => h (at_inj H.nodup (by omega) (by omega) e).symm
    obtain ⟨kr, r, hkr, hq⟩ := ih (b + 1) (upd par b (nca par (2 * o.length) p ps)) (out.set (at_ o b).toNat (at_ o (nca par (2 * o.length) p ps))) (chg || decide (rd out (at_ o b) ≠ at_ o (nca par (2 * o.length) p ps))) (by omega) (by omega) hS' hput (by omega) (fun hc => by
        rcases Bool.or_eq_true_iff.1 hc with h | h
        · have := hs2 h; omega
        · have := hiff.1 (of_decide_eq_true h); omega) (fun hc u hu0 hu => by
        obtain ⟨h1, h2⟩ := Bool.or_eq_false_iff.1 hc
        have h3 : nca par (2 * o.length) p ps = par b := Classical.byContradiction fun hn => of_decide_eq_false h2 (hiff.2 hn)
        rw [h3, upd_self]
        rcases Nat.lt_or_ge u b with h4 | h4
        · exact hf h1 u hu0 h4
        · obtain rfl : u = b := by omega
          exact ⟨p, ps, hP, h3⟩) hend
    have key := chk_turn H (i := o.length) H.pos (Nat.le_refl _) hN hO hS.dn preds hpl h0 hbm (by omega) (hrow b hbm) (hl b hbm) hol chg r p ps (by rw [filter_all _ _ (fun q hq => G.inb b hbm q hq)]; exact hP) (by omega) ⟨kr, by rw [show (((b + 1 : Nat) : Int) - 1) = (b : Int) from by omega] at hkr; exact hkr⟩
    exact ⟨key.choose, r, key.choose_spec, hq⟩
/-- The first sweep. -/
theorem chk_first (H : Ordd E n o) (hN : Nm o n num) (hpl : preds.length = n) (G : Gr o.length (PP o num preds) Dm) (hrow : ∀ b, b < o.length → ∀ x ∈ rd_L1 preds (at_ o b), 0 ≤ x ∧ x < (n : Int)) (hl : ∀ b, b < o.length → (rd_L1 preds (at_ o b)).length ≤ 1000000) (hol : o.length ≤ 1000000) (Q : List Int → Prop) :
    ∀ (d b : Nat) (par : Nat → Nat) (out : List Int) (chg : Bool), b + d = o.length → 0 < b → (1 < b → chg = true) → Fst o.length (PP o num preds) Dm b par → Ot o n b par out →
    (∀ par' out' chg', Fst o.length (PP o num preds) Dm o.length par' → Ot o n o.length par' out' → (1 < o.length → chg' = true) → ∃ k r, graph_Idom.l2 k o num out' preds chg' = some r ∧ Q r) →
    ∃ k r, graph_Idom.l3 k o num out preds chg (o.drop 1) ((o.drop 1).length : Int) ((b : Int) - 1) = some r ∧ Q r := by
  intro d
  induction d with
  | zero =>
    intro b par out chg hb h0 hc hS hO hend
    obtain rfl : b = o.length := by omega
    obtain ⟨k, r, hk, hq⟩ := hend par out chg hS hO hc
    have hdl : (o.drop 1).length = o.length - 1 := List.length_drop
    refine ⟨k + 1, r, ?_, hq⟩
    rw [graph_Idom.l3, if_neg (by omega)]
    exact hk
  | succ d ih =>
    intro b par out chg hb h0 hc hS hO hend
    have hbm : b < o.length := by omega
    obtain ⟨s, hs, hsb⟩ := G.fwd b h0 hbm
    obtain ⟨p, ps, hP⟩ := nonempty_cons (show s ∈ (PP o num preds b).filter (fun q => decide (q < b)) from List.mem_filter.2 ⟨hs, decide_eq_true hsb⟩)
    have hS' := hS.step G h0 hbm hP
    have hpb : ∀ q ∈ p :: ps, q < b := fun q hq => by rw [← hP] at hq; exact of_decide_eq_true (List.mem_filter.1 hq).2
    have hp := hpb p List.mem_cons_self
    have hvp : nca par (2 * o.length) p ps ≤ p := (((nca_an hS.dn o.length ps p (by omega) (fun q hq => by have := hpb q (List.mem_cons_of_mem _ hq); omega) _).1 .refl).1).le hS.dn
    have hput := Ot.put H hO h0 hbm (Nat.le_refl _) (by omega) (show nca par (2 * o.length) p ps < o.length by omega)
    rw [show max b (b + 1) = b + 1 from by omega] at hput
    have hout : rd out (at_ o b) = -1 := hO.not b (Nat.le_refl _) hbm
    have hv0 := (H.rng _ (at_mem (show nca par (2 * o.length) p ps < o.length by omega))).1
    obtain ⟨kr, r, hkr, hq⟩ := ih (b + 1) (upd par b (nca par (2 * o.length) p ps)) (out.set (at_ o b).toNat (at_ o (nca par (2 * o.length) p ps))) (chg || decide (rd out (at_ o b) ≠ at_ o (nca par (2 * o.length) p ps))) (by omega) (by omega) (fun _ => by rw [decide_eq_true (by omega), Bool.or_true]) hS' hput hend
    have key := chk_turn H h0 (by omega) hN hO hS.dn preds hpl h0 hbm (Nat.le_refl _) (hrow b hbm) (hl b hbm) hol chg r p ps hP (by omega) ⟨kr, by rw [show (((b + 1 : Nat) : Int) - 1) = (b : Int) from by omega] at hkr; exact hkr⟩
    exact ⟨key.choose, r, key.choose_spec, hq⟩
end
end Go.Proofs.Ytnmeomdjhjgnfaa.X
namespace Go.Proofs.Ytnmeomdjhjgnfaa.X
open Go.RowKit Go.Proofs.YtnmeomdjhjgnfaaW.PrintWords Go.Proofs.YtnmeomdjhjgnfaaW.PrintLast Go.Proofs.YtnmeomdjhjgnfaaW.PrintMore
section
variable {E : Int → Int → Prop} {o : List Int} {n : Nat} {num : List Int} {preds : List (List Int)} {Dm : Nat → Nat → Prop}
theorem l2_true (H : Ordd E n o) (hol : o.length ≤ 1000000) (out : List Int) (r : List Int) (h : ∃ k, graph_Idom.l3 k o num out preds false (o.drop 1) ((o.drop 1).length : Int) (((1 : Nat) : Int) - 1) = some r) : ∃ k, graph_Idom.l2 k o num out preds true = some r := by
  obtain ⟨k, hk⟩ := h
  have hp := H.pos
  have hmn : mn 1 (o.length : Int) = 1 := by unfold mn; split <;> omega
  refine ⟨k + 1, ?_⟩
  rw [graph_Idom.l2, if_pos rfl, hmn, if_pos (by omega), if_pos (by omega)]
  exact hk
/-- What the loops end in. -/
def Rest (o : List Int) (n : Nat) (num : List Int) (preds : List (List Int)) (Dm : Nat → Nat → Prop) (r : List Int) : Prop :=
  ∃ par, Swp o.length (PP o num preds) Dm 1 par ∧ Ot o n o.length par r ∧ ∀ u, 0 < u → u < o.length → FixAt (PP o num preds) o.length par u
/-- The later sweeps come to rest. -/
theorem chk_rest (H : Ordd E n o) (hN : Nm o n num) (hpl : preds.length = n) (G : Gr o.length (PP o num preds) Dm) (hrow : ∀ b, b < o.length → ∀ x ∈ rd_L1 preds (at_ o b), 0 ≤ x ∧ x < (n : Int)) (hl : ∀ b, b < o.length → (rd_L1 preds (at_ o b)).length ≤ 1000000) (hol : o.length ≤ 1000000) :
    ∀ (s : Nat) (par : Nat → Nat) (out : List Int), sumP par o.length < s → Swp o.length (PP o num preds) Dm 1 par → Ot o n o.length par out →
    ∃ k r, graph_Idom.l2 k o num out preds true = some r ∧ Rest o n num preds Dm r := by
  intro s
  induction s with
  | zero => intro par out h; omega
  | succ s ih =>
    intro par out hs hS hO
    have hp := H.pos
    obtain ⟨k, r, hk, hq⟩ := chk_sweep H hN hpl G hrow hl hol (Rest o n num preds Dm) (sumP par o.length) (o.length - 1) 1 par out false (by omega) (by omega) hS hO (Nat.le_refl _) (fun h => by cases h) (fun _ u h0 h1 => by omega) (fun par' out' chg' hS' hO' hlt hf => by
      cases chg' with
      | true => exact ih par' out' (by have := hlt rfl; omega) hS'.again hO'
      | false => exact ⟨1, out', by rw [graph_Idom.l2, if_neg (by decide)], par', hS'.again, hO', hf rfl⟩)
    obtain ⟨k2, hk2⟩ := l2_true H hol out r ⟨k, hk⟩
    exact ⟨k2, r, hk2, hq⟩
/-- From the lists as they are made. -/
theorem chk_all (H : Ordd E n o) (hN : Nm o n num) (hpl : preds.length = n) (G : Gr o.length (PP o num preds) Dm) (hrow : ∀ b, b < o.length → ∀ x ∈ rd_L1 preds (at_ o b), 0 ≤ x ∧ x < (n : Int)) (hl : ∀ b, b < o.length → (rd_L1 preds (at_ o b)).length ≤ 1000000) (hol : o.length ≤ 1000000)
    (hO : Ot o n 1 (fun _ => 0) (List.replicate n (-1))) : ∃ k r, graph_Idom.l2 k o num (List.replicate n (-1)) preds true = some r ∧ Rest o n num preds Dm r := by
  have hp := H.pos
  obtain ⟨k, r, hk, hq⟩ := chk_first H hN hpl G hrow hl hol (Rest o n num preds Dm) (o.length - 1) 1 (fun _ => 0) (List.replicate n (-1)) false (by omega) (by omega) (fun h => by omega) (Fst.start _ _ _) hO (fun par' out' chg' hS' hO' hc => by
    cases chg' with
    | true => exact chk_rest H hN hpl G hrow hl hol (sumP par' o.length + 1) par' out' (by omega) hS'.swp hO'
    | false =>
      have h1 : ¬ 1 < o.length := fun h => by cases hc h
      exact ⟨1, out', by rw [graph_Idom.l2, if_neg (by decide)], par', hS'.swp, hO', fun u h0 hu => by omega⟩)
  obtain ⟨k2, hk2⟩ := l2_true H hol _ r ⟨k, hk⟩
  exact ⟨k2, r, hk2, hq⟩
end
end Go.Proofs.Ytnmeomdjhjgnfaa.X
end
section
/-! Plain: who dominates, by ways; what graph.Idom tells of it. -/
set_option linter.unusedVariables false
set_option linter.unusedSimpArgs false
namespace Go.Proofs.Ytnmeomdjhjgnfaa.X
open Go.RowKit Go.Proofs.YtnmeomdjhjgnfaaW.PrintWords Go.Proofs.YtnmeomdjhjgnfaaW.PrintLast Go.Proofs.YtnmeomdjhjgnfaaW.PrintMore

/-- Come to from block 0 without z. -/
inductive RAv (E : Int → Int → Prop) (z : Int) : Int → Prop
  | start : z ≠ 0 → RAv E z 0
  | step {x y : Int} : RAv E z x → E x y → y ≠ z → RAv E z y
def Eg (g : List (List Int)) (x y : Int) : Prop := eB g x y = true
theorem RE_clean (g : List (List Int)) (x y : Int) : RE (cleanL g) x y ↔ Eg g x y := by
  unfold RE Eg
  rw [eB_iff]
  constructor
  · rintro ⟨h0, h⟩
    obtain ⟨j, rfl⟩ := Int.eq_ofNat_of_zero_le h0
    rcases Nat.lt_or_ge j g.length with hj | hj
    · have h2 : y ∈ rd_L1 (cleanL g) j := h
      rw [rd_clean g j hj, mem_keptL] at h2
      exact ⟨by omega, by omega, h2.2.1, h2.2.2, h2.1⟩
    · rw [List.getD_eq_getElem?_getD, List.getElem?_eq_none (by rw [cleanL_length]; omega)] at h
      cases h
  · rintro ⟨h1, h2, h3, h4, h5⟩
    obtain ⟨j, rfl⟩ := Int.eq_ofNat_of_zero_le h1
    refine ⟨h1, ?_⟩
    show y ∈ rd_L1 (cleanL g) j
    rw [rd_clean g j (by omega), mem_keptL]
    exact ⟨h5, h3, h4⟩
section
variable {E : Int → Int → Prop} {o : List Int} {n : Nat} {num : List Int} {preds : List (List Int)}
/-- Dominance, by places. -/
def DmP (E : Int → Int → Prop) (o : List Int) (d u : Nat) : Prop := d < o.length ∧ u < o.length ∧ (d = u ∨ ¬ RAv E (at_ o d) (at_ o u))
theorem ra_fwd (H : Ordd E n o) (d : Nat) (hd : d < o.length) : ∀ (k u : Nat), u ≤ k → u < d → RAv E (at_ o d) (at_ o u) := by
  intro k
  induction k with
  | zero =>
    intro u hu hud
    obtain rfl : u = 0 := by omega
    rw [H.head]
    exact .start (fun h => by have := at_inj H.nodup hd H.pos (h.trans H.head.symm); omega)
  | succ k ih =>
    intro u hu hud
    rcases Nat.eq_zero_or_pos u with rfl | h0
    · exact ih 0 (by omega) hud
    · obtain ⟨j, hj, he⟩ := H.fwd u h0 (by omega)
      exact .step (ih j (by omega) (by omega)) he (fun h => by have := at_inj H.nodup (by omega) hd h; omega)
theorem plN_at (hN : Nm o n num) {j : Nat} (hj : j < o.length) : plN num (at_ o j) = j := by
  unfold plN; rw [hN.on j hj]; rfl
theorem mem_PP (H : Ordd E n o) (hN : Nm o n num) (hpr : ∀ u, u < o.length → ∀ x, x ∈ rd_L1 preds (at_ o u) ↔ E x (at_ o u)) (u : Nat) (hu : u < o.length) (p : Nat) : p ∈ PP o num preds u ↔ p < o.length ∧ E (at_ o p) (at_ o u) := by
  unfold PP
  rw [List.mem_map]
  constructor
  · rintro ⟨x, hx, rfl⟩
    obtain ⟨h1, h2⟩ := List.mem_filter.1 hx
    obtain ⟨j, hj, rfl⟩ := mem_at (of_decide_eq_true h2)
    rw [plN_at hN hj]
    exact ⟨hj, (hpr u hu _).1 h1⟩
  · rintro ⟨hp, he⟩
    exact ⟨at_ o p, List.mem_filter.2 ⟨(hpr u hu _).2 he, decide_eq_true (at_mem hp)⟩, plN_at hN hp⟩
theorem gr_of (H : Ordd E n o) (hN : Nm o n num) (hpr : ∀ u, u < o.length → ∀ x, x ∈ rd_L1 preds (at_ o u) ↔ E x (at_ o u)) : Gr o.length (PP o num preds) (DmP E o) where
  inb := fun u hu p hp => ((mem_PP H hN hpr u hu p).1 hp).1
  fwd := fun u h0 hu => by
    obtain ⟨j, hj, he⟩ := H.fwd u h0 hu
    exact ⟨j, (mem_PP H hN hpr u hu j).2 ⟨by omega, he⟩, hj⟩
  dle := fun d u ⟨hd, hu, h⟩ => by
    rcases h with h | h
    · omega
    · rcases Nat.lt_or_ge u d with hlt | hlt
      · exact absurd (ra_fwd H d hd u u (Nat.le_refl _) hlt) h
      · exact hlt
  dstep := fun d u h0 hu ⟨hd, _, h⟩ hne p hp => by
    obtain ⟨hpm, he⟩ := (mem_PP H hN hpr u hu p).1 hp
    refine ⟨hd, hpm, ?_⟩
    by_cases hdp : d = p
    · exact .inl hdp
    · refine .inr (fun hr => ?_)
      exact h.resolve_left hne (.step hr he (fun e => hne (at_inj H.nodup hd hu e.symm)))
/-- At rest the chains are who dominates. -/
theorem rest_dom (H : Ordd E n o) (hN : Nm o n num) (hpr : ∀ u, u < o.length → ∀ x, x ∈ rd_L1 preds (at_ o u) ↔ E x (at_ o u)) (hE : ∀ x y, E x y → x ∈ o → y ∈ o) {r : List Int} (h : Rest o n num preds (DmP E o) r) :
    ∃ par, Dn par ∧ Ot o n o.length par r ∧ ∀ u, u < o.length → ∀ d, An par d u ↔ DmP E o d u := by
  obtain ⟨par, hS, hO, hf⟩ := h
  have G := gr_of H hN hpr
  refine ⟨par, hS.dn, hO, fun u hu d => ⟨fun ha => ?_, fun hd => ?_⟩⟩
  · have hle := ha.le hS.dn
    refine ⟨by omega, hu, ?_⟩
    by_cases hdu : d = u
    · exact .inl hdu
    · refine .inr (fun hr => ?_)
      have key : ∀ x, RAv E (at_ o d) x → x ∈ o ∧ ∀ w, w < o.length → x = at_ o w → ¬ An par d w := by
        intro x hx
        induction hx with
        | start h0 =>
          refine ⟨by rw [← H.head]; exact at_mem H.pos, fun w hw hxw ha => ?_⟩
          have := at_inj H.nodup H.pos hw (H.head.trans hxw)
          subst this
          have := ha.of_zero hS.dn
          subst this
          exact h0 H.head
        | @step x y hx he hne ih =>
          obtain ⟨hxo, ih⟩ := ih
          refine ⟨H.closed x hxo y he, fun w hw hyw ha => ?_⟩
          obtain ⟨j, hj, rfl⟩ := mem_at hxo
          have hnj := ih j hj rfl
          rcases ha.inv with hdw | ⟨hw0, ha⟩
          · subst hdw; exact hne hyw
          · obtain ⟨p, ps, hP, hv⟩ := hf w hw0 hw
            subst hyw
            have hjm : j ∈ PP o num preds w := (mem_PP H hN hpr w hw j).2 ⟨hj, he⟩
            rw [← hv, nca_an hS.dn o.length ps p (G.inb w hw p (by rw [hP]; exact List.mem_cons_self)) (fun q hq => G.inb w hw q (by rw [hP]; exact List.mem_cons_of_mem _ hq))] at ha
            rw [hP] at hjm
            rcases List.mem_cons.1 hjm with rfl | hjm
            · exact hnj ha.1
            · exact hnj (ha.2 j hjm)
      exact (key _ hr).2 u hu rfl ha
  · have key : ∀ (k u : Nat), u ≤ k → u < o.length → ∀ d, DmP E o d u → An par d u := by
      intro k
      induction k with
      | zero =>
        intro u hk hu d hd
        have := G.dle d u hd
        obtain rfl : d = u := by omega
        exact .refl
      | succ k ih =>
        intro u hk hu d hd
        by_cases hdu : d = u
        · subst hdu; exact .refl
        · have h1 := G.dle d u hd
          have h2 := hS.dn u (by omega)
          exact .up (by omega) (ih (par u) (by omega) (by omega) d (hS.dom u (by omega) hu d hd hdu))
    exact key u u (Nat.le_refl _) hu d hd
end
end Go.Proofs.Ytnmeomdjhjgnfaa.X
end
section
/-! Plain: graph.Order and graph.Idom end; what they tell. -/
set_option linter.unusedVariables false
set_option linter.unusedSimpArgs false
namespace Go.Proofs.Ytnmeomdjhjgnfaa.X
open Go.RowKit Go.Proofs.YtnmeomdjhjgnfaaW.PrintWords Go.Proofs.YtnmeomdjhjgnfaaW.PrintLast Go.Proofs.YtnmeomdjhjgnfaaW.PrintMore

theorem order_some (g : List (List Int)) (hok : okG g = true) (hn : 0 < g.length) (k : Nat) (hk : g.length ≤ k) : ∃ o, graph_Order.f k g = some o ∧ Ordd (Eg g) g.length o := by
  obtain ⟨t, o, h1, h2⟩ := order_of (cleanL g) g.length hn (cleanL_in g) k hk
  have e : RE (cleanL g) = Eg g := funext fun x => funext fun y => propext (RE_clean g x y)
  rw [e] at h2
  refine ⟨o.reverse, ?_, h2⟩
  unfold graph_Order.f
  rw [if_pos hok, if_neg (by omega), h1]
  rfl
theorem ordd_len {E : Int → Int → Prop} {n : Nat} {o : List Int} (H : Ordd E n o) : o.length ≤ n := by
  have key : ∀ (m : Nat) (l : List Int), l.Nodup → (∀ x ∈ l, 0 ≤ x ∧ x < (m : Int)) → l.length ≤ m := by
    intro m
    induction m with
    | zero =>
      intro l _ h
      cases l with
      | nil => simp
      | cons x l => have := h x List.mem_cons_self; omega
    | succ m ih =>
      intro l hn h
      have h1 := ih (l.filter (fun x => decide (x ≠ (m : Int)))) (hn.filter _) (fun x hx => by
        obtain ⟨h2, h3⟩ := List.mem_filter.1 hx
        have h4 := h x h2
        have h5 := of_decide_eq_true h3
        omega)
      have h2 : l.length ≤ (l.filter (fun x => decide (x ≠ (m : Int)))).length + 1 := by
        clear ih h1 h
        induction l with
        | nil => simp
        | cons x l ih =>
          rw [List.nodup_cons] at hn
          rw [List.filter_cons]
          by_cases hx : x = (m : Int)
          · rw [if_neg (by simp [hx])]
            have : l.filter (fun x => decide (x ≠ (m : Int))) = l := List.filter_eq_self.2 (fun y hy => by
              refine decide_eq_true (fun e => hn.1 ?_)
              rw [hx, ← e]; exact hy)
            rw [this]; simp
          · rw [if_pos (decide_eq_true hx)]
            have := ih hn.2
            simp only [List.length_cons]; omega
      omega
  exact key n o H.nodup H.rng
/-- Numbers are given. -/
theorem idom_l1 (g : List (List Int)) (hok : okG g = true) {E : Int → Int → Prop} {o : List Int} (H : Ordd E g.length o) (out r : List Int) (Hc : ∀ num, Nm o g.length num → ∃ k, graph_Idom.l2 k o num out (predsL g) true = some r) :
    ∀ (d i : Nat) (num : List Int), i + d = o.length → num.length = g.length → (∀ j, j < i → rd num (at_ o j) = j) → (∀ x, 0 ≤ x → x < (g.length : Int) → (∀ j, j < i → x ≠ at_ o j) → rd num x = -1) →
    ∃ k, graph_Idom.l1 k g o num out o o.length i = some r := by
  have hol := ordd_len H
  have hg := (okG_len hok).1
  intro d
  induction d with
  | zero =>
    intro i num hi hl h1 h2
    obtain ⟨k, hk⟩ := Hc num ⟨hl, fun j hj => h1 j (by omega), fun x h0 hx hm => h2 x h0 hx (fun j hj e => hm (e ▸ at_mem (by omega)))⟩
    refine ⟨k + 1, ?_⟩
    rw [graph_Idom.l1, if_neg (by omega), Preds_some g hok, Option.bind_some]
    exact hk
  | succ d ih =>
    intro i num hi hl h1 h2
    have hlt : i < o.length := by omega
    have hr := H.rng _ (at_mem hlt)
    have hrd : rd o i = at_ o i := rfl
    have hset : ∀ x, 0 ≤ x → x ≠ at_ o i → rd (num.set (at_ o i).toNat (i : Int)) x = rd num x := fun x h0 hn => by
      unfold rd
      rw [List.getD_eq_getElem?_getD, List.getD_eq_getElem?_getD, List.getElem?_set_ne (by omega)]
    have hself : rd (num.set (at_ o i).toNat (i : Int)) (at_ o i) = i := by
      unfold rd
      rw [List.getD_eq_getElem?_getD, List.getElem?_set_self (by omega)]
      rfl
    obtain ⟨k, hk⟩ := ih (i + 1) (num.set (at_ o i).toNat (i : Int)) (by omega) (by simpa using hl) (fun j hj => by
      by_cases e : j = i
      · subst e; exact hself
      · rw [hset _ (H.rng _ (at_mem (by omega))).1 (fun hh => e (at_inj H.nodup (by omega) hlt hh))]
        exact h1 j (by omega)) (fun x h0 hx hne => by
      rw [hset x h0 (hne i (by omega))]
      exact h2 x h0 hx (fun j hj => hne j (by omega)))
    refine ⟨k + 1, ?_⟩
    rw [graph_Idom.l1, if_pos (by omega), if_pos (by omega), if_pos (by omega), hrd, if_pos hr.1, if_pos (by omega), w64 (by omega) (by omega)]
    exact hk
theorem idom_l0 (g : List (List Int)) (hok : okG g = true) (o r : List Int) (Hc : ∃ k, graph_Idom.l1 k g o (List.replicate g.length (-1)) (List.replicate g.length (-1)) o o.length 0 = some r) :
    ∀ (d i : Nat) (x4 x5 : List Int), i + d = g.length → x4 = List.replicate i (-1) ++ List.replicate d 0 → x5 = List.replicate i (-1) ++ List.replicate d 0 → ∃ k, graph_Idom.l0 k g o x4 x5 g.length i = some r := by
  have hg := (okG_len hok).1
  intro d
  induction d with
  | zero =>
    intro i x4 x5 hi h4 h5
    obtain ⟨k, hk⟩ := Hc
    refine ⟨k + 1, ?_⟩
    rw [graph_Idom.l0, if_neg (by omega), h4, h5, List.replicate_zero, List.append_nil, show i = g.length from by omega]
    exact hk
  | succ d ih =>
    intro i x4 x5 hi h4 h5
    have hs : ∀ x : List Int, x = List.replicate i (-1) ++ List.replicate (d + 1) 0 → x.set i (-1) = List.replicate (i + 1) (-1) ++ List.replicate d 0 := by
      intro x hx
      rw [hx, List.set_append_right _ _ (by simp), List.length_replicate, Nat.sub_self, List.replicate_succ, List.set_cons_zero, List.replicate_succ', List.append_assoc]
      rfl
    obtain ⟨k, hk⟩ := ih (i + 1) (x4.set i (-1)) (x5.set i (-1)) (by omega) (hs x4 h4) (hs x5 h5)
    refine ⟨k + 1, ?_⟩
    have hl4 : x4.length = g.length := by rw [h4]; simp; omega
    have hl5 : x5.length = g.length := by rw [h5]; simp; omega
    rw [graph_Idom.l0, if_pos (by omega), if_pos (by omega), if_pos (by omega), if_pos (by omega), w64 (by omega) (by omega), Int.toNat_natCast]
    exact hk
/-- What graph.Idom tells. -/
structure IdomR (g : List (List Int)) (o r : List Int) (par : Nat → Nat) : Prop where
  ord : Ordd (Eg g) g.length o
  dn : Dn par
  lst : Ot o g.length o.length par r
  dom : ∀ u, u < o.length → ∀ d, An par d u ↔ DmP (Eg g) o d u
theorem idom_some (g : List (List Int)) (hok : okG g = true) (hn : 0 < g.length) (hn2 : g.length ≤ 1000) (o : List Int) (ho : ∃ k, graph_Order.f k g = some o) (H : Ordd (Eg g) g.length o) : ∃ k r par, graph_Idom.f k g = some r ∧ IdomR g o r par := by
  have hol := ordd_len H
  have hpr : ∀ u, u < o.length → ∀ x, x ∈ rd_L1 (predsL g) (at_ o u) ↔ Eg g x (at_ o u) := fun u hu x => mem_preds g x (at_ o u) (H.rng _ (at_mem hu))
  have hpl := predsL_len g
  have hrow : ∀ b, b < o.length → ∀ x ∈ rd_L1 (predsL g) (at_ o b), 0 ≤ x ∧ x < (g.length : Int) := fun b hb x hx => by
    have := eB_iff.1 ((hpr b hb x).1 hx)
    exact ⟨this.1, this.2.1⟩
  have hlen : ∀ b, b < o.length → (rd_L1 (predsL g) (at_ o b)).length ≤ 1000000 := fun b hb => by
    have hr := H.rng _ (at_mem hb)
    have e : rd_L1 (predsL g) (at_ o b) = (predsL g)[(at_ o b).toNat]'(by omega) := by
      unfold rd_L1
      rw [List.getD_eq_getElem?_getD, List.getElem?_eq_getElem (by omega)]
      rfl
    rw [e]
    exact (okG_len (okG_preds g hn2)).2 _ (List.getElem_mem _)
  have hO : Ot o g.length 1 (fun _ => 0) (List.replicate g.length (-1)) := by
    have hrep : ∀ x, 0 ≤ x → x < (g.length : Int) → rd (List.replicate g.length (-1)) x = -1 := fun x h0 h1 => by
      unfold rd
      rw [List.getD_eq_getElem?_getD, List.getElem?_replicate, if_pos (by omega)]
      rfl
    exact ⟨by simp, fun j h0 h1 => by omega, hrep 0 (Int.le_refl 0) (by omega), fun j _ hj => hrep _ (H.rng _ (at_mem hj)).1 (H.rng _ (at_mem hj)).2, fun x h0 h1 _ => hrep x h0 h1⟩
  -- the numbers that are given: one list
  have hnum : ∃ num, Nm o g.length num := by
    refine ⟨(List.range g.length).map (fun (x : Nat) => if (x : Int) ∈ o then ((o.idxOf (x : Int) : Nat) : Int) else -1), by simp, fun i hi => ?_, fun x h0 h1 hm => ?_⟩
    · have hr := H.rng _ (at_mem hi)
      unfold rd
      rw [List.getD_eq_getElem?_getD, List.getElem?_map, List.getElem?_range (by omega)]
      have e : (((at_ o i).toNat : Nat) : Int) = at_ o i := by omega
      simp only [Option.map_some, Option.getD_some, e, if_pos (at_mem hi)]
      have h1 : o.idxOf (at_ o i) < o.length := List.idxOf_lt_length_of_mem (at_mem hi)
      have hix : ∀ x ∈ o, at_ o (o.idxOf x) = x := fun x hx => by
        have h1 : o.idxOf x < o.length := List.idxOf_lt_length_of_mem hx
        unfold at_
        rw [List.getD_eq_getElem?_getD, List.getElem?_eq_getElem h1]
        exact List.getElem_idxOf h1
      have h2 := hix _ (at_mem hi)
      have := at_inj H.nodup h1 hi h2
      omega
    · unfold rd
      rw [List.getD_eq_getElem?_getD, List.getElem?_map, List.getElem?_range (by omega)]
      have e : ((x.toNat : Nat) : Int) = x := by omega
      simp only [Option.map_some, Option.getD_some, e, if_neg hm]
  have huniq : ∀ a b, Nm o g.length a → Nm o g.length b → a = b := by
    intro a b ha hb
    refine List.ext_getElem (ha.len.trans hb.len.symm) (fun i h1 h2 => ?_)
    have hg1 : ∀ l : List Int, (h : i < l.length) → rd l (i : Int) = l[i] := fun l h => by simp [rd, h]
    rw [← hg1 a h1, ← hg1 b h2]
    have hlt : i < g.length := by have := ha.len; omega
    by_cases hm : ((i : Nat) : Int) ∈ o
    · obtain ⟨j, hj, e⟩ := mem_at hm
      rw [← e, ha.on j hj, hb.on j hj]
    · rw [ha.off _ (by omega) (by omega) hm, hb.off _ (by omega) (by omega) hm]
  obtain ⟨num, hN⟩ := hnum
  have G := gr_of H hN hpr
  obtain ⟨k, r, hk, hR⟩ := chk_all H hN hpl G hrow hlen (by omega) hO
  obtain ⟨par, hd, hOt, hdom⟩ := rest_dom H hN hpr (fun x y he hx => H.closed x hx y he) hR
  obtain ⟨k1, hk1⟩ := idom_l1 g hok H (List.replicate g.length (-1)) r (fun num' hN' => by rw [huniq num' num hN' hN]; exact ⟨k, hk⟩) o.length 0 (List.replicate g.length (-1)) (by omega) (by simp) (fun j hj => by omega) (fun x h0 h1 _ => by
    unfold rd
    rw [List.getD_eq_getElem?_getD, List.getElem?_replicate, if_pos (by omega)]
    rfl)
  obtain ⟨k0, hk0⟩ := idom_l0 g hok o r ⟨k1, hk1⟩ g.length 0 (List.replicate g.length 0) (List.replicate g.length 0) (by omega) (by simp) (by simp)
  obtain ⟨k3, hk3⟩ := ho
  refine ⟨k3 + k0, r, par, ?_, ⟨H, hd, hOt, hdom⟩⟩
  have e1 := up (f := fun k => graph_Order.f k g) (fun k => graph_Order.mono _ _) (m := k3 + k0) (by omega) hk3
  have e2 := up (f := fun k => graph_Idom.l0 k g o (List.replicate g.length 0) (List.replicate g.length 0) g.length ((0 : Nat) : Int)) (fun k => (graph_Idom.mono_l k).1 _ _ _ _ _ _) (m := k3 + k0) (by omega) hk0
  unfold graph_Idom.f
  rw [e1, Option.bind_some, if_pos (by omega), if_pos (by omega), Int.toNat_natCast]
  exact e2
end Go.Proofs.Ytnmeomdjhjgnfaa.X
end
section
/-! Plain: dominance among blocks; what graph.Dominates tells by what graph.Idom tells. -/
set_option linter.unusedVariables false
set_option linter.unusedSimpArgs false
namespace Go.Proofs.Ytnmeomdjhjgnfaa.X
open Go.RowKit Go.Proofs.YtnmeomdjhjgnfaaW.PrintWords Go.Proofs.YtnmeomdjhjgnfaaW.PrintLast Go.Proofs.YtnmeomdjhjgnfaaW.PrintMore

/-- Come to from block 0. -/
def Rch (E : Int → Int → Prop) (x : Int) : Prop := RAv E (-1) x
/-- a dominates b. -/
def Dmb (E : Int → Int → Prop) (a b : Int) : Prop := Rch E a ∧ Rch E b ∧ (a = b ∨ ¬ RAv E a b)
theorem reach_iff {E : Int → Int → Prop} {n : Nat} {o : List Int} (H : Ordd E n o) (x : Int) : x ∈ o ↔ Rch E x := by
  constructor
  · intro hx
    have key : ∀ (k i : Nat), i ≤ k → i < o.length → Rch E (at_ o i) := by
      intro k
      induction k with
      | zero =>
        intro i hi hl
        obtain rfl : i = 0 := by omega
        rw [H.head]
        exact .start (by omega)
      | succ k ih =>
        intro i hi hl
        rcases Nat.eq_zero_or_pos i with rfl | h0
        · exact ih 0 (by omega) hl
        · obtain ⟨j, hj, he⟩ := H.fwd i h0 hl
          have := (H.rng _ (at_mem hl)).1
          exact .step (ih j (by omega) (by omega)) he (by omega)
    obtain ⟨i, hi, rfl⟩ := mem_at hx
    exact key i i (Nat.le_refl _) hi
  · intro h
    induction h with
    | start => rw [← H.head]; exact at_mem H.pos
    | step _ he _ ih => exact H.closed _ ih _ he
theorem Rch.step {E : Int → Int → Prop} {x y : Int} (hE : ∀ x y, E x y → 0 ≤ y) (h : Rch E x) (he : E x y) : Rch E y := RAv.step h he (by have := hE _ _ he; omega)
theorem Eg_in {g : List (List Int)} {x y : Int} (h : Eg g x y) : 0 ≤ x ∧ x < g.length ∧ 0 ≤ y ∧ y < g.length := by
  have := eB_iff.1 h
  exact ⟨this.1, this.2.1, this.2.2.1, this.2.2.2.1⟩
theorem Rch.rng {g : List (List Int)} (hn : 0 < g.length) {x : Int} (h : Rch (Eg g) x) : 0 ≤ x ∧ x < g.length := by
  cases h with
  | start => omega
  | step _ he _ => have := Eg_in he; omega
theorem RAv.rng {g : List (List Int)} (hn : 0 < g.length) {z x : Int} (h : RAv (Eg g) z x) : 0 ≤ x ∧ x < g.length := by
  cases h with
  | start => omega
  | step _ he _ => have := Eg_in he; omega
section
variable {g : List (List Int)} {o r : List Int} {par : Nat → Nat}
theorem isB_iff (R : IdomR g o r par) (x : Int) : isB r x = true ↔ 0 ≤ x ∧ x < g.length := by
  unfold isB
  rw [R.lst.len, Bool.and_eq_true, decide_eq_true_eq, decide_eq_true_eq]
theorem loop_in (R : IdomR g o r par) (a : Int) (ha : 0 ≤ a) : ∀ (k u : Nat), u < k → u < o.length → (domLoop r a k (at_ o u) = true ↔ ∃ d, d < o.length ∧ a = at_ o d ∧ An par d u) := by
  intro k
  induction k with
  | zero => intro u h; omega
  | succ k ih =>
    intro u hk hu
    rw [domLoop]
    by_cases h : a = at_ o u
    · rw [if_pos h]
      exact ⟨fun _ => ⟨u, hu, h, .refl⟩, fun _ => rfl⟩
    · rw [if_neg h, if_pos ((isB_iff R _).2 (R.ord.rng _ (at_mem hu)))]
      rcases Nat.eq_zero_or_pos u with rfl | h0
      · rw [R.ord.head, R.lst.root]
        constructor
        · intro hh
          cases k with
          | zero => cases hh
          | succ k =>
            rw [domLoop, if_neg (by omega), if_neg (by rw [isB_iff R]; omega)] at hh
            cases hh
        · rintro ⟨d, hd, rfl, hA⟩
          have := hA.of_zero R.dn
          subst this
          exact absurd rfl h
      · have h2 := R.dn u h0
        rw [R.lst.on u h0 hu, ih (par u) (by omega) (by omega)]
        constructor
        · rintro ⟨d, hd, rfl, hA⟩
          exact ⟨d, hd, rfl, .up h0 hA⟩
        · rintro ⟨d, hd, rfl, hA⟩
          rcases hA.inv with rfl | ⟨_, hA⟩
          · exact absurd rfl h
          · exact ⟨d, hd, rfl, hA⟩
theorem loop_off (R : IdomR g o r par) (a b : Int) (ha : 0 ≤ a) (hb : 0 ≤ b ∧ b < g.length) (hm : b ∉ o) (k : Nat) : domLoop r a (k + 1) b = true ↔ a = b := by
  rw [domLoop]
  by_cases h : a = b
  · rw [if_pos h]; exact ⟨fun _ => h, fun _ => rfl⟩
  · rw [if_neg h, if_pos ((isB_iff R _).2 hb), R.lst.off b hb.1 hb.2 hm]
    refine ⟨fun hh => ?_, fun hh => absurd hh h⟩
    cases k with
    | zero => cases hh
    | succ k =>
      rw [domLoop, if_neg (by omega), if_neg (by rw [isB_iff R]; omega)] at hh
      cases hh
/-- What graph.Dominates tells by graph.Idom's list. -/
theorem domL_iff (R : IdomR g o r par) (a b : Int) : domL r a b = true ↔ (0 ≤ a ∧ a < g.length) ∧ (0 ≤ b ∧ b < g.length) ∧ (a = b ∨ Dmb (Eg g) a b) := by
  unfold domL
  rw [Bool.and_eq_true, Bool.and_eq_true, isB_iff R, isB_iff R, and_congr_right_iff]
  intro ha
  rw [and_congr_right_iff]
  intro hb
  by_cases hm : b ∈ o
  · obtain ⟨u, hu, rfl⟩ := mem_at hm
    have hol := ordd_len R.ord
    rw [loop_in R a ha.1 _ u (by rw [R.lst.len]; omega) hu]
    constructor
    · rintro ⟨d, hd, rfl, hA⟩
      refine .inr ⟨(reach_iff R.ord _).1 (at_mem hd), (reach_iff R.ord _).1 hm, ?_⟩
      rcases ((R.dom u hu d).1 hA).2.2 with h | h
      · exact .inl (by rw [h])
      · exact .inr h
    · rintro (rfl | ⟨h1, h2, h3⟩)
      · exact ⟨u, hu, rfl, .refl⟩
      · obtain ⟨d, hd, rfl⟩ := mem_at ((reach_iff R.ord _).2 h1)
        refine ⟨d, hd, rfl, (R.dom u hu d).2 ⟨hd, hu, ?_⟩⟩
        rcases h3 with h | h
        · exact .inl (at_inj R.ord.nodup hd hu h)
        · exact .inr h
  · rw [loop_off R a b ha.1 hb hm]
    constructor
    · exact .inl
    · rintro (h | ⟨_, h2, _⟩)
      · exact h
      · exact absurd ((reach_iff R.ord b).2 h2) hm
/-- Which edges go back. -/
theorem backL_iff (R : IdomR g o r par) (a b : Int) (ha : 0 ≤ a ∧ a < g.length) (hb : 0 ≤ b ∧ b < g.length) : backL r a b = true ↔ Dmb (Eg g) b a := by
  unfold backL
  rw [Bool.and_eq_true, Bool.or_eq_true, beq_iff_eq, decide_eq_true_eq, domL_iff R]
  have hr : (a = 0 ∨ 0 ≤ rd r a) ↔ Rch (Eg g) a := by
    rw [← reach_iff R.ord]
    constructor
    · rintro (rfl | h)
      · rw [← R.ord.head]; exact at_mem R.ord.pos
      · by_cases hm : a ∈ o
        · exact hm
        · rw [R.lst.off a ha.1 ha.2 hm] at h; omega
    · intro hm
      obtain ⟨u, hu, rfl⟩ := mem_at hm
      rcases Nat.eq_zero_or_pos u with rfl | h0
      · exact .inl R.ord.head
      · refine .inr ?_
        rw [R.lst.on u h0 hu]
        exact (R.ord.rng _ (at_mem (by have := R.dn u h0; omega))).1
  rw [hr]
  constructor
  · rintro ⟨h1, _, _, rfl | h⟩
    · exact ⟨h1, h1, .inl rfl⟩
    · exact h
  · intro h
    exact ⟨h.2.1, hb, ha, .inr h⟩
theorem dmb_an (R : IdomR g o r par) (a b : Int) : Dmb (Eg g) a b ↔ ∃ d u, d < o.length ∧ u < o.length ∧ a = at_ o d ∧ b = at_ o u ∧ An par d u := by
  constructor
  · rintro ⟨h1, h2, h3⟩
    obtain ⟨d, hd, rfl⟩ := mem_at ((reach_iff R.ord _).2 h1)
    obtain ⟨u, hu, rfl⟩ := mem_at ((reach_iff R.ord _).2 h2)
    refine ⟨d, u, hd, hu, rfl, rfl, (R.dom u hu d).2 ⟨hd, hu, h3.imp (fun h => at_inj R.ord.nodup hd hu h) id⟩⟩
  · rintro ⟨d, u, hd, hu, rfl, rfl, hA⟩
    exact ⟨(reach_iff R.ord _).1 (at_mem hd), (reach_iff R.ord _).1 (at_mem hu), ((R.dom u hu d).1 hA).2.2.imp (fun h => by rw [h]) id⟩
theorem dmb_places (R : IdomR g o r par) {d u : Nat} (hd : d < o.length) (hu : u < o.length) : Dmb (Eg g) (at_ o d) (at_ o u) ↔ An par d u := by
  rw [dmb_an R]
  constructor
  · rintro ⟨d', u', hd', hu', e1, e2, hA⟩
    rw [at_inj R.ord.nodup hd hd' e1, at_inj R.ord.nodup hu hu' e2]; exact hA
  · exact fun hA => ⟨d, u, hd, hu, rfl, rfl, hA⟩
end
end Go.Proofs.Ytnmeomdjhjgnfaa.X
end
section
/-! Plain: rounds that suffice; numbers from one to another. -/
set_option linter.unusedVariables false
set_option linter.unusedSimpArgs false
namespace Go.Proofs.Ytnmeomdjhjgnfaa.X
open Go.RowKit Go.Proofs.YtnmeomdjhjgnfaaW.PrintWords Go.Proofs.YtnmeomdjhjgnfaaW.PrintLast Go.Proofs.YtnmeomdjhjgnfaaW.PrintMore

/-- Some rounds suffice, and what comes out is Q. -/
def Ends {α : Type} (f : Nat → Option α) (Q : α → Prop) : Prop := ∃ k r, f k = some r ∧ Q r
theorem Ends.mono {α : Type} {f : Nat → Option α} {Q R : α → Prop} (h : Ends f Q) (hqr : ∀ r, Q r → R r) : Ends f R := by
  obtain ⟨k, r, hk, hq⟩ := h
  exact ⟨k, r, hk, hqr r hq⟩
theorem Ends.step {α : Type} {f g : Nat → Option α} {Q : α → Prop} (h : Ends g Q) (e : ∀ k, f (k + 1) = g k) : Ends f Q := by
  obtain ⟨k, r, hk, hq⟩ := h
  exact ⟨k + 1, r, (e k).trans hk, hq⟩
theorem Ends.same {α : Type} {f g : Nat → Option α} {Q : α → Prop} (h : Ends g Q) (e : ∀ k, f k = g k) : Ends f Q := by
  obtain ⟨k, r, hk, hq⟩ := h
  exact ⟨k, r, (e k).trans hk, hq⟩
theorem Ends.bind {α β : Type} {f : Nat → Option α} {g : Nat → α → Option β} {P : α → Prop} {Q : β → Prop} (hf : ∀ k, LeO (f k) (f (k + 1))) (hg : ∀ a k, LeO (g k a) (g (k + 1) a)) (h : Ends f P) (h2 : ∀ a, P a → Ends (fun k => g k a) Q) : Ends (fun k => (f k).bind (g k)) Q := by
  obtain ⟨k, a, hk, hp⟩ := h
  obtain ⟨m, r, hm, hq⟩ := h2 a hp
  refine ⟨k + m, r, ?_, hq⟩
  show (f (k + m)).bind (g (k + m)) = some r
  rw [up hf (m := k + m) (by omega) hk, Option.bind_some]
  exact up (f := fun k => g k a) (hg a) (by omega) hm

/-- The numbers from i on, d of them, that P holds of. -/
def upto (P : Int → Bool) : Nat → Int → List Int
  | 0, _ => []
  | d + 1, i => if P i = true then i :: upto P d (i + 1) else upto P d (i + 1)
theorem mem_upto (P : Int → Bool) : ∀ (d : Nat) (i x : Int), x ∈ upto P d i ↔ (i ≤ x ∧ x < i + d) ∧ P x = true
  | 0, i, x => by simp [upto]; omega
  | d + 1, i, x => by
    rw [upto]
    by_cases h : P i = true
    · rw [if_pos h, List.mem_cons, mem_upto P d (i + 1) x]
      constructor
      · rintro (rfl | ⟨h1, h2⟩)
        · exact ⟨by omega, h⟩
        · exact ⟨by omega, h2⟩
      · rintro ⟨h1, h2⟩
        by_cases e : x = i
        · exact .inl e
        · exact .inr ⟨by omega, h2⟩
    · rw [if_neg h, mem_upto P d (i + 1) x]
      constructor
      · rintro ⟨h1, h2⟩; exact ⟨by omega, h2⟩
      · rintro ⟨h1, h2⟩
        by_cases e : x = i
        · subst e; exact absurd h2 h
        · exact ⟨by omega, h2⟩
theorem upto_sorted (P : Int → Bool) : ∀ (d : Nat) (i : Int), (upto P d i).Pairwise (· < ·)
  | 0, _ => List.Pairwise.nil
  | d + 1, i => by
    rw [upto]
    split
    · exact List.pairwise_cons.2 ⟨fun x hx => by have := ((mem_upto P d (i + 1) x).1 hx).1; omega, upto_sorted P d (i + 1)⟩
    · exact upto_sorted P d (i + 1)
/-- Rising rows of the same numbers are the same. -/
theorem sorted_eq {l m : List Int} (hl : l.Pairwise (· < ·)) (hm : m.Pairwise (· < ·)) (h : ∀ x, x ∈ l ↔ x ∈ m) : l = m := by
  refine List.Perm.eq_of_pairwise (le := (· < ·)) (fun a b _ _ h1 h2 => by omega) hl hm ?_
  exact (List.perm_ext_iff_of_nodup (hl.imp (fun h e => by omega)) (hm.imp (fun h e => by omega))).2 h
theorem upto_congr {P Q : Int → Bool} : ∀ (d : Nat) (i : Int), (∀ x, i ≤ x → x < i + d → P x = Q x) → upto P d i = upto Q d i
  | 0, _, _ => rfl
  | d + 1, i, h => by
    rw [upto, upto, h i (by omega) (by omega), upto_congr d (i + 1) (fun x h1 h2 => h x (by omega) (by omega))]
theorem upto_range (P : Int → Bool) : ∀ (d i : Nat), upto P d i = ((List.range' i d).map (fun (b : Nat) => (b : Int))).filter P
  | 0, _ => rfl
  | d + 1, i => by
    have ih := upto_range P d (i + 1)
    rw [upto, List.range'_succ, List.map_cons, List.filter_cons, ← ih]
    rfl
theorem keptL_upto (row : List Int) (n : Nat) : keptL row n = upto (fun b => row.contains b) n 0 := by
  have := upto_range (fun b => row.contains b) n 0
  rw [← List.range_eq_range'] at this
  unfold keptL
  rw [Int.toNat_natCast]
  exact this.symm

end Go.Proofs.Ytnmeomdjhjgnfaa.X
end
section
/-! Plain: what graph.Preds, Headers, Reducible and Body tell, by edges and dominance. -/
set_option linter.unusedVariables false
set_option linter.unusedSimpArgs false
namespace Go.Proofs.Ytnmeomdjhjgnfaa.X
open Go.RowKit Go.Proofs.YtnmeomdjhjgnfaaW.PrintWords Go.Proofs.YtnmeomdjhjgnfaaW.PrintLast Go.Proofs.YtnmeomdjhjgnfaaW.PrintMore

/-- Edges stand in order. -/
theorem edges_sorted : ∀ (rows : List (List Int)) (i : Nat), (∀ r ∈ rows, r.Pairwise (· < ·)) → (edgesFrom i rows).Pairwise (fun e f => e.1 < f.1 ∨ (e.1 = f.1 ∧ e.2 < f.2))
  | [], _, _ => List.Pairwise.nil
  | r :: rows, i, h => by
    rw [edgesFrom, List.pairwise_append]
    refine ⟨?_, edges_sorted rows (i + 1) (fun r hr => h r (List.mem_cons_of_mem _ hr)), fun e he f hf => ?_⟩
    · rw [List.pairwise_map]
      exact (h r List.mem_cons_self).imp (fun hlt => .inr ⟨rfl, hlt⟩)
    · obtain ⟨b, _, rfl⟩ := List.mem_map.1 he
      obtain ⟨j, _, h1, _⟩ := (mem_edgesFrom rows (i + 1) f).1 hf
      refine .inl ?_
      show (i : Int) < f.1
      omega
theorem clean_sorted (g : List (List Int)) : ∀ r ∈ cleanL g, r.Pairwise (· < ·) := by
  intro r hr
  obtain ⟨row, _, rfl⟩ := List.mem_map.1 hr
  rw [keptL_upto]
  exact upto_sorted _ _ _
theorem preds_upto (g : List (List Int)) (b : Int) (hb : 0 ≤ b ∧ b < (g.length : Int)) : rd_L1 (predsL g) b = upto (fun a => eB g a b) g.length 0 := by
  obtain ⟨j, rfl⟩ := Int.eq_ofNat_of_zero_le hb.1
  refine sorted_eq ?_ (upto_sorted _ _ _) (fun x => ?_)
  · rw [rd_preds g j (by omega), List.pairwise_map]
    refine List.Pairwise.imp_of_mem ?_ ((edges_sorted (cleanL g) 0 (clean_sorted g)).filter _)
    intro e f he hf h
    have h1 : e.2 = (j : Int) := by simpa using (List.mem_filter.1 he).2
    have h2 : f.2 = (j : Int) := by simpa using (List.mem_filter.1 hf).2
    omega
  · rw [mem_preds g x _ hb, mem_upto]
    constructor
    · intro h
      have := Eg_in h
      exact ⟨by omega, h⟩
    · exact fun h => h.2
/-- An edge that does not go back. -/
def NB (g : List (List Int)) (a b : Int) : Prop := Eg g a b ∧ ¬ Dmb (Eg g) b a
/-! ### numbers by places -/
theorem numR_not : ∀ (l : List Int) (x : Int), x ∉ l → numR l x = 0
  | [], _, _ => rfl
  | b :: t, x, h => by
    rw [numR, if_neg (fun e => h (by rw [e]; exact List.mem_cons_self)), numR_not t x (fun hx => h (List.mem_cons_of_mem _ hx))]
theorem numR_at : ∀ (l : List Int), l.Nodup → ∀ (i : Nat) (hi : i < l.length), numR l l[i] = (l.length - i : Nat)
  | [], _, i, hi => absurd hi (Nat.not_lt_zero _)
  | b :: t, hn, i, hi => by
    rw [List.nodup_cons] at hn
    cases i with
    | zero => rw [numR]; simp
    | succ i =>
      have hi' : i < t.length := by simpa using hi
      have ih := numR_at t hn.2 i hi'
      rw [numR, List.getElem_cons_succ, if_neg (fun e => hn.1 (by rw [e]; exact List.getElem_mem _)), ih]
      simp
theorem numL_at {o : List Int} (hn : o.Nodup) {i : Nat} (hi : i < o.length) : numL o (at_ o i) = i + 1 := by
  have hr : o.reverse.Nodup := (List.reverse_perm _).nodup_iff.2 hn
  have hi2 : o.length - 1 - i < o.reverse.length := by rw [List.length_reverse]; omega
  have h := numR_at o.reverse hr (o.length - 1 - i) hi2
  have e : o.reverse[o.length - 1 - i]'hi2 = at_ o i := by
    rw [List.getElem_reverse]
    unfold at_
    rw [List.getD_eq_getElem?_getD, List.getElem?_eq_getElem hi]
    have : o.length - 1 - (o.length - 1 - i) = i := by omega
    simp [this]
  rw [e] at h
  unfold numL
  rw [h, List.length_reverse]
  omega
theorem numL_not {o : List Int} {x : Int} (h : x ∉ o) : numL o x = 0 := numR_not _ _ (fun hx => h (List.mem_reverse.1 hx))
section
variable {g : List (List Int)} {o r : List Int} {par : Nat → Nat}
/-- What graph.Reducible tells: edges that do not go back go on. -/
theorem redL_iff (R : IdomR g o r par) : redL g r o = true ↔ ∀ i j, i < o.length → j < o.length → NB g (at_ o i) (at_ o j) → i < j := by
  unfold redL
  rw [List.all_eq_true]
  constructor
  · intro h i j hi hj ⟨he, hd⟩
    have hr := Eg_in he
    have h1 := h (at_ o i, at_ o j) ((mem_edgesL g _ _).2 he)
    have hb : backL r (at_ o i) (at_ o j) = false := by
      rw [← Bool.not_eq_true, backL_iff R _ _ ⟨hr.1, hr.2.1⟩ ⟨hr.2.2.1, hr.2.2.2⟩]; exact hd
    simp only [hb, numL_at R.ord.nodup hi, numL_at R.ord.nodup hj, Bool.not_false, Bool.and_true, Bool.not_eq_true', Bool.and_eq_false_iff, decide_eq_false_iff_not] at h1
    omega
  · intro h e he
    have he' := (mem_edgesL g e.1 e.2).1 he
    have hr := Eg_in he'
    by_cases h0 : e.1 ∈ o
    · have h2 := R.ord.closed _ h0 _ he'
      obtain ⟨i, hi, e1⟩ := mem_at h0
      obtain ⟨j, hj, e2⟩ := mem_at h2
      by_cases hb : backL r e.1 e.2 = true
      · rw [hb]; simp
      · have hNB : NB g (at_ o i) (at_ o j) := by
          rw [e1, e2]
          exact ⟨he', fun hd => hb ((backL_iff R _ _ ⟨hr.1, hr.2.1⟩ ⟨hr.2.2.1, hr.2.2.2⟩).2 hd)⟩
        have hlt := h i j hi hj hNB
        have : decide (numL o e.2 ≤ numL o e.1) = false := by
          rw [← e1, ← e2, numL_at R.ord.nodup hi, numL_at R.ord.nodup hj]
          exact decide_eq_false (by omega)
        rw [this]; simp
    · rw [numL_not h0]; simp
/-- A set each of which has an edge that does not go back from one of it. -/
def Sup (g : List (List Int)) (C : Int → Prop) : Prop := ∀ y, C y → ∃ z, C z ∧ NB g z y
theorem fw_sup (R : IdomR g o r par) (j : Nat) (hj : j < o.length) : ∀ x, FW (Eg g) o j x → ∃ C : Int → Prop, C (at_ o j) ∧ C (at_ o x) ∧ (∀ y, C y → y ∈ o) ∧ ∀ y, C y → y = at_ o j ∨ ∃ z, C z ∧ NB g z y := by
  intro x h
  induction h with
  | refl => exact ⟨fun y => y = at_ o j, rfl, rfl, fun y hy => hy ▸ at_mem hj, fun y hy => .inl hy⟩
  | @step z x _ he hlt hx ih =>
    obtain ⟨C, h1, h2, h3, h4⟩ := ih
    refine ⟨fun y => C y ∨ y = at_ o x, .inl h1, .inr rfl, fun y hy => ?_, fun y hy => ?_⟩
    · rcases hy with hy | hy
      · exact h3 y hy
      · rw [hy]; exact at_mem hx
    · rcases hy with hy | hy
      · rcases h4 y hy with h5 | ⟨w, hw, hn⟩
        · exact .inl h5
        · exact .inr ⟨w, .inl hw, hn⟩
      · subst hy
        refine .inr ⟨at_ o z, .inl h2, he, fun hd => ?_⟩
        have := ((dmb_places R hx (by omega)).1 hd).le R.dn
        omega
/-- Where an edge that does not go back does not go on, such a set is there. -/
theorem red_sup (R : IdomR g o r par) (h : ¬ redL g r o = true) : ∃ C : Int → Prop, Sup g C ∧ (∀ y, C y → y ∈ o) ∧ ∃ y, C y := by
  rw [redL_iff R] at h
  have : ∃ i j, i < o.length ∧ j < o.length ∧ NB g (at_ o i) (at_ o j) ∧ ¬ i < j := by
    refine Classical.byContradiction (fun hn => h (fun i j hi hj hN => ?_))
    exact Classical.byContradiction (fun hlt => hn ⟨i, j, hi, hj, hN, hlt⟩)
  obtain ⟨i, j, hi, hj, hN, hlt⟩ := this
  have hf := (R.ord.back i j hi hj hN.1).resolve_left hlt
  obtain ⟨C, h1, h2, h3, h4⟩ := fw_sup R j hj i hf
  refine ⟨C, fun y hy => ?_, h3, _, h1⟩
  rcases h4 y hy with h5 | h5
  · exact ⟨_, h2, h5 ▸ hN⟩
  · exact h5
end
/-! ### graph.Body -/
section
variable {g : List (List Int)} {h : Int}
variable {o r : List Int} {par : Nat → Nat}
end
section
variable {g : List (List Int)} {o r : List Int} {par : Nat → Nat}
theorem reducible_some (hg : okG g = true) (hn2 : g.length ≤ 1000) (R : IdomR g o r par) {k : Nat} (ho : graph_Order.f k g = some o) (hr : graph_Idom.f k g = some r) : graph_Reducible.f k g = some (redL g r o) := by
  have hol := ordd_len R.ord
  unfold graph_Reducible.f
  rw [if_pos hg, hr, Option.bind_some, ho, Option.bind_some, if_pos ⟨R.lst.len, by omega, R.ord.rng⟩]
end
end Go.Proofs.Ytnmeomdjhjgnfaa.X
end
section
/-! Plain: what the laws share: rests, orders and dominators of a graph of plain numbers. -/
set_option linter.unusedVariables false
set_option linter.unusedSimpArgs false
namespace Go.Proofs.Ytnmeomdjhjgnfaa.X
open Go.RowKit Go.Proofs.YtnmeomdjhjgnfaaW.PrintWords Go.Proofs.YtnmeomdjhjgnfaaW.PrintLast Go.Proofs.YtnmeomdjhjgnfaaW.PrintMore

/-- Orders and dominators of a graph. -/
theorem get_idom (g : List (List Int)) (hok : okG g = true) (hn : 0 < g.length) (hn2 : g.length ≤ 1000) : ∃ k o r par, graph_Order.f k g = some o ∧ graph_Idom.f k g = some r ∧ IdomR g o r par := by
  obtain ⟨o, h1, H⟩ := order_some g hok hn g.length (Nat.le_refl _)
  obtain ⟨k, r, par, h2, R⟩ := idom_some g hok hn hn2 o ⟨_, h1⟩ H
  refine ⟨k + g.length, o, r, par, ?_, ?_, R⟩
  · exact up (f := fun k => graph_Order.f k g) (fun k => graph_Order.mono k g) (by omega) h1
  · exact up (f := fun k => graph_Idom.f k g) (fun k => graph_Idom.mono g k) (by omega) h2
theorem domf_some {g : List (List Int)} {o r : List Int} {par : Nat → Nat} (hok : okG g = true) (R : IdomR g o r par) (a b : Int) : graph_Dominates.f r a b = some (domL r a b) := by
  have := (okG_len hok).1
  have := R.lst.len
  unfold graph_Dominates.f
  rw [if_pos (by omega)]
end Go.Proofs.Ytnmeomdjhjgnfaa.X
end
section
/-! Plain: a block put on an edge changes nothing of who dominates whom, nor whether a graph is reducible. -/
set_option linter.unusedVariables false
set_option linter.unusedSimpArgs false
namespace Go.Proofs.Ytnmeomdjhjgnfaa.X
open Go.RowKit Go.Proofs.YtnmeomdjhjgnfaaW.PrintWords Go.Proofs.YtnmeomdjhjgnfaaW.PrintLast Go.Proofs.YtnmeomdjhjgnfaaW.PrintMore

/-- Reducible is told where no set of reached blocks holds itself. -/
theorem redL_sup {g : List (List Int)} {o r : List Int} {par : Nat → Nat} (R : IdomR g o r par) : redL g r o = true ↔ ¬ ∃ C : Int → Prop, Sup g C ∧ (∀ y, C y → Rch (Eg g) y) ∧ ∃ y, C y := by
  constructor
  · rintro hred ⟨C, hC, hCr, y, hy⟩
    rw [redL_iff R] at hred
    have key : ∀ (k u : Nat), u ≤ k → u < o.length → ¬ C (at_ o u) := by
      intro k
      induction k with
      | zero =>
        intro u hk hu hon
        obtain ⟨a, ha, hN⟩ := hC _ hon
        obtain ⟨i, hi, rfl⟩ := mem_at ((reach_iff R.ord a).2 (hCr a ha))
        have := hred i u hi hu hN
        omega
      | succ k ih =>
        intro u hk hu hon
        obtain ⟨a, ha, hN⟩ := hC _ hon
        obtain ⟨i, hi, rfl⟩ := mem_at ((reach_iff R.ord a).2 (hCr a ha))
        have := hred i u hi hu hN
        exact ih i (by omega) hi ha
    obtain ⟨u, hu, rfl⟩ := mem_at ((reach_iff R.ord y).2 (hCr y hy))
    exact key u u (Nat.le_refl _) hu hy
  · intro h
    refine Classical.byContradiction (fun hn => h ?_)
    obtain ⟨C, h1, h2, h3⟩ := red_sup R hn
    exact ⟨C, h1, fun y hy => (reach_iff R.ord y).1 (h2 y hy), h3⟩
/-- h is g with block n on the edge from a to b. -/
structure PutG (g h : List (List Int)) (a b : Int) : Prop where
  len : h.length = g.length + 1
  pos : 0 < g.length
  at' : Eg g a b
  edge : ∀ x y, Eg h x y ↔ (Eg g x y ∧ ¬ (x = a ∧ y = b)) ∨ (x = a ∧ y = g.length) ∨ (x = g.length ∧ y = b)
section
variable {g h : List (List Int)} {a b : Int}
theorem av_self {E : Int → Int → Prop} {z : Int} : ¬ RAv E z z := by
  have key : ∀ y, RAv E z y → y ≠ z := by
    intro y hy
    induction hy with
    | start h => exact fun e => h e.symm
    | step _ _ h _ => exact h
  exact fun h => key z h rfl
theorem put_av1 (H : PutG g h a b) {z y : Int} (hz : z ≠ g.length) (hy : RAv (Eg g) z y) : RAv (Eg h) z y := by
  induction hy with
  | start h => exact .start h
  | @step x y _ he hne ih =>
    by_cases e : x = a ∧ y = b
    · obtain ⟨rfl, rfl⟩ := e
      exact .step (.step ih ((H.edge _ _).2 (.inr (.inl ⟨rfl, rfl⟩))) hz.symm) ((H.edge _ _).2 (.inr (.inr ⟨rfl, rfl⟩))) hne
    · exact .step ih ((H.edge _ _).2 (.inl ⟨he, e⟩)) hne
theorem put_av2 (H : PutG g h a b) {z y : Int} (hy : RAv (Eg h) z y) : (y ≠ g.length → RAv (Eg g) z y) ∧ (y = g.length → RAv (Eg g) z a) := by
  have hp := H.pos
  have hab := Eg_in H.at'
  induction hy with
  | start h => exact ⟨fun _ => .start h, fun e => by omega⟩
  | @step x y _ he hne ih =>
    rcases (H.edge x y).1 he with ⟨h1, _⟩ | ⟨rfl, rfl⟩ | ⟨rfl, rfl⟩
    · have hr := Eg_in h1
      exact ⟨fun _ => .step (ih.1 (by omega)) h1 hne, fun e => by omega⟩
    · exact ⟨fun h => absurd rfl h, fun _ => ih.1 (by omega)⟩
    · exact ⟨fun _ => .step (ih.2 rfl) H.at' hne, fun e => by omega⟩
theorem put_av (H : PutG g h a b) {z y : Int} (hz : z < g.length) (hy : y < g.length) : RAv (Eg h) z y ↔ RAv (Eg g) z y :=
  ⟨fun h => (put_av2 H h).1 (by omega), fun h => put_av1 H (by omega) h⟩
theorem put_dmb (H : PutG g h a b) {x y : Int} (hx : x < g.length) (hy : y < g.length) : Dmb (Eg h) x y ↔ Dmb (Eg g) x y := by
  unfold Dmb Rch
  rw [put_av H (by omega) hx, put_av H (by omega) hy, put_av H hx hy]
/-- a is come to without the new block. -/
theorem put_new (H : PutG g h a b) (ha : Rch (Eg g) a) : RAv (Eg h) g.length a := by
  have hp := H.pos
  have key : ∀ y, Rch (Eg g) y → RAv (Eg h) g.length y ∨ RAv (Eg h) g.length a := by
    intro y hy
    induction hy with
    | start _ => exact .inl (.start (by omega))
    | @step x y _ he _ ih =>
      rcases ih with ih | ih
      · by_cases e : x = a ∧ y = b
        · exact .inr (e.1 ▸ ih)
        · have := Eg_in he
          exact .inl (.step ih ((H.edge _ _).2 (.inl ⟨he, e⟩)) (by omega))
      · exact .inr ih
  rcases key a ha with h | h <;> exact h
theorem put_at_new (H : PutG g h a b) {z : Int} (hz : RAv (Eg h) z g.length) : RAv (Eg h) z a := by
  have hp := H.pos
  have hab := Eg_in H.at'
  obtain ⟨y, hy⟩ : ∃ y : Int, y = g.length := ⟨_, rfl⟩
  rw [← hy] at hz
  cases hz with
  | start => omega
  | @step x _ h1 he _ =>
    rcases (H.edge x y).1 he with ⟨h2, _⟩ | ⟨rfl, _⟩ | ⟨rfl, h3⟩
    · have := Eg_in h2; omega
    · exact h1
    · omega
theorem put_sup (H : PutG g h a b) : (∃ C : Int → Prop, Sup g C ∧ (∀ y, C y → Rch (Eg g) y) ∧ ∃ y, C y) ↔ ∃ C : Int → Prop, Sup h C ∧ (∀ y, C y → Rch (Eg h) y) ∧ ∃ y, C y := by
  have hp := H.pos
  have hab := Eg_in H.at'
  constructor
  · rintro ⟨C, hC, hCr, y0, hy0⟩
    have hrng : ∀ y, C y → 0 ≤ y ∧ y < g.length := fun y hy => RAv.rng hp (hCr y hy)
    refine ⟨fun y => C y ∨ (y = g.length ∧ C a), fun y hy => ?_, fun y hy => ?_, y0, .inl hy0⟩
    · rcases hy with hy | ⟨rfl, hca⟩
      · obtain ⟨z, hz, hN⟩ := hC y hy
        have hzr := hrng z hz
        have hyr := hrng y hy
        by_cases e : z = a ∧ y = b
        · obtain ⟨rfl, rfl⟩ := e
          refine ⟨g.length, .inr ⟨rfl, hz⟩, (H.edge _ _).2 (.inr (.inr ⟨rfl, rfl⟩)), fun hd => hN.2 ?_⟩
          refine ⟨hCr _ hy, hCr _ hz, ?_⟩
          by_cases e : y = z
          · exact .inl e
          · refine .inr (fun hav => ?_)
            rcases hd.2.2 with h1 | h1
            · omega
            · exact h1 (.step (put_av1 H (by omega) hav) ((H.edge _ _).2 (.inr (.inl ⟨rfl, rfl⟩))) (by omega))
        · exact ⟨z, .inl hz, (H.edge _ _).2 (.inl ⟨hN.1, e⟩), fun hd => hN.2 ((put_dmb H hyr.2 hzr.2).1 hd)⟩
      · refine ⟨a, .inl hca, (H.edge _ _).2 (.inr (.inl ⟨rfl, rfl⟩)), fun hd => ?_⟩
        rcases hd.2.2 with h1 | h1
        · omega
        · exact h1 (put_new H (hCr a hca))
    · rcases hy with hy | ⟨rfl, hca⟩
      · exact put_av1 H (by omega) (hCr y hy)
      · exact RAv.step (put_av1 H (z := -1) (by omega) (hCr a hca)) ((H.edge _ _).2 (.inr (.inl ⟨rfl, rfl⟩))) (by omega)
  · rintro ⟨C, hC, hCr, y0, hy0⟩
    have hne : ∀ y, C y → 0 ≤ y ∧ y < g.length + 1 := fun y hy => by
      have := RAv.rng (g := h) (by rw [H.len]; omega) (hCr y hy)
      rw [H.len] at this
      omega
    have hnew : C g.length → C a := fun hn => by
      obtain ⟨w, hw, hN⟩ := hC _ hn
      rcases (H.edge w _).1 hN.1 with ⟨h2, _⟩ | ⟨rfl, _⟩ | ⟨_, h3⟩
      · have := Eg_in h2; omega
      · exact hw
      · omega
    refine ⟨fun y => y < g.length ∧ C y, fun y hy => ?_, fun y hy => ?_, ?_⟩
    · obtain ⟨z, hz, hN⟩ := hC y hy.2
      have hzr := hne z hz
      rcases (H.edge z y).1 hN.1 with ⟨h2, _⟩ | ⟨_, h3⟩ | ⟨rfl, rfl⟩
      · have hr := Eg_in h2
        exact ⟨z, ⟨hr.2.1, hz⟩, h2, fun hd => hN.2 ((put_dmb H hy.1 hr.2.1).2 hd)⟩
      · omega
      · refine ⟨a, ⟨hab.2.1, hnew hz⟩, H.at', fun hd => hN.2 ?_⟩
        have hd' := (put_dmb H hab.2.2.2 hab.2.1).2 hd
        refine ⟨hd'.1, hCr _ hz, .inr (fun hav => ?_)⟩
        have h1 := put_at_new H hav
        rcases hd'.2.2 with h2 | h2
        · subst h2; exact av_self h1
        · exact h2 h1
    · have := hne y hy.2
      exact (put_av H (by omega) hy.1).1 (hCr y hy.2)
    · by_cases e : y0 = g.length
      · subst e; exact ⟨a, hab.2.1, hnew hy0⟩
      · have := hne y0 hy0
        exact ⟨y0, by omega, hy0⟩
theorem put_red (H : PutG g h a b) {o r o' r' : List Int} {par par' : Nat → Nat} (R : IdomR g o r par) (R' : IdomR h o' r' par') : redL g r o = redL h r' o' := by
  rw [Bool.eq_iff_iff, redL_sup R, redL_sup R', put_sup H]
theorem put_dom (H : PutG g h a b) {o r o' r' : List Int} {par par' : Nat → Nat} (R : IdomR g o r par) (R' : IdomR h o' r' par') (x y : Int) (hx : 0 ≤ x ∧ x < g.length) (hy : 0 ≤ y ∧ y < g.length) : domL r x y = domL r' x y := by
  rw [Bool.eq_iff_iff, domL_iff R, domL_iff R', put_dmb H hx.2 hy.2, H.len]
  constructor
  · rintro ⟨_, _, h⟩; exact ⟨by omega, by omega, h⟩
  · rintro ⟨_, _, h⟩; exact ⟨hx, hy, h⟩
/-- No critical edge has the new block at an end. -/
theorem put_crit (H : PutG g h a b) : ∀ e ∈ critL h, e.f0 ≠ g.length ∧ e.f1 ≠ g.length := by
  have hab := Eg_in H.at'
  have one : ∀ (P : Int → Bool) (v : Int), (∀ x, P x = true → x = v) → ∀ d i, (upto P d i).length ≤ 1 := by
    intro P v hP d
    induction d with
    | zero => intro i; simp [upto]
    | succ d ih =>
      intro i
      rw [upto]
      split
      · rename_i hi
        have e : upto P d (i + 1) = [] := List.eq_nil_iff_forall_not_mem.2 (fun x hx => by
          have h1 := (mem_upto P d (i + 1) x).1 hx
          have := hP x h1.2
          have := hP i hi
          omega)
        rw [e]; simp
      · exact ih (i + 1)
  intro e he
  unfold critL at he
  obtain ⟨p, hp, rfl⟩ := List.mem_map.1 he
  obtain ⟨hp1, hp2⟩ := List.mem_filter.1 hp
  have hE := (mem_edgesL h p.1 p.2).1 hp1
  have hr := Eg_in hE
  rw [Bool.and_eq_true, decide_eq_true_eq, decide_eq_true_eq] at hp2
  refine ⟨fun e0 => ?_, fun e0 => ?_⟩
  · replace e0 : p.1 = g.length := e0
    have h1 : rd_L1 (cleanL h) p.1 = keptL (rd_L1 h p.1) h.length := by
      obtain ⟨j, hj⟩ := Int.eq_ofNat_of_zero_le hr.1
      rw [hj]; exact rd_clean h j (by omega)
    have h2 : (rd_L1 (cleanL h) p.1).length ≤ 1 := by
      rw [h1, keptL_upto]
      have h3 : ∀ (d : Nat) (i : Int), 0 ≤ i → i + d = h.length → upto (fun x => (rd_L1 h p.1).contains x) d i = upto (fun x => eB h p.1 x) d i := fun d i h0 hd => upto_congr d i (fun x hx0 hx1 => by
        rw [Bool.eq_iff_iff, eB_iff, List.contains_iff_mem]
        exact ⟨fun h => ⟨hr.1, hr.2.1, by omega, by omega, h⟩, fun h => h.2.2.2.2⟩)
      rw [h3 h.length 0 (by omega) (by omega)]
      refine one _ b (fun x hx => ?_) _ _
      rcases (H.edge p.1 x).1 hx with ⟨h4, _⟩ | ⟨h4, _⟩ | ⟨_, h4⟩
      · have := Eg_in h4; omega
      · omega
      · exact h4
    have h5 : 1 < (rd_L1 (cleanL h) p.1).length := hp2.1
    omega
  · replace e0 : p.2 = g.length := e0
    have h1 : (rd_L1 (predsL h) p.2).length ≤ 1 := by
      rw [preds_upto h p.2 ⟨hr.2.2.1, hr.2.2.2⟩]
      refine one _ a (fun x hx => ?_) _ _
      rcases (H.edge x p.2).1 hx with ⟨h4, _⟩ | ⟨h4, _⟩ | ⟨_, h4⟩
      · have := Eg_in h4; omega
      · exact h4
      · omega
    have h5 : 1 < (rd_L1 (predsL h) p.2).length := hp2.2
    omega
end
end Go.Proofs.Ytnmeomdjhjgnfaa.X
end
section
/-! Plain: rests. -/
set_option linter.unusedVariables false
set_option linter.unusedSimpArgs false
namespace Go.Proofs.Ytnmeomdjhjgnfaa.X
open Go.RowKit Go.Proofs.YtnmeomdjhjgnfaaW.PrintWords Go.Proofs.YtnmeomdjhjgnfaaW.PrintLast Go.Proofs.YtnmeomdjhjgnfaaW.PrintMore

theorem rest_some (a n : Int) (h0 : 0 < n) (h1 : n ≤ 1000000) : ∃ x, jacquardlaw02_rest.f a n = some x ∧ 0 ≤ x ∧ x < n := by
  have hm1 := Int.tmod_lt_of_pos a h0
  have hm2 := Int.lt_tmod_of_pos a h0
  have e4 : wrap64 (Int.tmod a n + n) = Int.tmod a n + n := w64 (by omega) (by omega)
  refine ⟨_, by unfold jacquardlaw02_rest.f; rw [if_neg (by omega)], ?_, ?_⟩
  · rw [e4]; exact Int.tmod_nonneg _ (by omega)
  · exact Int.tmod_lt_of_pos _ h0
end Go.Proofs.Ytnmeomdjhjgnfaa.X
end
section
/-! The plain law of GraphPut. -/
set_option linter.unusedSimpArgs false
set_option linter.unusedVariables false
namespace Go.Proofs.Ytnmeomdjhjgnfaa.Pure
open Go.RowKit Go.Proofs.Ytnmeomdjhjgnfaa.X Go.Proofs.YtnmeomdjhjgnfaaW.PrintWords Go.Proofs.YtnmeomdjhjgnfaaW.PrintLast

def putV (a b n i v : Int) : Int := if i = a ∧ v = b then n else v
section
variable {g h : List (List Int)} {a b : Int} {o r o' r' : List Int} {par par' : Nat → Nat}
theorem put_l4 (hg : okG g = true) (hh : okG h = true) (hn : g.length ≤ 900) (H : PutG g h a b) (R : IdomR g o r par) (R' : IdomR h o' r' par') {k0 : Nat} (ho : graph_Order.f k0 g = some o) (hr : graph_Idom.f k0 g = some r) (ho' : graph_Order.f k0 h = some o') (hr' : graph_Idom.f k0 h = some r') (n : Int) (hn2 : n = g.length) (hcl : (critL h).length ≤ 1000000000) :
    ∀ (d i : Nat), i + d = (critL h).length → ∃ k, jacquardlaw02_GraphPut.l4 k true g n h (critL h) i = some true := by
  have hlen := H.len
  intro d
  induction d with
  | zero =>
    intro i hd
    refine ⟨k0 + 1, ?_⟩
    rw [jacquardlaw02_GraphPut.l4, if_neg (by omega), if_pos rfl, reducible_some hg (by omega) R ho hr, reducible_some hh (by omega) R' ho' hr', Option.bind_some, Option.bind_some, put_red H R R']
    simp
  | succ d ih =>
    intro i hd
    have hlt : i < (critL h).length := by omega
    have e : rd_T73 (critL h) i = (critL h)[i] := by simp [rd_T73, hlt]
    have hc := put_crit H _ (List.getElem_mem hlt)
    obtain ⟨k, hk⟩ := ih (i + 1) (by omega)
    refine ⟨k + 1, ?_⟩
    rw [jacquardlaw02_GraphPut.l4, if_pos (by omega), if_pos (by omega), e, if_neg (by rw [hn2]; exact hc.1), if_neg (by rw [hn2]; exact hc.2), w64 (by omega) (by omega)]
    exact hk
theorem put_l3 (hg : okG g = true) (hh : okG h = true) (H : PutG g h a b) (R : IdomR g o r par) (R' : IdomR h o' r' par') (hn1 : g.length ≤ 1000) (x16 : Int) (h16 : 0 ≤ x16 ∧ x16 < g.length)
    (hc : ∃ k, jacquardlaw02_GraphPut.l2 k true g g.length h r r' (x16 + 1) = some true) : ∀ (d : Nat) (x17 : Int), 0 ≤ x17 → x17 + d = g.length → ∃ k, jacquardlaw02_GraphPut.l3 k true g g.length h r r' x16 x17 = some true := by
  intro d
  induction d with
  | zero =>
    intro x17 h0 hd
    obtain ⟨k, hk⟩ := hc
    refine ⟨k + 1, ?_⟩
    rw [jacquardlaw02_GraphPut.l3, if_neg (by omega), w64 (by omega) (by omega)]
    exact hk
  | succ d ih =>
    intro x17 h0 hd
    obtain ⟨k, hk⟩ := ih (x17 + 1) (by omega) (by omega)
    refine ⟨k + 1, ?_⟩
    rw [jacquardlaw02_GraphPut.l3, if_pos (by omega), domf_some hg R, domf_some hh R', Option.bind_some, Option.bind_some, put_dom H R R' x16 x17 h16 ⟨h0, by omega⟩, w64 (by omega) (by omega), bne_self_eq_false, if_neg (by decide)]
    exact hk
theorem put_l2 (hg : okG g = true) (hh : okG h = true) (hn : g.length ≤ 900) (H : PutG g h a b) (R : IdomR g o r par) (R' : IdomR h o' r' par') {k0 : Nat} (ho : graph_Order.f k0 g = some o) (hr : graph_Idom.f k0 g = some r) (ho' : graph_Order.f k0 h = some o') (hr' : graph_Idom.f k0 h = some r') :
    ∀ (d : Nat) (x16 : Int), 0 ≤ x16 → x16 + d = g.length → ∃ k, jacquardlaw02_GraphPut.l2 k true g g.length h r r' x16 = some true := by
  intro d
  induction d with
  | zero =>
    intro x16 h0 hd
    have hcl : (critL h).length ≤ 1000000000 := by
      have h1 := edgesL_length h
      have hlen := H.len
      have h2 : h.length * h.length ≤ 1000 * 1000 := Nat.mul_le_mul (by omega) (by omega)
      unfold critL
      rw [List.length_map]
      refine Nat.le_trans (List.length_filter_le _ _) (by omega)
    obtain ⟨k, hk⟩ := put_l4 hg hh hn H R R' ho hr ho' hr' g.length rfl hcl (critL h).length 0 (by omega)
    refine ⟨k + 1, ?_⟩
    rw [jacquardlaw02_GraphPut.l2, if_neg (by omega), show graph_Critical.f h = some (critL h) from by unfold graph_Critical.f; rw [if_pos hh], Option.bind_some]
    exact hk
  | succ d ih =>
    intro x16 h0 hd
    obtain ⟨k, hk⟩ := put_l3 hg hh H R R' (by omega) x16 ⟨h0, by omega⟩ (ih (x16 + 1) (by omega) (by omega)) g.length 0 (by omega) (by omega)
    refine ⟨k + 1, ?_⟩
    rw [jacquardlaw02_GraphPut.l2, if_pos (by omega)]
    exact hk
theorem put_fin (hg : okG g = true) (hh : okG h = true) (hn : g.length ≤ 900) (H : PutG g h a b) :
    ∃ k, ((graph_Idom.f k g).bind fun t465 => ((graph_Idom.f k h).bind fun t468 => (if (t468.length : Int) = (wrap64 ((g.length : Int) + 1)) then (jacquardlaw02_GraphPut.j2 k true g g.length h t465 t468 ((t465.length : Int) != (g.length : Int))) else (jacquardlaw02_GraphPut.j2 k true g g.length h t465 t468 true)))) = some true := by
  have hlen := H.len
  have hpos := H.pos
  obtain ⟨k1, o, r, par, ho, hr, R⟩ := get_idom g hg hpos (by omega)
  obtain ⟨k2, o', r', par', ho', hr', R'⟩ := get_idom h hh (by omega) (by omega)
  obtain ⟨k3, hk3⟩ := put_l2 hg hh hn H R R' (k0 := k1 + k2) (up (f := fun k => graph_Order.f k g) (fun k => graph_Order.mono k g) (by omega) ho) (up (f := fun k => graph_Idom.f k g) (fun k => graph_Idom.mono g k) (by omega) hr) (up (f := fun k => graph_Order.f k h) (fun k => graph_Order.mono k h) (by omega) ho') (up (f := fun k => graph_Idom.f k h) (fun k => graph_Idom.mono h k) (by omega) hr') g.length 0 (by omega) (by omega)
  have e1 := up (f := fun k => graph_Idom.f k g) (fun k => graph_Idom.mono g k) (m := k1 + k2 + k3 + 1) (by omega) hr
  have e2 := up (f := fun k => graph_Idom.f k h) (fun k => graph_Idom.mono h k) (m := k1 + k2 + k3 + 1) (by omega) hr'
  have e3 := up (f := fun k => jacquardlaw02_GraphPut.l2 k true g g.length h r r' 0) (fun k => (jacquardlaw02_GraphPut.mono_l k).2.2.2.1 _ _ _ _ _ _ _) (m := k1 + k2 + k3) (by omega) hk3
  have l1 := R.lst.len
  have l2 := R'.lst.len
  refine ⟨k1 + k2 + k3 + 1, ?_⟩
  have hb : ((r.length : Int) != (g.length : Int)) = false := by rw [l1]; simp
  rw [e1, Option.bind_some, e2, Option.bind_some, if_pos (by rw [w64 (by omega) (by omega)]; omega), hb, jacquardlaw02_GraphPut.j2, if_neg (by decide)]
  exact e3
end
section
variable {g : List (List Int)} {a b : Int}
theorem put_l1 (hG : MadeG g) (i : Int) (hi : 0 ≤ i ∧ i < g.length) (x10 : List (List Int)) (hx : x10.length ≤ 1000)
    (hc : ∃ k, jacquardlaw02_GraphPut.l0 k true g a b g.length (x10 ++ [(rd_L1 g i).map (putV a b g.length i)]) (i + 1) = some true) :
    ∀ (d j : Nat), j + d = (rd_L1 g i).length → ∃ k, jacquardlaw02_GraphPut.l1 k true g a b g.length x10 i (((rd_L1 g i).take j).map (putV a b g.length i)) j = some true := by
  have hf := hG.few
  have hrow : (rd_L1 g i).length ≤ 3 := by
    have e : rd_L1 g i = g[i.toNat]'(by omega) := by
      unfold rd_L1
      rw [List.getD_eq_getElem?_getD, List.getElem?_eq_getElem (by omega)]; rfl
    rw [e]
    exact (hG.rows _ (List.getElem_mem _)).1
  intro d
  induction d with
  | zero =>
    intro j hd
    obtain ⟨k, hk⟩ := hc
    refine ⟨k + 1, ?_⟩
    rw [jacquardlaw02_GraphPut.l1, if_pos hi.1, if_pos (by omega), if_neg (by omega), if_pos (by omega), w64 (by omega) (by omega), List.take_of_length_le (by omega)]
    exact hk
  | succ d ih =>
    intro j hd
    have hlt : j < (rd_L1 g i).length := by omega
    have hw : wrap64 ((j : Int) + 1) = ((j + 1 : Nat) : Int) := by rw [w64 (by omega) (by omega)]; omega
    have hrd : rd (rd_L1 g i) j = (rd_L1 g i)[j] := by simp [rd, hlt]
    obtain ⟨k, hk⟩ := ih (j + 1) (by omega)
    rw [List.take_succ_eq_append_getElem hlt, List.map_append, ← hrd] at hk
    have hll : (((rd_L1 g i).take j).map (putV a b g.length i)).length < 17592186044416 := by
      rw [List.length_map]
      have := List.length_take_le j (rd_L1 g i)
      omega
    refine ⟨k + 1, ?_⟩
    rw [jacquardlaw02_GraphPut.l1, if_pos hi.1, if_pos (by omega), if_pos (by omega), hw]
    by_cases e1 : i = a
    · by_cases e2 : rd (rd_L1 g i) j = b
      · rw [if_pos e1, if_pos (by omega), if_pos e2, if_pos hll]
        rw [show List.map (putV a b g.length i) [rd (rd_L1 g i) j] = [(g.length : Int)] from by rw [List.map_cons, List.map_nil]; unfold putV; rw [if_pos ⟨e1, e2⟩]] at hk
        exact hk
      · rw [if_pos e1, if_pos (by omega), if_neg e2, if_pos hll]
        rw [show List.map (putV a b g.length i) [rd (rd_L1 g i) j] = [rd (rd_L1 g i) j] from by rw [List.map_cons, List.map_nil]; unfold putV; rw [if_neg (fun h => e2 h.2)]] at hk
        exact hk
    · rw [if_neg e1, if_pos (by omega), if_pos hll]
      rw [show List.map (putV a b g.length i) [rd (rd_L1 g i) j] = [rd (rd_L1 g i) j] from by rw [List.map_cons, List.map_nil]; unfold putV; rw [if_neg (fun h => e1 h.1)]] at hk
      exact hk
theorem put_is (hG : MadeG g) (hab : Eg g a b) (x : List (List Int)) (hl : x.length = g.length) (hx : ∀ i, 0 ≤ i → i < (g.length : Int) → rd_L1 x i = (rd_L1 g i).map (putV a b g.length i)) : PutG g (x ++ [[b]]) a b ∧ okG (x ++ [[b]]) = true := by
  have hp := hG.pos
  have hf := hG.few
  have hrow : ∀ i, 0 ≤ i → i < (g.length : Int) → (rd_L1 g i).length ≤ 3 ∧ ∀ y ∈ rd_L1 g i, 0 ≤ y ∧ y < g.length := fun i h0 h1 => by
    have e : rd_L1 g i = g[i.toNat]'(by omega) := by
      unfold rd_L1
      rw [List.getD_eq_getElem?_getD, List.getElem?_eq_getElem (by omega)]; rfl
    rw [e]
    exact hG.rows _ (List.getElem_mem _)
  have hlen : (x ++ [[b]]).length = g.length + 1 := by rw [List.length_append]; simp [hl]
  have hrd : ∀ i, 0 ≤ i → i < (g.length : Int) + 1 → rd_L1 (x ++ [[b]]) i = if i = g.length then [b] else (rd_L1 g i).map (putV a b g.length i) := fun i h0 h1 => by
    by_cases e : i = g.length
    · rw [if_pos e]
      unfold rd_L1
      rw [List.getD_eq_getElem?_getD, List.getElem?_append_right (by omega), show i.toNat - x.length = 0 from by omega]
      rfl
    · rw [if_neg e, ← hx i h0 (by omega)]
      unfold rd_L1
      rw [List.getD_eq_getElem?_getD, List.getElem?_append_left (by omega), ← List.getD_eq_getElem?_getD]
  have hr := Eg_in hab
  refine ⟨⟨hlen, hp, hab, fun p q => ?_⟩, ?_⟩
  · unfold Eg
    rw [eB_iff, eB_iff, hlen]
    constructor
    · rintro ⟨h1, h2, h3, h4, h5⟩
      rw [hrd p h1 (by omega)] at h5
      by_cases e : p = g.length
      · rw [if_pos e] at h5
        exact .inr (.inr ⟨e, List.mem_singleton.1 h5⟩)
      · rw [if_neg e] at h5
        obtain ⟨v, hv, rfl⟩ := List.mem_map.1 h5
        have hvr := (hrow p h1 (by omega)).2 v hv
        by_cases e2 : p = a ∧ v = b
        · refine .inr (.inl ⟨e2.1, ?_⟩)
          unfold putV; rw [if_pos e2]
        · have e3 : putV a b g.length p v = v := by unfold putV; rw [if_neg e2]
          rw [e3]
          exact .inl ⟨⟨h1, by omega, hvr.1, hvr.2, hv⟩, e2⟩
    · rintro (⟨⟨h1, h2, h3, h4, h5⟩, h6⟩ | ⟨rfl, rfl⟩ | ⟨rfl, rfl⟩)
      · refine ⟨h1, by omega, h3, by omega, ?_⟩
        rw [hrd p h1 (by omega), if_neg (by omega)]
        exact List.mem_map.2 ⟨q, h5, by unfold putV; rw [if_neg h6]⟩
      · refine ⟨hr.1, by omega, by omega, by omega, ?_⟩
        rw [hrd p hr.1 (by omega), if_neg (by omega)]
        exact List.mem_map.2 ⟨b, (eB_iff.1 hab).2.2.2.2, by unfold putV; rw [if_pos ⟨rfl, rfl⟩]⟩
      · refine ⟨by omega, by omega, hr.2.2.1, by omega, ?_⟩
        rw [hrd _ (by omega) (by omega), if_pos rfl]
        simp
  · unfold okG
    rw [Bool.and_eq_true, decide_eq_true_eq, List.all_eq_true, hlen]
    refine ⟨by omega, fun row hrow2 => decide_eq_true ?_⟩
    obtain ⟨i, hi, rfl⟩ := List.getElem_of_mem hrow2
    have e : (x ++ [[b]])[i] = rd_L1 (x ++ [[b]]) i := by
      unfold rd_L1
      rw [List.getD_eq_getElem?_getD, Int.toNat_natCast, List.getElem?_eq_getElem hi]; rfl
    rw [e, hrd i (by omega) (by omega)]
    split
    · simp
    · rw [List.length_map]
      have := (hrow i (by omega) (by omega)).1
      omega
theorem put_l0 (hG : MadeG g) (hab : Eg g a b) : ∀ (d : Nat) (x11 : Int) (x10 : List (List Int)), x11 + d = g.length → (x10.length : Int) = x11 → (∀ i, 0 ≤ i → i < x11 → rd_L1 x10 i = (rd_L1 g i).map (putV a b g.length i)) →
    ∃ k, jacquardlaw02_GraphPut.l0 k true g a b g.length x10 x11 = some true := by
  have hf := hG.few
  intro d
  induction d with
  | zero =>
    intro x11 x10 hd hl hx
    obtain ⟨H, hh⟩ := put_is hG hab x10 (by omega) (fun i h0 h1 => hx i h0 (by omega))
    obtain ⟨k, hk⟩ := put_fin hG.ok hh (by omega) H
    refine ⟨k + 1, ?_⟩
    rw [jacquardlaw02_GraphPut.l0, if_neg (by omega), if_pos (by omega), Option.bind_some]
    exact hk
  | succ d ih =>
    intro x11 x10 hd hl hx
    obtain ⟨k, hk⟩ := put_l1 hG x11 ⟨by omega, by omega⟩ x10 (by omega) (ih (x11 + 1) (x10 ++ [_]) (by omega) (by rw [List.length_append]; simp; omega) (fun i h0 h1 => by
      have e : ∀ row, rd_L1 (x10 ++ [row]) i = if i = x10.length then row else rd_L1 x10 i := fun row => by
        unfold rd_L1
        rw [List.getD_eq_getElem?_getD, List.getD_eq_getElem?_getD]
        by_cases h : i = x10.length
        · rw [if_pos h, List.getElem?_append_right (by omega), show i.toNat - x10.length = 0 from by omega]; rfl
        · rw [if_neg h, List.getElem?_append_left (by omega)]
      rw [e]
      by_cases h : i = x10.length
      · rw [if_pos h, h, hl]
      · rw [if_neg h]; exact hx i h0 (by omega))) (rd_L1 g x11).length 0 (by omega)
    refine ⟨k + 1, ?_⟩
    rw [jacquardlaw02_GraphPut.l0, if_pos (by omega)]
    exact hk
end
theorem put_all (l0 : List Int) (a1_0 a1_1 : Int) (hs : l0.length * 8 ≤ 140737488351232) : ∃ k, jacquardlaw02_GraphPut.f k l0 a1_0 a1_1 = some true := by
  obtain ⟨k1, g, hk1, hG⟩ := made_some l0 hs
  have hf := hG.few
  have hp := hG.pos
  obtain ⟨a, ha, ha0, ha1⟩ := rest_some a1_0 g.length (by omega) (by omega)
  by_cases hz : ((rd_L1 g a).length : Int) = 0
  · refine ⟨k1, ?_⟩
    unfold jacquardlaw02_GraphPut.f
    unfold jacquardlaw02_awake.f
    simp only [Option.bind_some]
    rw [hk1]
    simp only [Option.bind_some]
    rw [ha]
    simp only [Option.bind_some]
    rw [if_pos ha0, if_pos ha1, if_pos hz]
  · have e : rd_L1 g a = g[a.toNat]'(by omega) := by
      unfold rd_L1
      rw [List.getD_eq_getElem?_getD, List.getElem?_eq_getElem (by omega)]; rfl
    have hrow := hG.rows _ (List.getElem_mem (show a.toNat < g.length by omega))
    rw [← e] at hrow
    obtain ⟨j, hj, hj0, hj1⟩ := rest_some a1_1 (rd_L1 g a).length (by omega) (by omega)
    have hm : rd (rd_L1 g a) j ∈ rd_L1 g a := by
      unfold rd
      rw [List.getD_eq_getElem?_getD, List.getElem?_eq_getElem (by omega)]
      exact List.getElem_mem _
    have hb := hrow.2 _ hm
    obtain ⟨k2, hk2⟩ := put_l0 hG (a := a) (b := rd (rd_L1 g a) j) (eB_iff.2 ⟨ha0, ha1, hb.1, hb.2, hm⟩) g.length 0 [] (by omega) rfl (fun i h0 h1 => by omega)
    have e1 := up (f := fun k => jacquardref02_Made.f k l0) (fun k => jacquardref02_Made.mono _ _) (m := k1 + k2) (by omega) hk1
    have e2 := up (f := fun k => jacquardlaw02_GraphPut.l0 k true g a (rd (rd_L1 g a) j) g.length [] 0) (fun k => (jacquardlaw02_GraphPut.mono_l k).1 _ _ _ _ _ _ _) (m := k1 + k2) (by omega) hk2
    refine ⟨k1 + k2, ?_⟩
    unfold jacquardlaw02_GraphPut.f
    unfold jacquardlaw02_awake.f
    simp only [Option.bind_some]
    rw [e1]
    simp only [Option.bind_some]
    rw [ha]
    simp only [Option.bind_some]
    rw [if_pos ha0, if_pos ha1, if_neg hz, hj]
    simp only [Option.bind_some]
    rw [if_pos hj0, if_pos hj1]
    exact e2
end Go.Proofs.Ytnmeomdjhjgnfaa.Pure
end
