/- Parts of the proof of GraphOrder: Pchk, Pdomn, Pidf, Pdm, Plaw, Pwo, Ptab, PureGraphOrder. -/
import Derived.Test.YtnmeomdjhjgnfaaB3
import Derived.Test.YtnmeomdjhjgnfaaB2
import Derived.Test.YtnmeomdjhjgnfaaB1
section
/-! Plain: graph.Idom's loops over places. -/
set_option linter.unusedVariables false
set_option linter.unusedSimpArgs false
namespace Go.Proofs.Ytnmeomdjhjgnfaa.X
open Go.RowKit Go.Proofs.YtnmeomdjhjgnfaaW.PrintWords Go.Proofs.YtnmeomdjhjgnfaaW.PrintLast Go.Proofs.YtnmeomdjhjgnfaaW.PrintMore

/-- The numbers of the blocks. -/
structure Nm (o : List Int) (n : Nat) (num : List Int) : Prop where
  len : num.length = n
  on : ∀ i, i < o.length → rd num (at_ o i) = i
  off : ∀ x, 0 ≤ x → x < (n : Int) → x ∉ o → rd num x = -1
/-- What the list of parents holds when the places below i have one. -/
structure Ot (o : List Int) (n i : Nat) (par : Nat → Nat) (out : List Int) : Prop where
  len : out.length = n
  on : ∀ j, 0 < j → j < i → rd out (at_ o j) = at_ o (par j)
  root : rd out 0 = -1
  not : ∀ j, i ≤ j → j < o.length → rd out (at_ o j) = -1
  off : ∀ x, 0 ≤ x → x < (n : Int) → x ∉ o → rd out x = -1

theorem chk_common {o : List Int} {n i : Nat} {par : Nat → Nat} {out num : List Int} (hr : ∀ x ∈ o, 0 ≤ x ∧ x < (n : Int)) (hi : i ≤ o.length) (hN : Nm o n num) (hO : Ot o n i par out) (hd : Dn par) : ∀ (K a b : Nat), a < i → b < i → a + b < K →
    graph_common.f K out num (at_ o a) (at_ o b) = some (at_ o (com par K a b))
  | 0, a, b, _, _, h => by omega
  | K + 1, a, b, ha, hb, h => by
    have h1 := hr _ (at_mem (show a < o.length by omega))
    have h2 := hr _ (at_mem (show b < o.length by omega))
    have hl := hN.len
    have hl2 := hO.len
    rw [graph_common.f, if_pos (by omega), hN.on a (by omega), hN.on b (by omega), com]
    by_cases hba : b < a
    · have h3 := hd a (by omega)
      rw [if_pos (by omega), if_pos (by omega), if_pos hba, hO.on a (by omega) ha]
      exact chk_common hr hi hN hO hd K (par a) b (by omega) hb (by omega)
    · rw [if_neg (by omega), if_neg hba]
      by_cases hab : a < b
      · have h3 := hd b (by omega)
        rw [if_pos (by omega), if_pos (by omega), if_pos hab, hO.on b (by omega) hb]
        exact chk_common hr hi hN hO hd K a (par b) ha (by omega) (by omega)
      · rw [if_neg (by omega), if_neg hab]

/-- Has a block a parent (or is it the first)? -/
def hasP (num out : List Int) (x : Int) : Bool := decide (0 ≤ rd num x) && (decide (x = 0) || decide (0 ≤ rd out x))
def encB (o : List Int) : Option Nat → Int
  | none => -1
  | some p => at_ o p
def stepB (num out : List Int) (par : Nat → Nat) (m : Nat) (best : Option Nat) (x : Int) : Option Nat :=
  if hasP num out x = true then some (match best with | none => (rd num x).toNat | some p => com par (2 * m) p (rd num x).toNat) else best
theorem hasP_iff {E : Int → Int → Prop} {o : List Int} {n i : Nat} {par : Nat → Nat} {out num : List Int} (H : Ordd E n o) (hi0 : 0 < i) (hi : i ≤ o.length) (hN : Nm o n num) (hO : Ot o n i par out) (hd : Dn par) (x : Int) (hx : 0 ≤ x ∧ x < (n : Int)) :
    hasP num out x = true ↔ ∃ j, j < i ∧ x = at_ o j := by
  unfold hasP
  rw [Bool.and_eq_true, Bool.or_eq_true, decide_eq_true_eq, decide_eq_true_eq, decide_eq_true_eq]
  constructor
  · rintro ⟨h1, h2⟩
    by_cases hm : x ∈ o
    · obtain ⟨j, hj, rfl⟩ := mem_at hm
      refine ⟨j, ?_, rfl⟩
      rcases Nat.lt_or_ge j i with h | h
      · exact h
      · exfalso
        rcases h2 with h2 | h2
        · have := at_inj H.nodup hj H.pos (h2.trans H.head.symm)
          omega
        · rw [hO.not j h hj] at h2; omega
    · rw [hN.off x hx.1 hx.2 hm] at h1; omega
  · rintro ⟨j, hj, rfl⟩
    refine ⟨by rw [hN.on j (by omega)]; omega, ?_⟩
    rcases Nat.eq_zero_or_pos j with rfl | h0
    · exact .inl H.head
    · have h3 := hd j h0
      exact .inr (by rw [hO.on j h0 hj]; exact (H.rng _ (at_mem (by omega))).1)
def contL (x3 num out : List Int) (preds : List (List Int)) (chg : Bool) (x12 : Int) (x55 : List Int) (x56 x57 : Int) (k : Nat) (x13 : Int) : Option (List Int) :=
  if 0 ≤ x12 then (if x12 < (out.length : Int) then (if rd out x12 = x13 then (graph_Idom.l3 k x3 num out preds chg x55 x56 (wrap64 (x57 + 1))) else (graph_Idom.l3 k x3 num (out.set (x12 : Int).toNat x13) preds true x55 x56 (wrap64 (x57 + 1)))) else (none)) else (none)
theorem up4 (x3 num out : List Int) (preds : List (List Int)) (chg : Bool) (x12 x13 : Int) (x55 : List Int) (x56 x57 : Int) (row : List Int) (x65 x66 : Int) (r : List Int) {k m : Nat} (hm : k ≤ m) (h : graph_Idom.l4 k x3 num out preds chg x12 x13 x55 x56 x57 row x65 x66 = some r) :
    graph_Idom.l4 m x3 num out preds chg x12 x13 x55 x56 x57 row x65 x66 = some r :=
  up (f := fun k => graph_Idom.l4 k x3 num out preds chg x12 x13 x55 x56 x57 row x65 x66) (fun k => (graph_Idom.mono_l k).2.2.2.2.1 _ _ _ _ _ _ _ _ _ _ _ _ _) hm h
theorem chk_l4 {E : Int → Int → Prop} {o : List Int} {n i : Nat} {par : Nat → Nat} {out num : List Int} (H : Ordd E n o) (hi0 : 0 < i) (hi : i ≤ o.length) (hN : Nm o n num) (hO : Ot o n i par out) (hd : Dn par) (x3 : List Int) (preds : List (List Int)) (chg : Bool) (x12 : Int) (x55 : List Int) (x56 x57 : Int) (row : List Int)
    (hrow : ∀ x ∈ row, 0 ≤ x ∧ x < (n : Int)) (hl : row.length ≤ 1000000) (r : List Int) : ∀ (d i66 : Nat) (best : Option Nat), i66 + d = row.length → (∀ p, best = some p → p < i) →
    (∃ k, contL x3 num out preds chg x12 x55 x56 x57 k (encB o ((row.drop i66).foldl (stepB num out par o.length) best)) = some r) →
    ∃ k, graph_Idom.l4 k x3 num out preds chg x12 (encB o best) x55 x56 x57 row row.length i66 = some r := by
  intro d
  induction d with
  | zero =>
    intro i66 best h66 hb hc
    obtain ⟨k, hk⟩ := hc
    rw [List.drop_of_length_le (by omega)] at hk
    refine ⟨k + 1, ?_⟩
    rw [graph_Idom.l4, if_neg (by omega)]
    exact hk
  | succ d ih =>
    intro i66 best h66 hb hc
    have hlt : i66 < row.length := by omega
    have hx : rd row i66 = row[i66] := by simp [rd, hlt]
    have hxr := hrow (rd row i66) (by rw [hx]; exact List.getElem_mem _)
    rw [List.drop_eq_getElem_cons hlt, List.foldl_cons, ← hx] at hc
    have hw : wrap64 ((i66 : Int) + 1) = ((i66 + 1 : Nat) : Int) := by unfold wrap64; omega
    have hnl := hN.len
    have hol := hO.len
    have hiff := hasP_iff H hi0 hi hN hO hd (rd row i66) hxr
    cases hp : hasP num out (rd row i66) with
    | false =>
      rw [show stepB num out par o.length best (rd row i66) = best from by unfold stepB; rw [hp]; rfl] at hc
      obtain ⟨k, hk⟩ := ih (i66 + 1) best (by omega) hb hc
      refine ⟨k + 1 + 1, ?_⟩
      rw [graph_Idom.l4, if_pos (by omega), if_pos (by omega), if_pos (by omega), if_pos hxr.1, if_pos (by omega)]
      have hj : graph_Idom.j5 (k + 1) x3 num out preds chg x12 (encB o best) (rd row i66) x55 x56 x57 row row.length i66 true = some r := by
        rw [graph_Idom.j5, if_pos rfl, hw]; exact hk
      unfold hasP at hp
      by_cases h1 : rd num (rd row i66) < 0
      · rw [if_pos h1]; exact hj
      · rw [if_neg h1]
        rw [decide_eq_true (by omega), Bool.true_and, Bool.or_eq_false_iff] at hp
        have h2 := of_decide_eq_false hp.1
        have h3 := of_decide_eq_false hp.2
        rw [if_neg h2, if_pos (by omega), decide_eq_true (by omega)]
        exact hj
    | true =>
      obtain ⟨j, hj, ej⟩ := hiff.1 hp
      have hnum : rd num (rd row i66) = j := by rw [ej]; exact hN.on j (by omega)
      have hin : ∃ k, graph_Idom.j5 k x3 num out preds chg x12 (encB o best) (rd row i66) x55 x56 x57 row row.length i66 false = some r := by
        cases best with
        | none =>
          rw [show stepB num out par o.length none (rd row i66) = some j from by unfold stepB; rw [if_pos hp, hnum]; rfl] at hc
          obtain ⟨k, hk⟩ := ih (i66 + 1) (some j) (by omega) (fun p e => by injection e with e; omega) hc
          refine ⟨k + 1, ?_⟩
          rw [graph_Idom.j5, if_neg (by decide), if_pos (show encB o none < 0 from by show (-1 : Int) < 0; omega), hw, ej]
          exact hk
        | some p =>
          rw [show stepB num out par o.length (some p) (rd row i66) = some (com par (2 * o.length) p j) from by unfold stepB; rw [if_pos hp, hnum]; rfl] at hc
          have hpi := hb p rfl
          have hcl := com_le hd (2 * o.length) p j (by omega)
          obtain ⟨k, hk⟩ := ih (i66 + 1) (some (com par (2 * o.length) p j)) (by omega) (fun q e => by injection e with e; omega) hc
          have hpr := H.rng _ (at_mem (show p < o.length by omega))
          refine ⟨(k + 2 * o.length) + 1, ?_⟩
          have hcm := up (f := fun k => graph_common.f k out num (at_ o p) (at_ o j)) (fun k => graph_common.mono _ _ _ _ _) (m := k + 2 * o.length) (by omega) (chk_common (fun x hx => H.rng x hx) hi hN hO hd (2 * o.length) p j hpi hj (by omega))
          rw [graph_Idom.j5, if_neg (by decide), if_neg (show ¬ (encB o (some p) < 0) from by show ¬ (at_ o p < 0); omega), ej]
          show (graph_common.f (k + 2 * o.length) out num (at_ o p) (at_ o j)).bind _ = _
          rw [hcm, Option.bind_some, hw]
          exact up4 _ _ _ _ _ _ _ _ _ _ _ _ _ _ (by omega) hk
      obtain ⟨k, hk⟩ := hin
      refine ⟨k + 1, ?_⟩
      rw [graph_Idom.l4, if_pos (by omega), if_pos (by omega), if_pos (by omega), if_pos hxr.1, if_pos (by omega), if_neg (by omega)]
      by_cases h0 : rd row i66 = 0
      · rw [if_pos h0]; exact hk
      · rw [if_neg h0, if_pos (by omega)]
        unfold hasP at hp
        rw [decide_eq_true (by omega), Bool.true_and, decide_eq_false h0, Bool.false_or, decide_eq_true_eq] at hp
        rw [decide_eq_false (by omega)]
        exact hk
end Go.Proofs.Ytnmeomdjhjgnfaa.X
namespace Go.Proofs.Ytnmeomdjhjgnfaa.X
open Go.RowKit Go.Proofs.YtnmeomdjhjgnfaaW.PrintWords Go.Proofs.YtnmeomdjhjgnfaaW.PrintLast Go.Proofs.YtnmeomdjhjgnfaaW.PrintMore
/-! ### the fold is the nearest one -/
def plN (num : List Int) (x : Int) : Nat := (rd num x).toNat
theorem fold_some (num out : List Int) (par : Nat → Nat) (m : Nat) : ∀ (l : List Int) (p : Nat), l.foldl (stepB num out par m) (some p) = some (nca par (2 * m) p ((l.filter (hasP num out)).map (plN num)))
  | [], p => rfl
  | x :: l, p => by
    rw [List.foldl_cons]
    by_cases h : hasP num out x = true
    · rw [show stepB num out par m (some p) x = some (com par (2 * m) p (plN num x)) from by unfold stepB; rw [if_pos h]; rfl, fold_some num out par m l, List.filter_cons, if_pos h]
      rfl
    · rw [show stepB num out par m (some p) x = some p from by unfold stepB; rw [if_neg h], fold_some num out par m l, List.filter_cons, if_neg h]
theorem fold_none (num out : List Int) (par : Nat → Nat) (m : Nat) : ∀ (l : List Int) (p : Nat) (ps : List Nat), (l.filter (hasP num out)).map (plN num) = p :: ps → l.foldl (stepB num out par m) none = some (nca par (2 * m) p ps)
  | [], p, ps, h => by simp at h
  | x :: l, p, ps, h => by
    rw [List.foldl_cons]
    by_cases hx : hasP num out x = true
    · rw [List.filter_cons, if_pos hx, List.map_cons] at h
      injection h with h1 h2
      rw [show stepB num out par m none x = some (plN num x) from by unfold stepB; rw [if_pos hx]; rfl, fold_some, h1, h2]
    · rw [List.filter_cons, if_neg hx] at h
      rw [show stepB num out par m none x = none from by unfold stepB; rw [if_neg hx]]
      exact fold_none num out par m l p ps h
/-- A parent is written. -/
theorem Ot.put {E : Int → Int → Prop} {o : List Int} {n i k v : Nat} {par : Nat → Nat} {out : List Int} (H : Ordd E n o) (h : Ot o n i par out) (hk0 : 0 < k) (hk : k < o.length) (hki : k ≤ i) (him : i ≤ o.length) (hv : v < o.length) :
    Ot o n (max i (k + 1)) (upd par k v) (out.set (at_ o k).toNat (at_ o v)) := by
  have hr := H.rng _ (at_mem hk)
  have hlen := h.len
  have hne : ∀ x, 0 ≤ x → x ≠ at_ o k → rd (out.set (at_ o k).toNat (at_ o v)) x = rd out x := fun x h0 hn => by
    unfold rd
    rw [List.getD_eq_getElem?_getD, List.getD_eq_getElem?_getD, List.getElem?_set_ne (by omega)]
  have heq : rd (out.set (at_ o k).toNat (at_ o v)) (at_ o k) = at_ o v := by
    unfold rd
    rw [List.getD_eq_getElem?_getD, List.getElem?_set_self (by omega)]
    rfl
  refine ⟨by simp [h.len], fun j h0 hj => ?_, ?_, fun j hj hm => ?_, fun x h0 h1 hx => ?_⟩
  · by_cases e : j = k
    · subst e; rw [heq]; unfold upd; rw [if_pos rfl]
    · rw [hne _ (H.rng _ (at_mem (by omega))).1 (fun hh => e (at_inj H.nodup (by omega) hk hh)), h.on j h0 (by omega)]
      unfold upd; rw [if_neg e]
  · rw [hne 0 (Int.le_refl 0) (fun hh => by have := at_inj H.nodup H.pos hk (H.head.trans hh); omega)]; exact h.root
  · rw [hne _ (H.rng _ (at_mem hm)).1 (fun hh => by have := at_inj H.nodup hm hk hh; omega)]; exact h.not j (by omega) hm
  · rw [hne x h0 (fun hh => hx (hh ▸ at_mem hk))]; exact h.off x h0 h1 hx
end Go.Proofs.Ytnmeomdjhjgnfaa.X
namespace Go.Proofs.Ytnmeomdjhjgnfaa.X
open Go.RowKit Go.Proofs.YtnmeomdjhjgnfaaW.PrintWords Go.Proofs.YtnmeomdjhjgnfaaW.PrintLast Go.Proofs.YtnmeomdjhjgnfaaW.PrintMore
/-! ### sweeps over the lists -/
/-- The places from which a place is come to. -/
def PP (o num : List Int) (preds : List (List Int)) (i : Nat) : List Nat := ((rd_L1 preds (at_ o i)).filter (fun x => decide (x ∈ o))).map (plN num)
theorem filt_map (p : Int → Bool) (q : Int → Bool) (f : Int → Nat) (t : Nat → Bool) : ∀ (l : List Int), (∀ x ∈ l, p x = (q x && t (f x))) → (l.filter p).map f = ((l.filter q).map f).filter t
  | [], _ => rfl
  | x :: l, h => by
    have ih := filt_map p q f t l (fun y hy => h y (List.mem_cons_of_mem _ hy))
    have hx := h x List.mem_cons_self
    rw [List.filter_cons, List.filter_cons]
    cases hq : q x with
    | false =>
      rw [hq, Bool.false_and] at hx
      rw [hx]
      simpa using ih
    | true =>
      rw [hq, Bool.true_and] at hx
      rw [hx]
      cases ht : t (f x) with
      | false => simp [ht, ih]
      | true => simp [ht, ih]
theorem rows_set {E : Int → Int → Prop} {o : List Int} {n i : Nat} {par : Nat → Nat} {out num : List Int} (H : Ordd E n o) (hi0 : 0 < i) (hi : i ≤ o.length) (hN : Nm o n num) (hO : Ot o n i par out) (hd : Dn par) (preds : List (List Int)) (b : Nat) (hrow : ∀ x ∈ rd_L1 preds (at_ o b), 0 ≤ x ∧ x < (n : Int)) :
    ((rd_L1 preds (at_ o b)).filter (hasP num out)).map (plN num) = (PP o num preds b).filter (fun q => decide (q < i)) := by
  unfold PP
  refine filt_map _ _ _ _ _ (fun x hx => ?_)
  rw [Bool.eq_iff_iff, hasP_iff H hi0 hi hN hO hd x (hrow x hx), Bool.and_eq_true, decide_eq_true_eq, decide_eq_true_eq]
  constructor
  · rintro ⟨j, hj, rfl⟩
    refine ⟨at_mem (by omega), ?_⟩
    unfold plN
    rw [hN.on j (by omega)]
    exact hj
  · rintro ⟨hm, hp⟩
    obtain ⟨j, hj, rfl⟩ := mem_at hm
    unfold plN at hp
    rw [hN.on j hj] at hp
    exact ⟨j, hp, rfl⟩
/-- One block's turn: what is written is the nearest one's block. -/
theorem chk_turn {E : Int → Int → Prop} {o : List Int} {n i b : Nat} {par : Nat → Nat} {out num : List Int} (H : Ordd E n o) (hi0 : 0 < i) (hi : i ≤ o.length) (hN : Nm o n num) (hO : Ot o n i par out) (hd : Dn par) (preds : List (List Int)) (hpl : preds.length = n) (hb0 : 0 < b) (hb : b < o.length) (hbi : b ≤ i)
    (hrow : ∀ x ∈ rd_L1 preds (at_ o b), 0 ≤ x ∧ x < (n : Int)) (hl : (rd_L1 preds (at_ o b)).length ≤ 1000000) (hol : o.length ≤ 1000000) (chg : Bool) (r : List Int) (p : Nat) (ps : List Nat) (hP : (PP o num preds b).filter (fun q => decide (q < i)) = p :: ps) (hv : nca par (2 * o.length) p ps < o.length)
    (hc : ∃ k, graph_Idom.l3 k o num (out.set (at_ o b).toNat (at_ o (nca par (2 * o.length) p ps))) preds (chg || decide (rd out (at_ o b) ≠ at_ o (nca par (2 * o.length) p ps))) (o.drop 1) ((o.drop 1).length : Int) ((b : Nat) : Int) = some r) :
    ∃ k, graph_Idom.l3 k o num out preds chg (o.drop 1) ((o.drop 1).length : Int) ((b : Int) - 1) = some r := by
  have hbr := H.rng _ (at_mem hb)
  have hlen := hO.len
  have hrd : rd (o.drop 1) ((b : Int) - 1) = at_ o b := by
    unfold rd at_
    rw [show ((b : Int) - 1).toNat = b - 1 from by omega, List.getD_eq_getElem?_getD, List.getElem?_drop, List.getD_eq_getElem?_getD, show 1 + (b - 1) = b from by omega]
  have hdl : (o.drop 1).length = o.length - 1 := List.length_drop
  have hw : wrap64 ((b : Int) - 1 + 1) = (b : Int) := by unfold wrap64; omega
  have hfold := fold_none num out par o.length (rd_L1 preds (at_ o b)) p ps (by rw [rows_set H hi0 hi hN hO hd preds b hrow]; exact hP)
  obtain ⟨k, hk⟩ := hc
  obtain ⟨k2, hk2⟩ := chk_l4 H hi0 hi hN hO hd o preds chg (at_ o b) (o.drop 1) ((o.drop 1).length : Int) ((b : Int) - 1) (rd_L1 preds (at_ o b)) hrow hl r (rd_L1 preds (at_ o b)).length 0 none (by omega) (fun p e => by cases e) ⟨k, by
    rw [List.drop_zero, hfold]
    unfold contL
    rw [if_pos hbr.1, if_pos (by omega), hw]
    show (if rd out (at_ o b) = at_ o (nca par (2 * o.length) p ps) then _ else _) = _
    by_cases e : rd out (at_ o b) = at_ o (nca par (2 * o.length) p ps)
    · rw [if_pos e]
      rw [decide_eq_false (fun h => h e), Bool.or_false] at hk
      have hset : out.set (at_ o b).toNat (at_ o (nca par (2 * o.length) p ps)) = out := by
        rw [← e]
        unfold rd
        rw [List.getD_eq_getElem?_getD, List.getElem?_eq_getElem (by omega)]
        exact List.set_getElem_self _
      rw [hset] at hk
      exact hk
    · rw [if_neg e]
      rw [decide_eq_true e, Bool.or_true] at hk
      exact hk⟩
  refine ⟨k2 + 1, ?_⟩
  rw [graph_Idom.l3, if_pos (by omega), if_pos (by omega), if_pos (by omega), hrd, if_pos hbr.1, if_pos (by omega)]
  exact hk2
end Go.Proofs.Ytnmeomdjhjgnfaa.X
namespace Go.Proofs.Ytnmeomdjhjgnfaa.X
open Go.RowKit Go.Proofs.YtnmeomdjhjgnfaaW.PrintWords Go.Proofs.YtnmeomdjhjgnfaaW.PrintLast Go.Proofs.YtnmeomdjhjgnfaaW.PrintMore
/-- The sum of the parents. -/
def sumP (par : Nat → Nat) : Nat → Nat
  | 0 => 0
  | m + 1 => sumP par m + par m
theorem sumP_upd (par : Nat → Nat) (b v : Nat) (hv : v ≤ par b) : ∀ m, sumP (upd par b v) m + (if b < m then par b - v else 0) = sumP par m
  | 0 => by simp [sumP]
  | m + 1 => by
    have ih := sumP_upd par b v hv m
    simp only [sumP]
    by_cases h : b = m
    · subst h
      have e : upd par b v b = v := by unfold upd; rw [if_pos rfl]
      rw [if_neg (Nat.lt_irrefl b)] at ih
      rw [if_pos (Nat.lt_succ_self b), e]
      omega
    · have e : upd par b v m = par m := by unfold upd; rw [if_neg (fun x => h x.symm)]
      rw [e]
      by_cases h2 : b < m
      · rw [if_pos h2] at ih; rw [if_pos (by omega)]; omega
      · rw [if_neg h2] at ih; rw [if_neg (by omega)]; omega
def FixAt (P : Nat → List Nat) (m : Nat) (par : Nat → Nat) (u : Nat) : Prop := ∃ p ps, P u = p :: ps ∧ nca par (2 * m) p ps = par u
theorem upd_self (par : Nat → Nat) (b : Nat) : upd par b (par b) = par := by
  funext u; unfold upd; split
  · rename_i h; rw [h]
  · rfl
theorem nonempty_cons {l : List Nat} {s : Nat} (h : s ∈ l) : ∃ p ps, l = p :: ps := by
  cases l with
  | nil => cases h
  | cons p ps => exact ⟨p, ps, rfl⟩
theorem filter_all (l : List Nat) (m : Nat) (h : ∀ q ∈ l, q < m) : l.filter (fun q => decide (q < m)) = l :=
  List.filter_eq_self.2 (fun q hq => decide_eq_true (h q hq))
section
variable {E : Int → Int → Prop} {o : List Int} {n : Nat} {num : List Int} {preds : List (List Int)} {Dm : Nat → Nat → Prop}
/-- A later sweep. -/
theorem chk_sweep (H : Ordd E n o) (hN : Nm o n num) (hpl : preds.length = n) (G : Gr o.length (PP o num preds) Dm) (hrow : ∀ b, b < o.length → ∀ x ∈ rd_L1 preds (at_ o b), 0 ≤ x ∧ x < (n : Int)) (hl : ∀ b, b < o.length → (rd_L1 preds (at_ o b)).length ≤ 1000000) (hol : o.length ≤ 1000000) (Q : List Int → Prop) (s0 : Nat) :
    ∀ (d b : Nat) (par : Nat → Nat) (out : List Int) (chg : Bool), b + d = o.length → 0 < b → Swp o.length (PP o num preds) Dm b par → Ot o n o.length par out → sumP par o.length ≤ s0 → (chg = true → sumP par o.length < s0) → (chg = false → ∀ u, 0 < u → u < b → FixAt (PP o num preds) o.length par u) →
    (∀ par' out' chg', Swp o.length (PP o num preds) Dm o.length par' → Ot o n o.length par' out' → (chg' = true → sumP par' o.length < s0) → (chg' = false → ∀ u, 0 < u → u < o.length → FixAt (PP o num preds) o.length par' u) → ∃ k r, graph_Idom.l2 k o num out' preds chg' = some r ∧ Q r) →
    ∃ k r, graph_Idom.l3 k o num out preds chg (o.drop 1) ((o.drop 1).length : Int) ((b : Int) - 1) = some r ∧ Q r := by
  intro d
  induction d with
  | zero =>
    intro b par out chg hb h0 hS hO hs1 hs2 hf hend
    obtain rfl : b = o.length := by omega
    obtain ⟨k, r, hk, hq⟩ := hend par out chg hS hO hs2 hf
    have hdl : (o.drop 1).length = o.length - 1 := List.length_drop
    refine ⟨k + 1, r, ?_, hq⟩
    rw [graph_Idom.l3, if_neg (by omega)]
    exact hk
  | succ d ih =>
    intro b par out chg hb h0 hS hO hs1 hs2 hf hend
    have hbm : b < o.length := by omega
    obtain ⟨s, hs, _⟩ := G.fwd b h0 hbm
    obtain ⟨p, ps, hP⟩ := nonempty_cons hs
    obtain ⟨hle, hS'⟩ := hS.step G h0 hbm hP
    have hdn := hS.dn b h0
    have hput := Ot.put H hO h0 hbm (by omega) (Nat.le_refl _) (show nca par (2 * o.length) p ps < o.length by omega)
    rw [show max o.length (b + 1) = o.length from by omega] at hput
    have hsum := sumP_upd par b (nca par (2 * o.length) p ps) hle o.length
    rw [if_pos hbm] at hsum
    have hout : rd out (at_ o b) = at_ o (par b) := hO.on b h0 hbm
    have hiff : rd out (at_ o b) ≠ at_ o (nca par (2 * o.length) p ps) ↔ nca par (2 * o.length) p ps ≠ par b := by
      rw [hout]
      constructor
      · exact fun h e => h (by rw [e])
      · exact fun h e => h (at_inj H.nodup (by omega) (by omega) e).symm
    obtain ⟨kr, r, hkr, hq⟩ := ih (b + 1) (upd par b (nca par (2 * o.length) p ps)) (out.set (at_ o b).toNat (at_ o (nca par (2 * o.length) p ps))) (chg || decide (rd out (at_ o b) ≠ at_ o (nca par (2 * o.length) p ps))) (by omega) (by omega) hS' hput (by omega) (fun hc => by
        rcases Bool.or_eq_true_iff.1 hc with h | h
        · have := hs2 h; omega
        · have := hiff.1 (of_decide_eq_true h); omega) (fun hc u hu0 hu => by
        obtain ⟨h1, h2⟩ := Bool.or_eq_false_iff.1 hc
        have h3 : nca par (2 * o.length) p ps = par b := Classical.byContradiction fun hn => of_decide_eq_false h2 (hiff.2 hn)
        rw [h3, upd_self]
        rcases Nat.lt_or_ge u b with h4 | h4
        · exact hf h1 u hu0 h4
        · obtain rfl : u = b := by omega
          exact ⟨p, ps, hP, h3⟩) hend
    have key := chk_turn H (i := o.length) H.pos (Nat.le_refl _) hN hO hS.dn preds hpl h0 hbm (by omega) (hrow b hbm) (hl b hbm) hol chg r p ps (by rw [filter_all _ _ (fun q hq => G.inb b hbm q hq)]; exact hP) (by omega) ⟨kr, by rw [show (((b + 1 : Nat) : Int) - 1) = (b : Int) from by omega] at hkr; exact hkr⟩
    exact ⟨key.choose, r, key.choose_spec, hq⟩
/-- The first sweep. -/
theorem chk_first (H : Ordd E n o) (hN : Nm o n num) (hpl : preds.length = n) (G : Gr o.length (PP o num preds) Dm) (hrow : ∀ b, b < o.length → ∀ x ∈ rd_L1 preds (at_ o b), 0 ≤ x ∧ x < (n : Int)) (hl : ∀ b, b < o.length → (rd_L1 preds (at_ o b)).length ≤ 1000000) (hol : o.length ≤ 1000000) (Q : List Int → Prop) :
    ∀ (d b : Nat) (par : Nat → Nat) (out : List Int) (chg : Bool), b + d = o.length → 0 < b → (1 < b → chg = true) → Fst o.length (PP o num preds) Dm b par → Ot o n b par out →
    (∀ par' out' chg', Fst o.length (PP o num preds) Dm o.length par' → Ot o n o.length par' out' → (1 < o.length → chg' = true) → ∃ k r, graph_Idom.l2 k o num out' preds chg' = some r ∧ Q r) →
    ∃ k r, graph_Idom.l3 k o num out preds chg (o.drop 1) ((o.drop 1).length : Int) ((b : Int) - 1) = some r ∧ Q r := by
  intro d
  induction d with
  | zero =>
    intro b par out chg hb h0 hc hS hO hend
    obtain rfl : b = o.length := by omega
    obtain ⟨k, r, hk, hq⟩ := hend par out chg hS hO hc
    have hdl : (o.drop 1).length = o.length - 1 := List.length_drop
    refine ⟨k + 1, r, ?_, hq⟩
    rw [graph_Idom.l3, if_neg (by omega)]
    exact hk
  | succ d ih =>
    intro b par out chg hb h0 hc hS hO hend
    have hbm : b < o.length := by omega
    obtain ⟨s, hs, hsb⟩ := G.fwd b h0 hbm
    obtain ⟨p, ps, hP⟩ := nonempty_cons (show s ∈ (PP o num preds b).filter (fun q => decide (q < b)) from List.mem_filter.2 ⟨hs, decide_eq_true hsb⟩)
    have hS' := hS.step G h0 hbm hP
    have hpb : ∀ q ∈ p :: ps, q < b := fun q hq => by rw [← hP] at hq; exact of_decide_eq_true (List.mem_filter.1 hq).2
    have hp := hpb p List.mem_cons_self
    have hvp : nca par (2 * o.length) p ps ≤ p := (((nca_an hS.dn o.length ps p (by omega) (fun q hq => by have := hpb q (List.mem_cons_of_mem _ hq); omega) _).1 .refl).1).le hS.dn
    have hput := Ot.put H hO h0 hbm (Nat.le_refl _) (by omega) (show nca par (2 * o.length) p ps < o.length by omega)
    rw [show max b (b + 1) = b + 1 from by omega] at hput
    have hout : rd out (at_ o b) = -1 := hO.not b (Nat.le_refl _) hbm
    have hv0 := (H.rng _ (at_mem (show nca par (2 * o.length) p ps < o.length by omega))).1
    obtain ⟨kr, r, hkr, hq⟩ := ih (b + 1) (upd par b (nca par (2 * o.length) p ps)) (out.set (at_ o b).toNat (at_ o (nca par (2 * o.length) p ps))) (chg || decide (rd out (at_ o b) ≠ at_ o (nca par (2 * o.length) p ps))) (by omega) (by omega) (fun _ => by rw [decide_eq_true (by omega), Bool.or_true]) hS' hput hend
    have key := chk_turn H h0 (by omega) hN hO hS.dn preds hpl h0 hbm (Nat.le_refl _) (hrow b hbm) (hl b hbm) hol chg r p ps hP (by omega) ⟨kr, by rw [show (((b + 1 : Nat) : Int) - 1) = (b : Int) from by omega] at hkr; exact hkr⟩
    exact ⟨key.choose, r, key.choose_spec, hq⟩
end
end Go.Proofs.Ytnmeomdjhjgnfaa.X
namespace Go.Proofs.Ytnmeomdjhjgnfaa.X
open Go.RowKit Go.Proofs.YtnmeomdjhjgnfaaW.PrintWords Go.Proofs.YtnmeomdjhjgnfaaW.PrintLast Go.Proofs.YtnmeomdjhjgnfaaW.PrintMore
section
variable {E : Int → Int → Prop} {o : List Int} {n : Nat} {num : List Int} {preds : List (List Int)} {Dm : Nat → Nat → Prop}
theorem l2_true (H : Ordd E n o) (hol : o.length ≤ 1000000) (out : List Int) (r : List Int) (h : ∃ k, graph_Idom.l3 k o num out preds false (o.drop 1) ((o.drop 1).length : Int) (((1 : Nat) : Int) - 1) = some r) : ∃ k, graph_Idom.l2 k o num out preds true = some r := by
  obtain ⟨k, hk⟩ := h
  have hp := H.pos
  have hmn : mn 1 (o.length : Int) = 1 := by unfold mn; split <;> omega
  refine ⟨k + 1, ?_⟩
  rw [graph_Idom.l2, if_pos rfl, hmn, if_pos (by omega), if_pos (by omega)]
  exact hk
/-- What the loops end in. -/
def Rest (o : List Int) (n : Nat) (num : List Int) (preds : List (List Int)) (Dm : Nat → Nat → Prop) (r : List Int) : Prop :=
  ∃ par, Swp o.length (PP o num preds) Dm 1 par ∧ Ot o n o.length par r ∧ ∀ u, 0 < u → u < o.length → FixAt (PP o num preds) o.length par u
/-- The later sweeps come to rest. -/
theorem chk_rest (H : Ordd E n o) (hN : Nm o n num) (hpl : preds.length = n) (G : Gr o.length (PP o num preds) Dm) (hrow : ∀ b, b < o.length → ∀ x ∈ rd_L1 preds (at_ o b), 0 ≤ x ∧ x < (n : Int)) (hl : ∀ b, b < o.length → (rd_L1 preds (at_ o b)).length ≤ 1000000) (hol : o.length ≤ 1000000) :
    ∀ (s : Nat) (par : Nat → Nat) (out : List Int), sumP par o.length < s → Swp o.length (PP o num preds) Dm 1 par → Ot o n o.length par out →
    ∃ k r, graph_Idom.l2 k o num out preds true = some r ∧ Rest o n num preds Dm r := by
  intro s
  induction s with
  | zero => intro par out h; omega
  | succ s ih =>
    intro par out hs hS hO
    have hp := H.pos
    obtain ⟨k, r, hk, hq⟩ := chk_sweep H hN hpl G hrow hl hol (Rest o n num preds Dm) (sumP par o.length) (o.length - 1) 1 par out false (by omega) (by omega) hS hO (Nat.le_refl _) (fun h => by cases h) (fun _ u h0 h1 => by omega) (fun par' out' chg' hS' hO' hlt hf => by
      cases chg' with
      | true => exact ih par' out' (by have := hlt rfl; omega) hS'.again hO'
      | false => exact ⟨1, out', by rw [graph_Idom.l2, if_neg (by decide)], par', hS'.again, hO', hf rfl⟩)
    obtain ⟨k2, hk2⟩ := l2_true H hol out r ⟨k, hk⟩
    exact ⟨k2, r, hk2, hq⟩
/-- From the lists as they are made. -/
theorem chk_all (H : Ordd E n o) (hN : Nm o n num) (hpl : preds.length = n) (G : Gr o.length (PP o num preds) Dm) (hrow : ∀ b, b < o.length → ∀ x ∈ rd_L1 preds (at_ o b), 0 ≤ x ∧ x < (n : Int)) (hl : ∀ b, b < o.length → (rd_L1 preds (at_ o b)).length ≤ 1000000) (hol : o.length ≤ 1000000)
    (hO : Ot o n 1 (fun _ => 0) (List.replicate n (-1))) : ∃ k r, graph_Idom.l2 k o num (List.replicate n (-1)) preds true = some r ∧ Rest o n num preds Dm r := by
  have hp := H.pos
  obtain ⟨k, r, hk, hq⟩ := chk_first H hN hpl G hrow hl hol (Rest o n num preds Dm) (o.length - 1) 1 (fun _ => 0) (List.replicate n (-1)) false (by omega) (by omega) (fun h => by omega) (Fst.start _ _ _) hO (fun par' out' chg' hS' hO' hc => by
    cases chg' with
    | true => exact chk_rest H hN hpl G hrow hl hol (sumP par' o.length + 1) par' out' (by omega) hS'.swp hO'
    | false =>
      have h1 : ¬ 1 < o.length := fun h => by cases hc h
      exact ⟨1, out', by rw [graph_Idom.l2, if_neg (by decide)], par', hS'.swp, hO', fun u h0 hu => by omega⟩)
  obtain ⟨k2, hk2⟩ := l2_true H hol _ r ⟨k, hk⟩
  exact ⟨k2, r, hk2, hq⟩
end
end Go.Proofs.Ytnmeomdjhjgnfaa.X
end
section
/-! Plain: who dominates, by ways; what graph.Idom tells of it. -/
set_option linter.unusedVariables false
set_option linter.unusedSimpArgs false
namespace Go.Proofs.Ytnmeomdjhjgnfaa.X
open Go.RowKit Go.Proofs.YtnmeomdjhjgnfaaW.PrintWords Go.Proofs.YtnmeomdjhjgnfaaW.PrintLast Go.Proofs.YtnmeomdjhjgnfaaW.PrintMore

/-- Come to from block 0 without z. -/
inductive RAv (E : Int → Int → Prop) (z : Int) : Int → Prop
  | start : z ≠ 0 → RAv E z 0
  | step {x y : Int} : RAv E z x → E x y → y ≠ z → RAv E z y
def Eg (g : List (List Int)) (x y : Int) : Prop := eB g x y = true
theorem RE_clean (g : List (List Int)) (x y : Int) : RE (cleanL g) x y ↔ Eg g x y := by
  unfold RE Eg
  rw [eB_iff]
  constructor
  · rintro ⟨h0, h⟩
    obtain ⟨j, rfl⟩ := Int.eq_ofNat_of_zero_le h0
    rcases Nat.lt_or_ge j g.length with hj | hj
    · have h2 : y ∈ rd_L1 (cleanL g) j := h
      rw [rd_clean g j hj, mem_keptL] at h2
      exact ⟨by omega, by omega, h2.2.1, h2.2.2, h2.1⟩
    · rw [List.getD_eq_getElem?_getD, List.getElem?_eq_none (by rw [cleanL_length]; omega)] at h
      cases h
  · rintro ⟨h1, h2, h3, h4, h5⟩
    obtain ⟨j, rfl⟩ := Int.eq_ofNat_of_zero_le h1
    refine ⟨h1, ?_⟩
    show y ∈ rd_L1 (cleanL g) j
    rw [rd_clean g j (by omega), mem_keptL]
    exact ⟨h5, h3, h4⟩
section
variable {E : Int → Int → Prop} {o : List Int} {n : Nat} {num : List Int} {preds : List (List Int)}
/-- Dominance, by places. -/
def DmP (E : Int → Int → Prop) (o : List Int) (d u : Nat) : Prop := d < o.length ∧ u < o.length ∧ (d = u ∨ ¬ RAv E (at_ o d) (at_ o u))
theorem ra_fwd (H : Ordd E n o) (d : Nat) (hd : d < o.length) : ∀ (k u : Nat), u ≤ k → u < d → RAv E (at_ o d) (at_ o u) := by
  intro k
  induction k with
  | zero =>
    intro u hu hud
    obtain rfl : u = 0 := by omega
    rw [H.head]
    exact .start (fun h => by have := at_inj H.nodup hd H.pos (h.trans H.head.symm); omega)
  | succ k ih =>
    intro u hu hud
    rcases Nat.eq_zero_or_pos u with rfl | h0
    · exact ih 0 (by omega) hud
    · obtain ⟨j, hj, he⟩ := H.fwd u h0 (by omega)
      exact .step (ih j (by omega) (by omega)) he (fun h => by have := at_inj H.nodup (by omega) hd h; omega)
theorem plN_at (hN : Nm o n num) {j : Nat} (hj : j < o.length) : plN num (at_ o j) = j := by
  unfold plN; rw [hN.on j hj]; rfl
theorem mem_PP (H : Ordd E n o) (hN : Nm o n num) (hpr : ∀ u, u < o.length → ∀ x, x ∈ rd_L1 preds (at_ o u) ↔ E x (at_ o u)) (u : Nat) (hu : u < o.length) (p : Nat) : p ∈ PP o num preds u ↔ p < o.length ∧ E (at_ o p) (at_ o u) := by
  unfold PP
  rw [List.mem_map]
  constructor
  · rintro ⟨x, hx, rfl⟩
    obtain ⟨h1, h2⟩ := List.mem_filter.1 hx
    obtain ⟨j, hj, rfl⟩ := mem_at (of_decide_eq_true h2)
    rw [plN_at hN hj]
    exact ⟨hj, (hpr u hu _).1 h1⟩
  · rintro ⟨hp, he⟩
    exact ⟨at_ o p, List.mem_filter.2 ⟨(hpr u hu _).2 he, decide_eq_true (at_mem hp)⟩, plN_at hN hp⟩
theorem gr_of (H : Ordd E n o) (hN : Nm o n num) (hpr : ∀ u, u < o.length → ∀ x, x ∈ rd_L1 preds (at_ o u) ↔ E x (at_ o u)) : Gr o.length (PP o num preds) (DmP E o) where
  inb := fun u hu p hp => ((mem_PP H hN hpr u hu p).1 hp).1
  fwd := fun u h0 hu => by
    obtain ⟨j, hj, he⟩ := H.fwd u h0 hu
    exact ⟨j, (mem_PP H hN hpr u hu j).2 ⟨by omega, he⟩, hj⟩
  dle := fun d u ⟨hd, hu, h⟩ => by
    rcases h with h | h
    · omega
    · rcases Nat.lt_or_ge u d with hlt | hlt
      · exact absurd (ra_fwd H d hd u u (Nat.le_refl _) hlt) h
      · exact hlt
  dstep := fun d u h0 hu ⟨hd, _, h⟩ hne p hp => by
    obtain ⟨hpm, he⟩ := (mem_PP H hN hpr u hu p).1 hp
    refine ⟨hd, hpm, ?_⟩
    by_cases hdp : d = p
    · exact .inl hdp
    · refine .inr (fun hr => ?_)
      exact h.resolve_left hne (.step hr he (fun e => hne (at_inj H.nodup hd hu e.symm)))
/-- At rest the chains are who dominates. -/
theorem rest_dom (H : Ordd E n o) (hN : Nm o n num) (hpr : ∀ u, u < o.length → ∀ x, x ∈ rd_L1 preds (at_ o u) ↔ E x (at_ o u)) (hE : ∀ x y, E x y → x ∈ o → y ∈ o) {r : List Int} (h : Rest o n num preds (DmP E o) r) :
    ∃ par, Dn par ∧ Ot o n o.length par r ∧ ∀ u, u < o.length → ∀ d, An par d u ↔ DmP E o d u := by
  obtain ⟨par, hS, hO, hf⟩ := h
  have G := gr_of H hN hpr
  refine ⟨par, hS.dn, hO, fun u hu d => ⟨fun ha => ?_, fun hd => ?_⟩⟩
  · have hle := ha.le hS.dn
    refine ⟨by omega, hu, ?_⟩
    by_cases hdu : d = u
    · exact .inl hdu
    · refine .inr (fun hr => ?_)
      have key : ∀ x, RAv E (at_ o d) x → x ∈ o ∧ ∀ w, w < o.length → x = at_ o w → ¬ An par d w := by
        intro x hx
        induction hx with
        | start h0 =>
          refine ⟨by rw [← H.head]; exact at_mem H.pos, fun w hw hxw ha => ?_⟩
          have := at_inj H.nodup H.pos hw (H.head.trans hxw)
          subst this
          have := ha.of_zero hS.dn
          subst this
          exact h0 H.head
        | @step x y hx he hne ih =>
          obtain ⟨hxo, ih⟩ := ih
          refine ⟨H.closed x hxo y he, fun w hw hyw ha => ?_⟩
          obtain ⟨j, hj, rfl⟩ := mem_at hxo
          have hnj := ih j hj rfl
          rcases ha.inv with hdw | ⟨hw0, ha⟩
          · subst hdw; exact hne hyw
          · obtain ⟨p, ps, hP, hv⟩ := hf w hw0 hw
            subst hyw
            have hjm : j ∈ PP o num preds w := (mem_PP H hN hpr w hw j).2 ⟨hj, he⟩
            rw [← hv, nca_an hS.dn o.length ps p (G.inb w hw p (by rw [hP]; exact List.mem_cons_self)) (fun q hq => G.inb w hw q (by rw [hP]; exact List.mem_cons_of_mem _ hq))] at ha
            rw [hP] at hjm
            rcases List.mem_cons.1 hjm with rfl | hjm
            · exact hnj ha.1
            · exact hnj (ha.2 j hjm)
      exact (key _ hr).2 u hu rfl ha
  · have key : ∀ (k u : Nat), u ≤ k → u < o.length → ∀ d, DmP E o d u → An par d u := by
      intro k
      induction k with
      | zero =>
        intro u hk hu d hd
        have := G.dle d u hd
        obtain rfl : d = u := by omega
        exact .refl
      | succ k ih =>
        intro u hk hu d hd
        by_cases hdu : d = u
        · subst hdu; exact .refl
        · have h1 := G.dle d u hd
          have h2 := hS.dn u (by omega)
          exact .up (by omega) (ih (par u) (by omega) (by omega) d (hS.dom u (by omega) hu d hd hdu))
    exact key u u (Nat.le_refl _) hu d hd
end
end Go.Proofs.Ytnmeomdjhjgnfaa.X
end
section
/-! Plain: graph.Order and graph.Idom end; what they tell. -/
set_option linter.unusedVariables false
set_option linter.unusedSimpArgs false
namespace Go.Proofs.Ytnmeomdjhjgnfaa.X
open Go.RowKit Go.Proofs.YtnmeomdjhjgnfaaW.PrintWords Go.Proofs.YtnmeomdjhjgnfaaW.PrintLast Go.Proofs.YtnmeomdjhjgnfaaW.PrintMore

theorem order_some (g : List (List Int)) (hok : okG g = true) (hn : 0 < g.length) (k : Nat) (hk : g.length ≤ k) : ∃ o, graph_Order.f k g = some o ∧ Ordd (Eg g) g.length o := by
  obtain ⟨t, o, h1, h2⟩ := order_of (cleanL g) g.length hn (cleanL_in g) k hk
  have e : RE (cleanL g) = Eg g := funext fun x => funext fun y => propext (RE_clean g x y)
  rw [e] at h2
  refine ⟨o.reverse, ?_, h2⟩
  unfold graph_Order.f
  rw [if_pos hok, if_neg (by omega), h1]
  rfl
theorem ordd_len {E : Int → Int → Prop} {n : Nat} {o : List Int} (H : Ordd E n o) : o.length ≤ n := by
  have key : ∀ (m : Nat) (l : List Int), l.Nodup → (∀ x ∈ l, 0 ≤ x ∧ x < (m : Int)) → l.length ≤ m := by
    intro m
    induction m with
    | zero =>
      intro l _ h
      cases l with
      | nil => simp
      | cons x l => have := h x List.mem_cons_self; omega
    | succ m ih =>
      intro l hn h
      have h1 := ih (l.filter (fun x => decide (x ≠ (m : Int)))) (hn.filter _) (fun x hx => by
        obtain ⟨h2, h3⟩ := List.mem_filter.1 hx
        have h4 := h x h2
        have h5 := of_decide_eq_true h3
        omega)
      have h2 : l.length ≤ (l.filter (fun x => decide (x ≠ (m : Int)))).length + 1 := by
        clear ih h1 h
        induction l with
        | nil => simp
        | cons x l ih =>
          rw [List.nodup_cons] at hn
          rw [List.filter_cons]
          by_cases hx : x = (m : Int)
          · rw [if_neg (by simp [hx])]
            have : l.filter (fun x => decide (x ≠ (m : Int))) = l := List.filter_eq_self.2 (fun y hy => by
              refine decide_eq_true (fun e => hn.1 ?_)
              rw [hx, ← e]; exact hy)
            rw [this]; simp
          · rw [if_pos (decide_eq_true hx)]
            have := ih hn.2
            simp only [List.length_cons]; omega
      omega
  exact key n o H.nodup H.rng
/-- Numbers are given. -/
theorem idom_l1 (g : List (List Int)) (hok : okG g = true) {E : Int → Int → Prop} {o : List Int} (H : Ordd E g.length o) (out r : List Int) (Hc : ∀ num, Nm o g.length num → ∃ k, graph_Idom.l2 k o num out (predsL g) true = some r) :
    ∀ (d i : Nat) (num : List Int), i + d = o.length → num.length = g.length → (∀ j, j < i → rd num (at_ o j) = j) → (∀ x, 0 ≤ x → x < (g.length : Int) → (∀ j, j < i → x ≠ at_ o j) → rd num x = -1) →
    ∃ k, graph_Idom.l1 k g o num out o o.length i = some r := by
  have hol := ordd_len H
  have hg := (okG_len hok).1
  intro d
  induction d with
  | zero =>
    intro i num hi hl h1 h2
    obtain ⟨k, hk⟩ := Hc num ⟨hl, fun j hj => h1 j (by omega), fun x h0 hx hm => h2 x h0 hx (fun j hj e => hm (e ▸ at_mem (by omega)))⟩
    refine ⟨k + 1, ?_⟩
    rw [graph_Idom.l1, if_neg (by omega), Preds_some g hok, Option.bind_some]
    exact hk
  | succ d ih =>
    intro i num hi hl h1 h2
    have hlt : i < o.length := by omega
    have hr := H.rng _ (at_mem hlt)
    have hrd : rd o i = at_ o i := rfl
    have hset : ∀ x, 0 ≤ x → x ≠ at_ o i → rd (num.set (at_ o i).toNat (i : Int)) x = rd num x := fun x h0 hn => by
      unfold rd
      rw [List.getD_eq_getElem?_getD, List.getD_eq_getElem?_getD, List.getElem?_set_ne (by omega)]
    have hself : rd (num.set (at_ o i).toNat (i : Int)) (at_ o i) = i := by
      unfold rd
      rw [List.getD_eq_getElem?_getD, List.getElem?_set_self (by omega)]
      rfl
    obtain ⟨k, hk⟩ := ih (i + 1) (num.set (at_ o i).toNat (i : Int)) (by omega) (by simpa using hl) (fun j hj => by
      by_cases e : j = i
      · subst e; exact hself
      · rw [hset _ (H.rng _ (at_mem (by omega))).1 (fun hh => e (at_inj H.nodup (by omega) hlt hh))]
        exact h1 j (by omega)) (fun x h0 hx hne => by
      rw [hset x h0 (hne i (by omega))]
      exact h2 x h0 hx (fun j hj => hne j (by omega)))
    refine ⟨k + 1, ?_⟩
    rw [graph_Idom.l1, if_pos (by omega), if_pos (by omega), if_pos (by omega), hrd, if_pos hr.1, if_pos (by omega), w64 (by omega) (by omega)]
    exact hk
theorem idom_l0 (g : List (List Int)) (hok : okG g = true) (o r : List Int) (Hc : ∃ k, graph_Idom.l1 k g o (List.replicate g.length (-1)) (List.replicate g.length (-1)) o o.length 0 = some r) :
    ∀ (d i : Nat) (x4 x5 : List Int), i + d = g.length → x4 = List.replicate i (-1) ++ List.replicate d 0 → x5 = List.replicate i (-1) ++ List.replicate d 0 → ∃ k, graph_Idom.l0 k g o x4 x5 g.length i = some r := by
  have hg := (okG_len hok).1
  intro d
  induction d with
  | zero =>
    intro i x4 x5 hi h4 h5
    obtain ⟨k, hk⟩ := Hc
    refine ⟨k + 1, ?_⟩
    rw [graph_Idom.l0, if_neg (by omega), h4, h5, List.replicate_zero, List.append_nil, show i = g.length from by omega]
    exact hk
  | succ d ih =>
    intro i x4 x5 hi h4 h5
    have hs : ∀ x : List Int, x = List.replicate i (-1) ++ List.replicate (d + 1) 0 → x.set i (-1) = List.replicate (i + 1) (-1) ++ List.replicate d 0 := by
      intro x hx
      rw [hx, List.set_append_right _ _ (by simp), List.length_replicate, Nat.sub_self, List.replicate_succ, List.set_cons_zero, List.replicate_succ', List.append_assoc]
      rfl
    obtain ⟨k, hk⟩ := ih (i + 1) (x4.set i (-1)) (x5.set i (-1)) (by omega) (hs x4 h4) (hs x5 h5)
    refine ⟨k + 1, ?_⟩
    have hl4 : x4.length = g.length := by rw [h4]; simp; omega
    have hl5 : x5.length = g.length := by rw [h5]; simp; omega
    rw [graph_Idom.l0, if_pos (by omega), if_pos (by omega), if_pos (by omega), if_pos (by omega), w64 (by omega) (by omega), Int.toNat_natCast]
    exact hk
/-- What graph.Idom tells. -/
structure IdomR (g : List (List Int)) (o r : List Int) (par : Nat → Nat) : Prop where
  ord : Ordd (Eg g) g.length o
  dn : Dn par
  lst : Ot o g.length o.length par r
  dom : ∀ u, u < o.length → ∀ d, An par d u ↔ DmP (Eg g) o d u
theorem idom_some (g : List (List Int)) (hok : okG g = true) (hn : 0 < g.length) (hn2 : g.length ≤ 1000) (o : List Int) (ho : ∃ k, graph_Order.f k g = some o) (H : Ordd (Eg g) g.length o) : ∃ k r par, graph_Idom.f k g = some r ∧ IdomR g o r par := by
  have hol := ordd_len H
  have hpr : ∀ u, u < o.length → ∀ x, x ∈ rd_L1 (predsL g) (at_ o u) ↔ Eg g x (at_ o u) := fun u hu x => mem_preds g x (at_ o u) (H.rng _ (at_mem hu))
  have hpl := predsL_len g
  have hrow : ∀ b, b < o.length → ∀ x ∈ rd_L1 (predsL g) (at_ o b), 0 ≤ x ∧ x < (g.length : Int) := fun b hb x hx => by
    have := eB_iff.1 ((hpr b hb x).1 hx)
    exact ⟨this.1, this.2.1⟩
  have hlen : ∀ b, b < o.length → (rd_L1 (predsL g) (at_ o b)).length ≤ 1000000 := fun b hb => by
    have hr := H.rng _ (at_mem hb)
    have e : rd_L1 (predsL g) (at_ o b) = (predsL g)[(at_ o b).toNat]'(by omega) := by
      unfold rd_L1
      rw [List.getD_eq_getElem?_getD, List.getElem?_eq_getElem (by omega)]
      rfl
    rw [e]
    exact (okG_len (okG_preds g hn2)).2 _ (List.getElem_mem _)
  have hO : Ot o g.length 1 (fun _ => 0) (List.replicate g.length (-1)) := by
    have hrep : ∀ x, 0 ≤ x → x < (g.length : Int) → rd (List.replicate g.length (-1)) x = -1 := fun x h0 h1 => by
      unfold rd
      rw [List.getD_eq_getElem?_getD, List.getElem?_replicate, if_pos (by omega)]
      rfl
    exact ⟨by simp, fun j h0 h1 => by omega, hrep 0 (Int.le_refl 0) (by omega), fun j _ hj => hrep _ (H.rng _ (at_mem hj)).1 (H.rng _ (at_mem hj)).2, fun x h0 h1 _ => hrep x h0 h1⟩
  -- the numbers that are given: one list
  have hnum : ∃ num, Nm o g.length num := by
    refine ⟨(List.range g.length).map (fun (x : Nat) => if (x : Int) ∈ o then ((o.idxOf (x : Int) : Nat) : Int) else -1), by simp, fun i hi => ?_, fun x h0 h1 hm => ?_⟩
    · have hr := H.rng _ (at_mem hi)
      unfold rd
      rw [List.getD_eq_getElem?_getD, List.getElem?_map, List.getElem?_range (by omega)]
      have e : (((at_ o i).toNat : Nat) : Int) = at_ o i := by omega
      simp only [Option.map_some, Option.getD_some, e, if_pos (at_mem hi)]
      have h1 : o.idxOf (at_ o i) < o.length := List.idxOf_lt_length_of_mem (at_mem hi)
      have hix : ∀ x ∈ o, at_ o (o.idxOf x) = x := fun x hx => by
        have h1 : o.idxOf x < o.length := List.idxOf_lt_length_of_mem hx
        unfold at_
        rw [List.getD_eq_getElem?_getD, List.getElem?_eq_getElem h1]
        exact List.getElem_idxOf h1
      have h2 := hix _ (at_mem hi)
      have := at_inj H.nodup h1 hi h2
      omega
    · unfold rd
      rw [List.getD_eq_getElem?_getD, List.getElem?_map, List.getElem?_range (by omega)]
      have e : ((x.toNat : Nat) : Int) = x := by omega
      simp only [Option.map_some, Option.getD_some, e, if_neg hm]
  have huniq : ∀ a b, Nm o g.length a → Nm o g.length b → a = b := by
    intro a b ha hb
    refine List.ext_getElem (ha.len.trans hb.len.symm) (fun i h1 h2 => ?_)
    have hg1 : ∀ l : List Int, (h : i < l.length) → rd l (i : Int) = l[i] := fun l h => by simp [rd, h]
    rw [← hg1 a h1, ← hg1 b h2]
    have hlt : i < g.length := by have := ha.len; omega
    by_cases hm : ((i : Nat) : Int) ∈ o
    · obtain ⟨j, hj, e⟩ := mem_at hm
      rw [← e, ha.on j hj, hb.on j hj]
    · rw [ha.off _ (by omega) (by omega) hm, hb.off _ (by omega) (by omega) hm]
  obtain ⟨num, hN⟩ := hnum
  have G := gr_of H hN hpr
  obtain ⟨k, r, hk, hR⟩ := chk_all H hN hpl G hrow hlen (by omega) hO
  obtain ⟨par, hd, hOt, hdom⟩ := rest_dom H hN hpr (fun x y he hx => H.closed x hx y he) hR
  obtain ⟨k1, hk1⟩ := idom_l1 g hok H (List.replicate g.length (-1)) r (fun num' hN' => by rw [huniq num' num hN' hN]; exact ⟨k, hk⟩) o.length 0 (List.replicate g.length (-1)) (by omega) (by simp) (fun j hj => by omega) (fun x h0 h1 _ => by
    unfold rd
    rw [List.getD_eq_getElem?_getD, List.getElem?_replicate, if_pos (by omega)]
    rfl)
  obtain ⟨k0, hk0⟩ := idom_l0 g hok o r ⟨k1, hk1⟩ g.length 0 (List.replicate g.length 0) (List.replicate g.length 0) (by omega) (by simp) (by simp)
  obtain ⟨k3, hk3⟩ := ho
  refine ⟨k3 + k0, r, par, ?_, ⟨H, hd, hOt, hdom⟩⟩
  have e1 := up (f := fun k => graph_Order.f k g) (fun k => graph_Order.mono _ _) (m := k3 + k0) (by omega) hk3
  have e2 := up (f := fun k => graph_Idom.l0 k g o (List.replicate g.length 0) (List.replicate g.length 0) g.length ((0 : Nat) : Int)) (fun k => (graph_Idom.mono_l k).1 _ _ _ _ _ _) (m := k3 + k0) (by omega) hk0
  unfold graph_Idom.f
  rw [e1, Option.bind_some, if_pos (by omega), if_pos (by omega), Int.toNat_natCast]
  exact e2
end Go.Proofs.Ytnmeomdjhjgnfaa.X
end
section
/-! Plain: dominance among blocks; what graph.Dominates tells by what graph.Idom tells. -/
set_option linter.unusedVariables false
set_option linter.unusedSimpArgs false
namespace Go.Proofs.Ytnmeomdjhjgnfaa.X
open Go.RowKit Go.Proofs.YtnmeomdjhjgnfaaW.PrintWords Go.Proofs.YtnmeomdjhjgnfaaW.PrintLast Go.Proofs.YtnmeomdjhjgnfaaW.PrintMore

/-- Come to from block 0. -/
def Rch (E : Int → Int → Prop) (x : Int) : Prop := RAv E (-1) x
/-- a dominates b. -/
def Dmb (E : Int → Int → Prop) (a b : Int) : Prop := Rch E a ∧ Rch E b ∧ (a = b ∨ ¬ RAv E a b)
theorem reach_iff {E : Int → Int → Prop} {n : Nat} {o : List Int} (H : Ordd E n o) (x : Int) : x ∈ o ↔ Rch E x := by
  constructor
  · intro hx
    have key : ∀ (k i : Nat), i ≤ k → i < o.length → Rch E (at_ o i) := by
      intro k
      induction k with
      | zero =>
        intro i hi hl
        obtain rfl : i = 0 := by omega
        rw [H.head]
        exact .start (by omega)
      | succ k ih =>
        intro i hi hl
        rcases Nat.eq_zero_or_pos i with rfl | h0
        · exact ih 0 (by omega) hl
        · obtain ⟨j, hj, he⟩ := H.fwd i h0 hl
          have := (H.rng _ (at_mem hl)).1
          exact .step (ih j (by omega) (by omega)) he (by omega)
    obtain ⟨i, hi, rfl⟩ := mem_at hx
    exact key i i (Nat.le_refl _) hi
  · intro h
    induction h with
    | start => rw [← H.head]; exact at_mem H.pos
    | step _ he _ ih => exact H.closed _ ih _ he
theorem Rch.of_av {E : Int → Int → Prop} {z x : Int} (hE : ∀ x y, E x y → 0 ≤ y) (h : RAv E z x) : Rch E x := by
  induction h with
  | start => exact .start (by omega)
  | step _ he _ ih => exact .step ih he (by have := hE _ _ he; omega)
theorem Rch.step {E : Int → Int → Prop} {x y : Int} (hE : ∀ x y, E x y → 0 ≤ y) (h : Rch E x) (he : E x y) : Rch E y := RAv.step h he (by have := hE _ _ he; omega)
theorem Eg_in {g : List (List Int)} {x y : Int} (h : Eg g x y) : 0 ≤ x ∧ x < g.length ∧ 0 ≤ y ∧ y < g.length := by
  have := eB_iff.1 h
  exact ⟨this.1, this.2.1, this.2.2.1, this.2.2.2.1⟩
theorem Eg_nn (g : List (List Int)) (x y : Int) (h : Eg g x y) : 0 ≤ y := (Eg_in h).2.2.1
theorem Rch.rng {g : List (List Int)} (hn : 0 < g.length) {x : Int} (h : Rch (Eg g) x) : 0 ≤ x ∧ x < g.length := by
  cases h with
  | start => omega
  | step _ he _ => have := Eg_in he; omega
theorem RAv.rng {g : List (List Int)} (hn : 0 < g.length) {z x : Int} (h : RAv (Eg g) z x) : 0 ≤ x ∧ x < g.length := by
  cases h with
  | start => omega
  | step _ he _ => have := Eg_in he; omega
section
variable {g : List (List Int)} {o r : List Int} {par : Nat → Nat}
theorem isB_iff (R : IdomR g o r par) (x : Int) : isB r x = true ↔ 0 ≤ x ∧ x < g.length := by
  unfold isB
  rw [R.lst.len, Bool.and_eq_true, decide_eq_true_eq, decide_eq_true_eq]
theorem loop_in (R : IdomR g o r par) (a : Int) (ha : 0 ≤ a) : ∀ (k u : Nat), u < k → u < o.length → (domLoop r a k (at_ o u) = true ↔ ∃ d, d < o.length ∧ a = at_ o d ∧ An par d u) := by
  intro k
  induction k with
  | zero => intro u h; omega
  | succ k ih =>
    intro u hk hu
    rw [domLoop]
    by_cases h : a = at_ o u
    · rw [if_pos h]
      exact ⟨fun _ => ⟨u, hu, h, .refl⟩, fun _ => rfl⟩
    · rw [if_neg h, if_pos ((isB_iff R _).2 (R.ord.rng _ (at_mem hu)))]
      rcases Nat.eq_zero_or_pos u with rfl | h0
      · rw [R.ord.head, R.lst.root]
        constructor
        · intro hh
          cases k with
          | zero => cases hh
          | succ k =>
            rw [domLoop, if_neg (by omega), if_neg (by rw [isB_iff R]; omega)] at hh
            cases hh
        · rintro ⟨d, hd, rfl, hA⟩
          have := hA.of_zero R.dn
          subst this
          exact absurd rfl h
      · have h2 := R.dn u h0
        rw [R.lst.on u h0 hu, ih (par u) (by omega) (by omega)]
        constructor
        · rintro ⟨d, hd, rfl, hA⟩
          exact ⟨d, hd, rfl, .up h0 hA⟩
        · rintro ⟨d, hd, rfl, hA⟩
          rcases hA.inv with rfl | ⟨_, hA⟩
          · exact absurd rfl h
          · exact ⟨d, hd, rfl, hA⟩
theorem loop_off (R : IdomR g o r par) (a b : Int) (ha : 0 ≤ a) (hb : 0 ≤ b ∧ b < g.length) (hm : b ∉ o) (k : Nat) : domLoop r a (k + 1) b = true ↔ a = b := by
  rw [domLoop]
  by_cases h : a = b
  · rw [if_pos h]; exact ⟨fun _ => h, fun _ => rfl⟩
  · rw [if_neg h, if_pos ((isB_iff R _).2 hb), R.lst.off b hb.1 hb.2 hm]
    refine ⟨fun hh => ?_, fun hh => absurd hh h⟩
    cases k with
    | zero => cases hh
    | succ k =>
      rw [domLoop, if_neg (by omega), if_neg (by rw [isB_iff R]; omega)] at hh
      cases hh
/-- What graph.Dominates tells by graph.Idom's list. -/
theorem domL_iff (R : IdomR g o r par) (a b : Int) : domL r a b = true ↔ (0 ≤ a ∧ a < g.length) ∧ (0 ≤ b ∧ b < g.length) ∧ (a = b ∨ Dmb (Eg g) a b) := by
  unfold domL
  rw [Bool.and_eq_true, Bool.and_eq_true, isB_iff R, isB_iff R, and_congr_right_iff]
  intro ha
  rw [and_congr_right_iff]
  intro hb
  by_cases hm : b ∈ o
  · obtain ⟨u, hu, rfl⟩ := mem_at hm
    have hol := ordd_len R.ord
    rw [loop_in R a ha.1 _ u (by rw [R.lst.len]; omega) hu]
    constructor
    · rintro ⟨d, hd, rfl, hA⟩
      refine .inr ⟨(reach_iff R.ord _).1 (at_mem hd), (reach_iff R.ord _).1 hm, ?_⟩
      rcases ((R.dom u hu d).1 hA).2.2 with h | h
      · exact .inl (by rw [h])
      · exact .inr h
    · rintro (rfl | ⟨h1, h2, h3⟩)
      · exact ⟨u, hu, rfl, .refl⟩
      · obtain ⟨d, hd, rfl⟩ := mem_at ((reach_iff R.ord _).2 h1)
        refine ⟨d, hd, rfl, (R.dom u hu d).2 ⟨hd, hu, ?_⟩⟩
        rcases h3 with h | h
        · exact .inl (at_inj R.ord.nodup hd hu h)
        · exact .inr h
  · rw [loop_off R a b ha.1 hb hm]
    constructor
    · exact .inl
    · rintro (h | ⟨_, h2, _⟩)
      · exact h
      · exact absurd ((reach_iff R.ord b).2 h2) hm
/-- Which edges go back. -/
theorem backL_iff (R : IdomR g o r par) (a b : Int) (ha : 0 ≤ a ∧ a < g.length) (hb : 0 ≤ b ∧ b < g.length) : backL r a b = true ↔ Dmb (Eg g) b a := by
  unfold backL
  rw [Bool.and_eq_true, Bool.or_eq_true, beq_iff_eq, decide_eq_true_eq, domL_iff R]
  have hr : (a = 0 ∨ 0 ≤ rd r a) ↔ Rch (Eg g) a := by
    rw [← reach_iff R.ord]
    constructor
    · rintro (rfl | h)
      · rw [← R.ord.head]; exact at_mem R.ord.pos
      · by_cases hm : a ∈ o
        · exact hm
        · rw [R.lst.off a ha.1 ha.2 hm] at h; omega
    · intro hm
      obtain ⟨u, hu, rfl⟩ := mem_at hm
      rcases Nat.eq_zero_or_pos u with rfl | h0
      · exact .inl R.ord.head
      · refine .inr ?_
        rw [R.lst.on u h0 hu]
        exact (R.ord.rng _ (at_mem (by have := R.dn u h0; omega))).1
  rw [hr]
  constructor
  · rintro ⟨h1, _, _, rfl | h⟩
    · exact ⟨h1, h1, .inl rfl⟩
    · exact h
  · intro h
    exact ⟨h.2.1, hb, ha, .inr h⟩
theorem dmb_an (R : IdomR g o r par) (a b : Int) : Dmb (Eg g) a b ↔ ∃ d u, d < o.length ∧ u < o.length ∧ a = at_ o d ∧ b = at_ o u ∧ An par d u := by
  constructor
  · rintro ⟨h1, h2, h3⟩
    obtain ⟨d, hd, rfl⟩ := mem_at ((reach_iff R.ord _).2 h1)
    obtain ⟨u, hu, rfl⟩ := mem_at ((reach_iff R.ord _).2 h2)
    refine ⟨d, u, hd, hu, rfl, rfl, (R.dom u hu d).2 ⟨hd, hu, h3.imp (fun h => at_inj R.ord.nodup hd hu h) id⟩⟩
  · rintro ⟨d, u, hd, hu, rfl, rfl, hA⟩
    exact ⟨(reach_iff R.ord _).1 (at_mem hd), (reach_iff R.ord _).1 (at_mem hu), ((R.dom u hu d).1 hA).2.2.imp (fun h => by rw [h]) id⟩
theorem dmb_places (R : IdomR g o r par) {d u : Nat} (hd : d < o.length) (hu : u < o.length) : Dmb (Eg g) (at_ o d) (at_ o u) ↔ An par d u := by
  rw [dmb_an R]
  constructor
  · rintro ⟨d', u', hd', hu', e1, e2, hA⟩
    rw [at_inj R.ord.nodup hd hd' e1, at_inj R.ord.nodup hu hu' e2]; exact hA
  · exact fun hA => ⟨d, u, hd, hu, rfl, rfl, hA⟩
theorem dmb_anti (R : IdomR g o r par) {a b : Int} (h : Dmb (Eg g) a b) (k : Dmb (Eg g) b a) : a = b := by
  obtain ⟨d, u, hd, hu, rfl, rfl, hA⟩ := (dmb_an R a b).1 h
  have hB := (dmb_places R hu hd).1 k
  have := hA.le R.dn
  have := hB.le R.dn
  rw [show d = u from by omega]
end
end Go.Proofs.Ytnmeomdjhjgnfaa.X
end
section
/-! Plain: what the laws share: rests, orders and dominators of a graph of plain numbers. -/
set_option linter.unusedVariables false
set_option linter.unusedSimpArgs false
namespace Go.Proofs.Ytnmeomdjhjgnfaa.X
open Go.RowKit Go.Proofs.YtnmeomdjhjgnfaaW.PrintWords Go.Proofs.YtnmeomdjhjgnfaaW.PrintLast Go.Proofs.YtnmeomdjhjgnfaaW.PrintMore

/-- Orders and dominators of a graph. -/
theorem get_idom (g : List (List Int)) (hok : okG g = true) (hn : 0 < g.length) (hn2 : g.length ≤ 1000) : ∃ k o r par, graph_Order.f k g = some o ∧ graph_Idom.f k g = some r ∧ IdomR g o r par := by
  obtain ⟨o, h1, H⟩ := order_some g hok hn g.length (Nat.le_refl _)
  obtain ⟨k, r, par, h2, R⟩ := idom_some g hok hn hn2 o ⟨_, h1⟩ H
  refine ⟨k + g.length, o, r, par, ?_, ?_, R⟩
  · exact up (f := fun k => graph_Order.f k g) (fun k => graph_Order.mono k g) (by omega) h1
  · exact up (f := fun k => graph_Idom.f k g) (fun k => graph_Idom.mono g k) (by omega) h2
theorem domf_some {g : List (List Int)} {o r : List Int} {par : Nat → Nat} (hok : okG g = true) (R : IdomR g o r par) (a b : Int) : graph_Dominates.f r a b = some (domL r a b) := by
  have := (okG_len hok).1
  have := R.lst.len
  unfold graph_Dominates.f
  rw [if_pos (by omega)]
end Go.Proofs.Ytnmeomdjhjgnfaa.X
end
section
/-! Plain: the reference's next, Without, Dom and Table: they end; what they tell. -/
set_option linter.unusedVariables false
set_option linter.unusedSimpArgs false
namespace Go.Proofs.Ytnmeomdjhjgnfaa.X
open Go.RowKit Go.Proofs.YtnmeomdjhjgnfaaW.PrintWords Go.Proofs.YtnmeomdjhjgnfaaW.PrintLast Go.Proofs.YtnmeomdjhjgnfaaW.PrintMore

/-- Some rounds suffice, and what comes out is Q. -/
def Ends {α : Type} (f : Nat → Option α) (Q : α → Prop) : Prop := ∃ k r, f k = some r ∧ Q r
theorem Ends.mono {α : Type} {f : Nat → Option α} {Q R : α → Prop} (h : Ends f Q) (hqr : ∀ r, Q r → R r) : Ends f R := by
  obtain ⟨k, r, hk, hq⟩ := h
  exact ⟨k, r, hk, hqr r hq⟩
theorem Ends.step {α : Type} {f g : Nat → Option α} {Q : α → Prop} (h : Ends g Q) (e : ∀ k, f (k + 1) = g k) : Ends f Q := by
  obtain ⟨k, r, hk, hq⟩ := h
  exact ⟨k + 1, r, (e k).trans hk, hq⟩
theorem Ends.same {α : Type} {f g : Nat → Option α} {Q : α → Prop} (h : Ends g Q) (e : ∀ k, f k = g k) : Ends f Q := by
  obtain ⟨k, r, hk, hq⟩ := h
  exact ⟨k, r, (e k).trans hk, hq⟩
/-- From some rounds on. -/
theorem Ends.late {α : Type} {f g : Nat → Option α} {Q : α → Prop} (m : Nat) (hg : ∀ k, LeO (g k) (g (k + 1))) (h : Ends g Q) (e : ∀ k, m ≤ k → f (k + 1) = g k) : Ends f Q := by
  obtain ⟨k, r, hk, hq⟩ := h
  exact ⟨k + m + 1, r, (e (k + m) (by omega)).trans (up hg (by omega) hk), hq⟩
theorem Ends.bind {α β : Type} {f : Nat → Option α} {g : Nat → α → Option β} {P : α → Prop} {Q : β → Prop} (hf : ∀ k, LeO (f k) (f (k + 1))) (hg : ∀ a k, LeO (g k a) (g (k + 1) a)) (h : Ends f P) (h2 : ∀ a, P a → Ends (fun k => g k a) Q) : Ends (fun k => (f k).bind (g k)) Q := by
  obtain ⟨k, a, hk, hp⟩ := h
  obtain ⟨m, r, hm, hq⟩ := h2 a hp
  refine ⟨k + m, r, ?_, hq⟩
  show (f (k + m)).bind (g (k + m)) = some r
  rw [up hf (m := k + m) (by omega) hk, Option.bind_some]
  exact up (f := fun k => g k a) (hg a) (by omega) hm

/-- The numbers from i on, d of them, that P holds of. -/
def upto (P : Int → Bool) : Nat → Int → List Int
  | 0, _ => []
  | d + 1, i => if P i = true then i :: upto P d (i + 1) else upto P d (i + 1)
theorem mem_upto (P : Int → Bool) : ∀ (d : Nat) (i x : Int), x ∈ upto P d i ↔ (i ≤ x ∧ x < i + d) ∧ P x = true
  | 0, i, x => by simp [upto]; omega
  | d + 1, i, x => by
    rw [upto]
    by_cases h : P i = true
    · rw [if_pos h, List.mem_cons, mem_upto P d (i + 1) x]
      constructor
      · rintro (rfl | ⟨h1, h2⟩)
        · exact ⟨by omega, h⟩
        · exact ⟨by omega, h2⟩
      · rintro ⟨h1, h2⟩
        by_cases e : x = i
        · exact .inl e
        · exact .inr ⟨by omega, h2⟩
    · rw [if_neg h, mem_upto P d (i + 1) x]
      constructor
      · rintro ⟨h1, h2⟩; exact ⟨by omega, h2⟩
      · rintro ⟨h1, h2⟩
        by_cases e : x = i
        · subst e; exact absurd h2 h
        · exact ⟨by omega, h2⟩
theorem upto_sorted (P : Int → Bool) : ∀ (d : Nat) (i : Int), (upto P d i).Pairwise (· < ·)
  | 0, _ => List.Pairwise.nil
  | d + 1, i => by
    rw [upto]
    split
    · exact List.pairwise_cons.2 ⟨fun x hx => by have := ((mem_upto P d (i + 1) x).1 hx).1; omega, upto_sorted P d (i + 1)⟩
    · exact upto_sorted P d (i + 1)
theorem upto_nodup (P : Int → Bool) (d : Nat) (i : Int) : (upto P d i).Nodup := (upto_sorted P d i).imp (fun h e => by omega)
/-- Rising rows of the same numbers are the same. -/
theorem sorted_eq {l m : List Int} (hl : l.Pairwise (· < ·)) (hm : m.Pairwise (· < ·)) (h : ∀ x, x ∈ l ↔ x ∈ m) : l = m := by
  refine List.Perm.eq_of_pairwise (le := (· < ·)) (fun a b _ _ h1 h2 => by omega) hl hm ?_
  exact (List.perm_ext_iff_of_nodup (hl.imp (fun h e => by omega)) (hm.imp (fun h e => by omega))).2 h
theorem upto_len (P : Int → Bool) : ∀ (d : Nat) (i : Int), (upto P d i).length ≤ d
  | 0, _ => by simp [upto]
  | d + 1, i => by
    have ih := upto_len P d (i + 1)
    rw [upto]
    split
    · simp; omega
    · omega
theorem upto_congr {P Q : Int → Bool} : ∀ (d : Nat) (i : Int), (∀ x, i ≤ x → x < i + d → P x = Q x) → upto P d i = upto Q d i
  | 0, _, _ => rfl
  | d + 1, i, h => by
    rw [upto, upto, h i (by omega) (by omega), upto_congr d (i + 1) (fun x h1 h2 => h x (by omega) (by omega))]
theorem upto_range (P : Int → Bool) : ∀ (d i : Nat), upto P d i = ((List.range' i d).map (fun (b : Nat) => (b : Int))).filter P
  | 0, _ => rfl
  | d + 1, i => by
    have ih := upto_range P d (i + 1)
    rw [upto, List.range'_succ, List.map_cons, List.filter_cons, ← ih]
    rfl
theorem keptL_upto (row : List Int) (n : Nat) : keptL row n = upto (fun b => row.contains b) n 0 := by
  have := upto_range (fun b => row.contains b) n 0
  rw [← List.range_eq_range'] at this
  unfold keptL
  rw [Int.toNat_natCast]
  exact this.symm

/-! ### next -/
def nextL (g : List (List Int)) (a : Int) : List Int := upto (eB g a) g.length 0
theorem mem_nextL (g : List (List Int)) (a b : Int) : b ∈ nextL g a ↔ Eg g a b := by
  unfold nextL
  rw [mem_upto]
  constructor
  · exact fun h => h.2
  · intro h
    have := Eg_in h
    exact ⟨by omega, h⟩
theorem next_l0 (g : List (List Int)) (hg : okG g = true) (a : Int) : ∀ (d : Nat) (x5 : List Int) (x6 : Int) (k : Nat), 0 ≤ x6 → x6 + d = g.length → (x5.length : Int) ≤ x6 → d + 1000003 ≤ k → jacquardref02_next.l0 (k + 1) g a x5 x6 = some (x5 ++ upto (eB g a) d x6) := by
  have hl := (okG_len hg).1
  intro d
  induction d with
  | zero =>
    intro x5 x6 k h0 hd h5 hk
    rw [jacquardref02_next.l0, if_neg (by omega)]
    simp [upto]
  | succ d ih =>
    intro x5 x6 k h0 hd h5 hk
    obtain ⟨k, rfl⟩ : ∃ m, k = m + 1 := ⟨k - 1, by omega⟩
    rw [jacquardref02_next.l0, if_pos (by omega), edge_some g hg _ _ (by omega), Option.bind_some, w64 (by omega) (by omega), upto]
    by_cases h : eB g a x6 = true
    · rw [if_pos h, if_pos h, if_pos (by omega), ih (x5 ++ [x6]) (x6 + 1) k (by omega) (by omega) (by rw [List.length_append]; simp; omega) (by omega)]
      simp
    · rw [if_neg h, if_neg h, ih x5 (x6 + 1) k (by omega) (by omega) (by omega) (by omega)]
theorem next_some (g : List (List Int)) (hg : okG g = true) (a : Int) {k : Nat} (hk : 2000005 ≤ k) : jacquardref02_next.f k g a = some (nextL g a) := by
  have hl := (okG_len hg).1
  obtain ⟨k, rfl⟩ : ∃ m, k = m + 1 := ⟨k - 1, by omega⟩
  unfold jacquardref02_next.f
  rw [next_l0 g hg a g.length [] 0 k (by omega) (by omega) (by simp) (by omega)]
  rfl

/-! ### Without -/
theorem cf_eq : ∀ (t s : List Bool), t.length = s.length → (∀ i, t.getD i false = true → s.getD i false = true) → cf t ≤ cf s → t = s := by
  unfold cf
  intro t
  induction t with
  | nil => intro s h _ _; exact (List.length_eq_zero_iff.1 h.symm).symm
  | cons x t ih =>
    intro s h hm hc
    cases s with
    | nil => simp at h
    | cons y s =>
      have hm2 : ∀ i, t.getD i false = true → s.getD i false = true := fun i => by have := hm (i + 1); simpa using this
      have h1 := cf_mono t s (by simpa using h) hm2
      have h2 := hm 0
      unfold cf at h1
      simp only [List.getD_cons_zero] at h2
      simp only [List.count_cons] at hc
      have e : x = y := by cases x <;> cases y <;> simp_all <;> omega
      subst e
      rw [ih s (by simpa using h) hm2 (by simpa using hc)]
theorem on_rd {t : List Bool} {y : Int} : rdOf false t y = true ↔ on t y := Iff.rfl
theorem on_setv {t : List Bool} {a y : Int} {v : Bool} (ha : 0 ≤ a ∧ a < t.length) (hy : 0 ≤ y) : on (t.set a.toNat v) y ↔ (y ≠ a ∧ on t y) ∨ (y = a ∧ v = true) := by
  unfold on
  rw [List.getD_eq_getElem?_getD, List.getD_eq_getElem?_getD]
  by_cases h : a.toNat = y.toNat
  · have e : y = a := by omega
    subst e
    rw [List.getElem?_set_self (by omega)]
    simp
  · have e : y ≠ a := fun e => h (by rw [e])
    rw [List.getElem?_set_ne h]
    simp [e]
section
variable {g : List (List Int)} {z : Int} {Q : List Bool → Prop}
theorem wo_l2 (x6 x7 : Int) (l : List Int) (hl : ∀ y ∈ l, 0 ≤ y ∧ y < (g.length : Int)) (hll : l.length ≤ 1000000) : ∀ (d : Nat) (x9 : Nat) (out : List Bool), x9 + d = l.length → out.length = g.length →
    (∀ out' : List Bool, out'.length = g.length → (∀ x, 0 ≤ x → (on out' x ↔ on out x ∨ (x ∈ l.drop x9 ∧ x ≠ z))) → Ends (fun k => jacquardref02_Without.l1 k g z out' x6 (wrap64 (x7 + 1))) Q) →
    Ends (fun k => jacquardref02_Without.l2 k g z out x6 x7 l x9) Q := by
  intro d
  induction d with
  | zero =>
    intro x9 out hd ho hc
    refine (hc out ho (fun x hx => by rw [List.drop_of_length_le (by omega)]; simp)).step (fun k => ?_)
    rw [jacquardref02_Without.l2, if_neg (by omega)]
  | succ d ih =>
    intro x9 out hd ho hc
    have hlt : x9 < l.length := by omega
    have hrd : rd l x9 = l[x9] := by simp [rd, hlt]
    have hy := hl (rd l x9) (by rw [hrd]; exact List.getElem_mem _)
    have hw : wrap64 ((x9 : Int) + 1) = ((x9 + 1 : Nat) : Int) := by rw [w64 (by omega) (by omega)]; omega
    have hdrop : l.drop x9 = rd l x9 :: l.drop (x9 + 1) := by rw [hrd]; exact List.drop_eq_getElem_cons hlt
    by_cases hon : on out (rd l x9)
    · refine (ih (x9 + 1) (out.set (rd l x9).toNat true) (by omega) (by simpa using ho) (fun out' ho' hx => hc out' ho' (fun x h0 => ?_))).step (fun k => ?_)
      · rw [hx x h0, hdrop, on_set (by omega) h0, List.mem_cons]
        constructor
        · rintro ((h | h) | h)
          · exact .inl h
          · subst h; exact .inl hon
          · exact .inr ⟨.inr h.1, h.2⟩
        · rintro (h | ⟨h1 | h1, h2⟩)
          · exact .inl (.inl h)
          · exact .inl (.inr h1)
          · exact .inr ⟨h1, h2⟩
      · rw [jacquardref02_Without.l2, if_pos (by omega), if_pos (by omega), if_pos hy.1, if_pos (by omega), if_pos (on_rd.2 hon), hw]
    · refine (ih (x9 + 1) (out.set (rd l x9).toNat ((rd l x9) != z)) (by omega) (by simpa using ho) (fun out' ho' hx => hc out' ho' (fun x h0 => ?_))).step (fun k => ?_)
      · rw [hx x h0, hdrop, on_setv (by omega) h0, List.mem_cons, bne_iff_ne]
        constructor
        · rintro ((h | h) | h)
          · exact .inl h.2
          · exact .inr ⟨.inl h.1, by rw [h.1]; exact h.2⟩
          · exact .inr ⟨.inr h.1, h.2⟩
        · rintro (h | ⟨h1 | h1, h2⟩)
          · exact .inl (.inl ⟨fun e => hon (e ▸ h), h⟩)
          · exact .inl (.inr ⟨h1, by rw [← h1]; exact h2⟩)
          · exact .inr ⟨h1, h2⟩
      · rw [jacquardref02_Without.l2, if_pos (by omega), if_pos (by omega), if_pos hy.1, if_pos (by omega), if_neg (fun h => hon (on_rd.1 h)), hw]
theorem nextL_in (g : List (List Int)) (a : Int) : ∀ y ∈ nextL g a, 0 ≤ y ∧ y < (g.length : Int) := fun y hy => by
  have := Eg_in ((mem_nextL g a y).1 hy)
  exact ⟨this.2.2.1, this.2.2.2⟩
theorem wo_l1 (hg : okG g = true) (x6 : Int) : ∀ (d : Nat) (x7 : Int) (out : List Bool), 0 ≤ x7 → x7 + d = g.length → out.length = g.length → (∀ x, 0 ≤ x → on out x → RAv (Eg g) z x) →
    (∀ out' : List Bool, out'.length = g.length → (∀ x, 0 ≤ x → on out' x → RAv (Eg g) z x) → (∀ x, 0 ≤ x → on out x → on out' x) → (∀ a, x7 ≤ a → on out a → ∀ b, Eg g a b → b ≠ z → on out' b) → Ends (fun k => jacquardref02_Without.l0 k g z out' (wrap64 (x6 + 1))) Q) →
    Ends (fun k => jacquardref02_Without.l1 k g z out x6 x7) Q := by
  have hn := (okG_len hg).1
  intro d
  induction d with
  | zero =>
    intro x7 out h0 hd ho hs hc
    refine (hc out ho hs (fun x _ h => h) (fun a ha hon b he _ => ?_)).step (fun k => ?_)
    · have := Eg_in he
      omega
    · rw [jacquardref02_Without.l1, if_neg (by omega)]
  | succ d ih =>
    intro x7 out h0 hd ho hs hc
    have hw : wrap64 (x7 + 1) = x7 + 1 := w64 (by omega) (by omega)
    by_cases hon : on out x7
    · have h2 := wo_l2 (g := g) (z := z) (Q := Q) x6 x7 (nextL g x7) (nextL_in g x7) (by have := upto_len (eB g x7) g.length 0; unfold nextL; omega) (nextL g x7).length 0 out (by omega) ho (fun out1 ho1 hx1 => by
        rw [hw]
        have hx1' : ∀ x, 0 ≤ x → (on out1 x ↔ on out x ∨ (Eg g x7 x ∧ x ≠ z)) := fun x hx => by rw [hx1 x hx, List.drop_zero, mem_nextL]
        refine ih (x7 + 1) out1 (by omega) (by omega) ho1 (fun x hx h => ?_) (fun out' ho' hs' hm' hcl' => hc out' ho' hs' (fun x hx h => hm' x hx ((hx1' x hx).2 (.inl h))) (fun a ha hona b he hb => ?_))
        · rcases (hx1' x hx).1 h with h | ⟨h1, h2⟩
          · exact hs x hx h
          · exact .step (hs x7 h0 hon) h1 h2
        · have hr := Eg_in he
          by_cases e : a = x7
          · subst e
            exact hm' b hr.2.2.1 ((hx1' b hr.2.2.1).2 (.inr ⟨he, hb⟩))
          · exact hcl' a (by omega) ((hx1' a (by omega)).2 (.inl hona)) b he hb)
      refine Ends.late 2000005 (fun k => (jacquardref02_Without.mono_l k).2.2.2 _ _ _ _ _ _ _) h2 (fun k hk => ?_)
      rw [jacquardref02_Without.l1, if_pos (by omega), if_pos h0, if_pos (by omega), if_pos (on_rd.2 hon), next_some g hg x7 hk]
      rfl
    · refine (ih (x7 + 1) out (by omega) (by omega) ho hs (fun out' ho' hs' hm' hcl' => hc out' ho' hs' hm' (fun a ha hona => hcl' a (by
        by_cases e : a = x7
        · subst e; exact absurd hona hon
        · omega) hona))).step (fun k => ?_)
      rw [jacquardref02_Without.l1, if_pos (by omega), if_pos h0, if_pos (by omega), if_neg (fun h => hon (on_rd.1 h)), hw]
theorem getD_on {t : List Bool} {i : Nat} : t.getD i false = true ↔ on t (i : Int) := by unfold on; rw [Int.toNat_natCast]
theorem wo_l0 (hg : okG g = true) (hn : 0 < g.length) (hz : z ≠ 0) : ∀ (d : Nat) (x6 : Int) (out : List Bool), 0 ≤ x6 → x6 + d = g.length → out.length = g.length → on out 0 → (∀ x, 0 ≤ x → on out x → RAv (Eg g) z x) →
    ((∀ x, RAv (Eg g) z x → on out x) ∨ cf out ≤ d) → Ends (fun k => jacquardref02_Without.l0 k g z out x6) (fun r => r.length = g.length ∧ ∀ x, 0 ≤ x → (on r x ↔ RAv (Eg g) z x)) := by
  have hl := (okG_len hg).1
  intro d
  induction d with
  | zero =>
    intro x6 out h0 hd ho hon hs hm
    refine ⟨1, out, by show jacquardref02_Without.l0 (0 + 1) g z out x6 = _; rw [jacquardref02_Without.l0, if_neg (by omega)], ho, fun x hx => ⟨hs x hx, fun h => ?_⟩⟩
    rcases hm with hm | hm
    · exact hm x h
    · have hr : 0 ≤ x ∧ x < g.length := by
        cases h with
        | start => omega
        | step _ he _ => have := Eg_in he; omega
      by_cases hx : on out x
      · exact hx
      · have := cf_set out x.toNat (by omega) (by unfold on at hx; simpa using hx)
        omega
  | succ d ih =>
    intro x6 out h0 hd ho hon hs hm
    refine (wo_l1 hg x6 g.length 0 out (by omega) (by omega) ho hs (fun out' ho' hs' hm' hcl' => ?_)).step (fun k => by rw [jacquardref02_Without.l0, if_pos (by omega)])
    rw [w64 (by omega) (by omega)]
    refine ih (x6 + 1) out' (by omega) (by omega) ho' (hm' 0 (by omega) hon) hs' ?_
    have hmm : ∀ i, out.getD i false = true → out'.getD i false = true := fun i h => getD_on.2 (hm' _ (by omega) (getD_on.1 h))
    rcases hm with hm | hm
    · refine .inl (fun x hx => hm' x ?_ (hm x hx))
      cases hx with
      | start => omega
      | step _ he _ => have := Eg_in he; omega
    · by_cases hc : cf out ≤ cf out'
      · have e := cf_eq out out' (ho.trans ho'.symm) hmm hc
        subst e
        refine .inl (fun x hx => ?_)
        induction hx with
        | start => exact hon
        | step hx he hb ihx =>
          have := Eg_in he
          exact hcl' _ this.1 ihx _ he hb
      · exact .inr (by omega)
end
/-- What the reference's Without tells. -/
def WoR (g : List (List Int)) (z : Int) (r : List Bool) : Prop := r.length = g.length ∧ ∀ x, 0 ≤ x → (on r x ↔ RAv (Eg g) z x)
theorem wo_some (g : List (List Int)) (hg : okG g = true) (hn : 0 < g.length) (z : Int) : Ends (fun k => jacquardref02_Without.f k g z) (WoR g z) := by
  have hl := (okG_len hg).1
  by_cases hz : z = 0
  · subst hz
    refine ⟨1, List.replicate g.length false, ?_, by simp, fun x hx => ⟨fun h => ?_, fun h => ?_⟩⟩
    · show jacquardref02_Without.f (0 + 1) g 0 = _
      unfold jacquardref02_Without.f
      rw [if_pos (by omega), if_pos (by omega), Option.bind_some, if_neg (by omega), jacquardref02_Without.j0, if_pos (by rfl), Int.toNat_natCast]
    · unfold on at h
      rw [List.getD_eq_getElem?_getD, List.getElem?_replicate] at h
      split at h <;> cases h
    · have : ∀ y, RAv (Eg g) 0 y → False := by
        intro y hy
        induction hy with
        | start h => exact h rfl
        | step _ _ _ ih => exact ih
      exact (this x h).elim
  · have hrep : (List.replicate g.length false).length = g.length := by simp
    have h := wo_l0 (g := g) (z := z) hg hn hz g.length 0 ((List.replicate g.length false).set (0 : Int).toNat true) (by omega) (by omega) (by simp) ((on_set (by omega) (by omega)).2 (.inr rfl)) (fun x hx h => by
      rw [on_set (by omega) hx] at h
      rcases h with h | h
      · unfold on at h
        rw [List.getD_eq_getElem?_getD, List.getElem?_replicate] at h
        split at h <;> cases h
      · subst h; exact .start hz) (.inr (by
        have := cf_set (List.replicate g.length false) 0 (by omega) (by rw [List.getD_eq_getElem?_getD, List.getElem?_replicate]; split <;> rfl)
        have h2 : cf (List.replicate g.length false) ≤ g.length := by have := List.count_le_length (a := false) (l := List.replicate g.length false); unfold cf; omega
        show cf ((List.replicate g.length false).set 0 true) ≤ g.length
        omega))
    refine h.step (fun k => ?_)
    have hb : (z == 0) = false := by simpa using hz
    unfold jacquardref02_Without.f
    rw [if_pos (by omega), if_pos (by omega), Option.bind_some, if_neg (by omega), hb, jacquardref02_Without.j0, if_neg (by decide), Int.toNat_natCast, if_pos (by rw [hrep]; omega)]
theorem WoR.rd {g : List (List Int)} {z : Int} {r : List Bool} (h : WoR g z r) (x : Int) (hx : 0 ≤ x) : rdOf false r x = true ↔ RAv (Eg g) z x := h.2 x hx
end Go.Proofs.Ytnmeomdjhjgnfaa.X
end
section
/-! Plain: the reference's Dom and Table. -/
set_option linter.unusedVariables false
set_option linter.unusedSimpArgs false
namespace Go.Proofs.Ytnmeomdjhjgnfaa.X
open Go.RowKit Go.Proofs.YtnmeomdjhjgnfaaW.PrintWords Go.Proofs.YtnmeomdjhjgnfaaW.PrintLast Go.Proofs.YtnmeomdjhjgnfaaW.PrintMore

/-- A row of the table. -/
def TbRow (g : List (List Int)) (a : Int) (row : List Bool) : Prop := row.length = g.length ∧ ∀ b, 0 ≤ b → b < (g.length : Int) → (on row b ↔ Dmb (Eg g) a b)
/-- What the reference's Table tells. -/
structure TbR (g : List (List Int)) (t : List (List Bool)) : Prop where
  len : t.length = g.length
  row : ∀ a, 0 ≤ a → a < (g.length : Int) → TbRow g a (rd_L6 t a)
theorem TbR.rd {g : List (List Int)} {t : List (List Bool)} (h : TbR g t) (a b : Int) (ha : 0 ≤ a ∧ a < (g.length : Int)) (hb : 0 ≤ b ∧ b < (g.length : Int)) : rdOf false (rd_L6 t a) b = true ↔ Dmb (Eg g) a b := (h.row a ha.1 ha.2).2 b hb.1 hb.2
theorem tb_l1 {g : List (List Int)} (hg : okG g = true) {Q : List (List Bool) → Prop} (all rest : List Bool) (hall : WoR g (-1) all) (x4 : List (List Bool)) (a : Int) (ha : 0 ≤ a ∧ a < (g.length : Int)) (hrest : WoR g a rest) (hx4 : x4.length ≤ 1000000)
    (hc : ∀ row, TbRow g a row → Ends (fun k => jacquardref02_Table.l0 k g all (x4 ++ [row]) (wrap64 (a + 1))) Q) : ∀ (d : Nat) (x8 : Int) (row : List Bool), 0 ≤ x8 → x8 + d = g.length → row.length = g.length → (∀ b, 0 ≤ b → b < x8 → (on row b ↔ Dmb (Eg g) a b)) →
    Ends (fun k => jacquardref02_Table.l1 k g all x4 a row rest x8) Q := by
  have hn := (okG_len hg).1
  have hal := hall.1
  have hrl := hrest.1
  intro d
  induction d with
  | zero =>
    intro x8 row h0 hd hl hr
    refine (hc row ⟨hl, fun b h1 h2 => hr b h1 (by omega)⟩).step (fun k => ?_)
    rw [jacquardref02_Table.l1, if_neg (by omega), if_pos (by omega)]
  | succ d ih =>
    intro x8 row h0 hd hl hr
    have hw : wrap64 (x8 + 1) = x8 + 1 := w64 (by omega) (by omega)
    have set : ∀ v : Bool, (v = true ↔ Dmb (Eg g) a x8) → Ends (fun k => jacquardref02_Table.l1 k g all x4 a (row.set x8.toNat v) rest (x8 + 1)) Q := fun v hv =>
      ih (x8 + 1) (row.set x8.toNat v) (by omega) (by omega) (by simpa using hl) (fun b h1 h2 => by
        rw [on_setv (by omega) h1]
        by_cases e : b = x8
        · subst e; simp [hv]
        · rw [← hr b h1 (by omega)]; simp [e])
    by_cases h1 : rdOf false all a = true
    · have ra := (hall.rd a ha.1).1 h1
      by_cases h2 : rdOf false all x8 = true
      · have rb := (hall.rd x8 h0).1 h2
        by_cases h3 : a = x8
        · refine (set true ⟨fun _ => ⟨ra, rb, .inl h3⟩, fun _ => rfl⟩).step (fun k => ?_)
          rw [jacquardref02_Table.l1, if_pos (by omega), if_pos ha.1, if_pos (by omega), if_pos h1, if_pos h0, if_pos (by omega), if_pos h2, if_pos h3, if_pos (by omega), hw]
        · refine (set (!(rdOf false rest x8)) ?_).step (fun k => ?_)
          · rw [Bool.not_eq_true', ← Bool.not_eq_true, hrest.rd x8 h0]
            exact ⟨fun h => ⟨ra, rb, .inr h⟩, fun h => h.2.2.resolve_left h3⟩
          · rw [jacquardref02_Table.l1, if_pos (by omega), if_pos ha.1, if_pos (by omega), if_pos h1, if_pos h0, if_pos (by omega), if_pos h2, if_neg h3, if_pos (by omega), if_pos (by omega), hw]
      · refine (set false ⟨fun h => (nomatch h), fun h => absurd ((hall.rd x8 h0).2 h.2.1) h2⟩).step (fun k => ?_)
        rw [jacquardref02_Table.l1, if_pos (by omega), if_pos ha.1, if_pos (by omega), if_pos h1, if_pos h0, if_pos (by omega), if_neg h2, if_pos (by omega), hw]
    · refine (set false ⟨fun h => (nomatch h), fun h => absurd ((hall.rd a ha.1).2 h.1) h1⟩).step (fun k => ?_)
      rw [jacquardref02_Table.l1, if_pos (by omega), if_pos ha.1, if_pos (by omega), if_neg h1, if_pos h0, if_pos (by omega), hw]
theorem L6_snoc (x4 : List (List Bool)) (row : List Bool) (a : Int) (h0 : 0 ≤ a) (h1 : a < x4.length + 1) : rd_L6 (x4 ++ [row]) a = if a = x4.length then row else rd_L6 x4 a := by
  unfold rd_L6
  rw [List.getD_eq_getElem?_getD, List.getD_eq_getElem?_getD]
  by_cases h : a = x4.length
  · rw [if_pos h, List.getElem?_append_right (by omega), show a.toNat - x4.length = 0 from by omega]
    rfl
  · rw [if_neg h, List.getElem?_append_left (by omega)]
theorem tb_l0 {g : List (List Int)} (hg : okG g = true) (hn : 0 < g.length) (all : List Bool) (hall : WoR g (-1) all) : ∀ (d : Nat) (x4 : List (List Bool)) (x5 : Int), x5 + d = g.length → (x4.length : Int) = x5 → (∀ a, 0 ≤ a → a < x5 → TbRow g a (rd_L6 x4 a)) →
    Ends (fun k => jacquardref02_Table.l0 k g all x4 x5) (TbR g) := by
  have hl := (okG_len hg).1
  intro d
  induction d with
  | zero =>
    intro x4 x5 hd h4 hr
    exact ⟨1, x4, by show jacquardref02_Table.l0 (0 + 1) g all x4 x5 = _; rw [jacquardref02_Table.l0, if_neg (by omega)], ⟨by omega, fun a h0 h1 => hr a h0 (by omega)⟩⟩
  | succ d ih =>
    intro x4 x5 hd h4 hr
    have hw : wrap64 (x5 + 1) = x5 + 1 := w64 (by omega) (by omega)
    have h := Ends.bind (f := fun k => jacquardref02_Without.f k g x5) (g := fun k t => jacquardref02_Table.l1 k g all x4 x5 (List.replicate ((g.length : Int) : Int).toNat false) t 0) (Q := TbR g) (fun k => jacquardref02_Without.mono _ _ k) (fun a k => (jacquardref02_Table.mono_l k).2 _ _ _ _ _ _ _) (wo_some g hg hn x5) (fun rest hrest =>
      tb_l1 hg all rest hall x4 x5 ⟨by omega, by omega⟩ hrest (by omega) (fun row hrow => by
        rw [hw]
        refine ih (x4 ++ [row]) (x5 + 1) (by omega) (by rw [List.length_append]; simp; omega) (fun a h0 h1 => ?_)
        rw [L6_snoc x4 row a h0 (by omega)]
        by_cases e : a = x4.length
        · rw [if_pos e, e, h4]; exact hrow
        · rw [if_neg e]; exact hr a h0 (by omega)) g.length 0 _ (by omega) (by omega) (by simp) (fun b h0 h1 => by omega))
    refine h.step (fun k => ?_)
    rw [jacquardref02_Table.l0, if_pos (by omega), if_pos (by omega), if_pos (by omega)]
theorem table_some (g : List (List Int)) (hg : okG g = true) (hn : 0 < g.length) : Ends (fun k => jacquardref02_Table.f k g) (TbR g) :=
  Ends.bind (f := fun k => jacquardref02_Without.f k g (-1)) (g := fun k t => jacquardref02_Table.l0 k g t ([] : List (List Bool)) 0) (fun k => jacquardref02_Without.mono _ _ k) (fun a k => (jacquardref02_Table.mono_l k).1 _ _ _ _) (wo_some g hg hn (-1)) (fun all hall =>
    tb_l0 hg hn all hall g.length [] 0 (by omega) rfl (fun a h0 h1 => by omega))
end Go.Proofs.Ytnmeomdjhjgnfaa.X
end
section
/-! The plain law of GraphOrder. -/
set_option linter.unusedSimpArgs false
set_option linter.unusedVariables false
namespace Go.Proofs.Ytnmeomdjhjgnfaa.Pure
open Go.RowKit Go.Proofs.Ytnmeomdjhjgnfaa.X Go.Proofs.YtnmeomdjhjgnfaaW.PrintWords Go.Proofs.YtnmeomdjhjgnfaaW.PrintLast

section
variable {g : List (List Int)} {o r : List Int} {par : Nat → Nat} {t : List (List Bool)} {all : List Bool}
theorem ord_l2 (hok : okG g = true) (R : IdomR g o r par) (T : TbR g t) (i : Nat) (hi : i < o.length) (H : ∃ k, jacquardlaw02_GraphOrder.l1 k true g o t ((i : Int) + 1) = some true) :
    ∀ (d x12 : Nat) (x11 : Bool), x12 + d = i → (x11 = true ↔ i = 0 ∨ ∃ j, j < x12 ∧ Eg g (at_ o j) (at_ o i)) → ∃ k, jacquardlaw02_GraphOrder.l2 k true g o t i x11 x12 = some true := by
  have hn := (okG_len hok).1
  have hol := ordd_len R.ord
  have hri := R.ord.rng _ (at_mem hi)
  have htl := T.len
  intro d
  induction d with
  | zero =>
    intro x12 x11 hd hx
    have h11 : x11 = true := hx.2 (by
      rcases Nat.eq_zero_or_pos i with h | h
      · exact .inl h
      · obtain ⟨j, hj, he⟩ := R.ord.fwd i h hi
        exact .inr ⟨j, by omega, he⟩)
    obtain ⟨k, hk⟩ := H
    refine ⟨k + 1, ?_⟩
    rw [jacquardlaw02_GraphOrder.l2, if_neg (by omega), if_pos h11, w64 (by omega) (by omega)]
    exact hk
  | succ d ih =>
    intro x12 x11 hd hx
    have hlt : x12 < i := by omega
    have hrj := R.ord.rng _ (at_mem (show x12 < o.length by omega))
    have hw : wrap64 ((x12 : Int) + 1) = ((x12 + 1 : Nat) : Int) := by rw [w64 (by omega) (by omega)]; omega
    have ej : rd o (x12 : Int) = at_ o x12 := rfl
    have ei : rd o (i : Int) = at_ o i := rfl
    have hne : ¬ at_ o x12 = at_ o i := fun h => by have := at_inj R.ord.nodup (by omega) hi h; omega
    have hnd : ¬ rdOf false (rd_L6 t (at_ o i)) (at_ o x12) = true := by
      rw [T.rd _ _ hri hrj, dmb_places R hi (by omega)]
      intro h
      have := h.le R.dn
      omega
    have hrl := (T.row _ hri.1 hri.2).1
    cases h11 : x11 with
    | true =>
      obtain ⟨k, hk⟩ := ih (x12 + 1) true (by omega) ⟨fun _ => by
        rcases hx.1 h11 with h | ⟨j, hj, he⟩
        · exact .inl h
        · exact .inr ⟨j, by omega, he⟩, fun _ => rfl⟩
      refine ⟨k + 1000003 + 1, ?_⟩
      have hk2 := up (f := fun k => jacquardlaw02_GraphOrder.l2 k true g o t i true ((x12 + 1 : Nat) : Int)) (fun k => (jacquardlaw02_GraphOrder.mono_l k).2.2.2.2 _ _ _ _ _ _ _) (m := k + 1000003) (by omega) hk
      rw [jacquardlaw02_GraphOrder.l2, if_pos (by omega), if_pos (by omega), if_pos (by omega), if_pos (by omega), if_pos (by omega), edge_some g hok _ _ (by omega), Option.bind_some, if_pos rfl, ej, ei, if_neg hne, if_pos hri.1, if_pos (by omega), if_pos hrj.1, if_pos (by omega), if_neg hnd, hw]
      exact hk2
    | false =>
      have hno : ¬ (i = 0 ∨ ∃ j, j < x12 ∧ Eg g (at_ o j) (at_ o i)) := fun h => by rw [hx.2 h] at h11; cases h11
      obtain ⟨k, hk⟩ := ih (x12 + 1) (eB g (at_ o x12) (at_ o i)) (by omega) ⟨fun h => .inr ⟨x12, by omega, h⟩, fun h => by
        rcases h with h | ⟨j, hj, he⟩
        · exact absurd (.inl h) hno
        · by_cases e : j = x12
          · subst e; exact he
          · exact absurd (.inr ⟨j, by omega, he⟩) hno⟩
      refine ⟨k + 1000003 + 1, ?_⟩
      have hk2 := up (f := fun k => jacquardlaw02_GraphOrder.l2 k true g o t i (eB g (at_ o x12) (at_ o i)) ((x12 + 1 : Nat) : Int)) (fun k => (jacquardlaw02_GraphOrder.mono_l k).2.2.2.2 _ _ _ _ _ _ _) (m := k + 1000003) (by omega) hk
      rw [jacquardlaw02_GraphOrder.l2, if_pos (by omega), if_pos (by omega), if_pos (by omega), if_pos (by omega), if_pos (by omega), edge_some g hok _ _ (by omega), Option.bind_some, if_neg (by decide), ej, ei, if_neg hne, if_pos hri.1, if_pos (by omega), if_pos hrj.1, if_pos (by omega), if_neg hnd, hw]
      exact hk2
theorem ord_l1 (hok : okG g = true) (R : IdomR g o r par) (T : TbR g t) : ∀ (d i : Nat), i + d = o.length → ∃ k, jacquardlaw02_GraphOrder.l1 k true g o t i = some true := by
  intro d
  induction d with
  | zero =>
    intro i hd
    exact ⟨0 + 1, by rw [jacquardlaw02_GraphOrder.l1, if_neg (by omega)]⟩
  | succ d ih =>
    intro i hd
    have hri := R.ord.rng _ (at_mem (show i < o.length by omega))
    obtain ⟨k, hk⟩ := ih (i + 1) (by omega)
    obtain ⟨k, hk⟩ := ord_l2 hok R T i (by omega) ⟨k, hk⟩ i 0 (((i : Int)) == 0) (by omega) ⟨fun h => .inl (by simpa using h), fun h => by
      rcases h with h | ⟨j, hj, _⟩
      · simpa using h
      · omega⟩
    refine ⟨k + 1 + 1, ?_⟩
    have ei : rd o (i : Int) = at_ o i := rfl
    rw [jacquardlaw02_GraphOrder.l1, if_pos (by omega), if_pos (by omega), ei, if_neg (by omega), decide_eq_false (by omega), jacquardlaw02_GraphOrder.j3, if_neg (by decide)]
    exact hk
theorem ord_l0 (hok : okG g = true) (R : IdomR g o r par) (T : TbR g t) (hall : WoR g (-1) all) : ∀ (d : Nat) (x9 x8 : Int), 0 ≤ x9 → x9 + d = g.length → 0 ≤ x8 → x8 ≤ x9 → x8 + (upto (rdOf false all) d x9).length = (o.length : Int) → ∃ k, jacquardlaw02_GraphOrder.l0 k true g o t all x8 x9 = some true := by
  have hn := (okG_len hok).1
  have hal := hall.1
  have hp := R.ord.pos
  intro d
  induction d with
  | zero =>
    intro x9 x8 h0 hd h8 h89 hc
    obtain ⟨k, hk⟩ := ord_l1 hok R T o.length 0 (by omega)
    refine ⟨k + 1 + 1, ?_⟩
    have hh : (rd o 0 != 0) = false := by
      have : rd o 0 = 0 := R.ord.head
      rw [this]; rfl
    simp only [upto, List.length_nil] at hc
    rw [jacquardlaw02_GraphOrder.l0, if_neg (by omega), if_pos (by omega), if_neg (by omega), if_pos (by omega), hh, jacquardlaw02_GraphOrder.j1, if_neg (by decide)]
    exact hk
  | succ d ih =>
    intro x9 x8 h0 hd h8 h89 hc
    have hw : wrap64 (x9 + 1) = x9 + 1 := w64 (by omega) (by omega)
    have hw8 : wrap64 (x8 + 1) = x8 + 1 := w64 (by omega) (by omega)
    rw [upto] at hc
    by_cases h : rdOf false all x9 = true
    · rw [if_pos h, List.length_cons] at hc
      obtain ⟨k, hk⟩ := ih (x9 + 1) (x8 + 1) (by omega) (by omega) (by omega) (by omega) (by omega)
      exact ⟨k + 1, by rw [jacquardlaw02_GraphOrder.l0, if_pos (by omega), if_pos h0, if_pos h, hw, hw8]; exact hk⟩
    · rw [if_neg h] at hc
      obtain ⟨k, hk⟩ := ih (x9 + 1) x8 (by omega) (by omega) (by omega) (by omega) (by omega)
      exact ⟨k + 1, by rw [jacquardlaw02_GraphOrder.l0, if_pos (by omega), if_pos h0, if_neg h, hw]; exact hk⟩
end
theorem GraphOrder : jacquardlaw02_GraphOrder.Pure := by
  intro l0 _ hs _
  obtain ⟨k1, g, hk1, hG⟩ := made_some l0 hs
  have hf := hG.few
  have hn := hG.pos
  obtain ⟨k2, o, r, par, hk2, _, R⟩ := get_idom g hG.ok (by omega) (by omega)
  obtain ⟨k3, all, hk3, hall⟩ := wo_some g hG.ok (by omega) (-1)
  replace hk3 : jacquardref02_Without.f k3 g (-1) = some all := hk3
  obtain ⟨k4, t, hk4, T⟩ := table_some g hG.ok (by omega)
  replace hk4 : jacquardref02_Table.f k4 g = some t := hk4
  have hlen : (upto (rdOf false all) g.length 0).length = o.length := by
    refine ((List.perm_ext_iff_of_nodup ?_ R.ord.nodup).2 (fun x => ?_)).length_eq
    · exact upto_nodup _ _ _
    · rw [mem_upto, reach_iff R.ord]
      constructor
      · rintro ⟨h1, h2⟩; exact (hall.rd x h1.1).1 h2
      · intro h
        have := RAv.rng (by omega) h
        exact ⟨by omega, (hall.rd x this.1).2 h⟩
  obtain ⟨k5, hk5⟩ := ord_l0 hG.ok R T hall g.length 0 0 (by omega) (by omega) (by omega) (by omega) (by omega)
  obtain ⟨m, hm⟩ : ∃ m, m = k1 + k2 + k3 + k4 + k5 := ⟨_, rfl⟩
  refine ⟨m, ?_⟩
  have e1 := up (f := fun k => jacquardref02_Made.f k l0) (fun k => jacquardref02_Made.mono _ _) (m := m) (by omega) hk1
  have e2 := up (f := fun k => graph_Order.f k g) (fun k => graph_Order.mono k g) (m := m) (by omega) hk2
  have e3 := up (f := fun k => jacquardref02_Without.f k g (-1)) (fun k => jacquardref02_Without.mono _ _ k) (m := m) (by omega) hk3
  have e4 := up (f := fun k => jacquardref02_Table.f k g) (fun k => jacquardref02_Table.mono _ k) (m := m) (by omega) hk4
  have e5 := up (f := fun k => jacquardlaw02_GraphOrder.l0 k true g o t all 0 0) (fun k => (jacquardlaw02_GraphOrder.mono_l k).1 _ _ _ _ _ _ _) (m := m) (by omega) hk5
  unfold jacquardlaw02_GraphOrder.f
  unfold jacquardlaw02_awake.f
  simp only [Option.bind_some]
  rw [e1]
  simp only [Option.bind_some]
  rw [e2]
  simp only [Option.bind_some]
  rw [e4]
  simp only [Option.bind_some]
  rw [e3]
  simp only [Option.bind_some]
  exact e5
end Go.Proofs.Ytnmeomdjhjgnfaa.Pure
end
