/- Parts of the proof of GraphTells: Prefc, Prid, Plaw, Ptold, PureGraphTells. -/
import Derived.Test.YtnmeomdjhjgnfaaB4
import Derived.Test.YtnmeomdjhjgnfaaB3
import Derived.Test.YtnmeomdjhjgnfaaB2
section
set_option linter.unusedVariables false
set_option linter.unusedSimpArgs false
namespace Go.Proofs.Ytnmeomdjhjgnfaa.X
open Go.RowKit Go.Proofs.YtnmeomdjhjgnfaaW.PrintWords Go.Proofs.YtnmeomdjhjgnfaaW.PrintLast

/-! ### the reference's rounds -/
section
variable {g : List (List Int)} {t : List (List Bool)} {h : Int} {all : List Bool} {Q : List Int → Prop}
theorem rbody_l0 (hg : okG g = true) (T : TbR g t)
    (hc1 : (∃ b, BS g h b) → ∀ S : List Bool, S.length = g.length → (∀ x, 0 ≤ x → (on S x ↔ x = h ∨ BS g h x)) → Ends (fun k => jacquardref02_Body.l1 k g h all S 0) Q) (hc0 : (¬ ∃ b, BS g h b) → Q []) :
    ∀ (d : Nat) (x9 : Int) (S : List Bool) (some : Bool), 0 ≤ x9 → x9 + d = g.length → S.length = g.length → (∀ x, 0 ≤ x → (on S x ↔ x < x9 ∧ BS g h x)) → (some = true ↔ ∃ b, b < x9 ∧ BS g h b) → Ends (fun k => jacquardref02_Body.l0 k g h t all S some x9) Q := by
  have hl := (okG_len hg).1
  have htl := T.len
  intro d
  induction d with
  | zero =>
    intro x9 S sm h0 hd hS hx hs
    by_cases h8 : sm = true
    · obtain ⟨b, hb1, hb⟩ := hs.1 h8
      have hr := Eg_in hb.1
      have hlt : h < (S.length : Int) := by omega
      refine (hc1 ⟨b, hb⟩ (S.set h.toNat true) (by simpa using hS) (fun x hx0 => ?_)).step (fun k => ?_)
      · rw [on_set ⟨hr.2.2.1, hlt⟩ hx0, hx x hx0]
        constructor
        · rintro (h1 | h1)
          · exact .inr h1.2
          · exact .inl h1
        · rintro (h1 | h1)
          · exact .inr h1
          · have := Eg_in h1.1
            exact .inl ⟨by omega, h1⟩
      · rw [jacquardref02_Body.l0, if_neg (by omega), if_pos h8, if_pos hr.2.2.1, if_pos hlt]
    · refine ⟨1, [], by show jacquardref02_Body.l0 (0 + 1) g h t all S sm x9 = _; rw [jacquardref02_Body.l0, if_neg (by omega), if_neg h8], hc0 (fun ⟨b, hb⟩ => h8 (hs.2 ⟨b, ?_, hb⟩))⟩
      have := Eg_in hb.1
      omega
  | succ d ih =>
    intro x9 S sm h0 hd hS hx hs
    have hw : wrap64 (x9 + 1) = x9 + 1 := w64 (by omega) (by omega)
    have no : ¬ BS g h x9 → Ends (fun k => jacquardref02_Body.l0 k g h t all S sm (x9 + 1)) Q := fun hn =>
      ih (x9 + 1) S sm (by omega) (by omega) hS (fun x hx0 => by
        rw [hx x hx0]
        constructor
        · rintro ⟨h1, h2⟩; exact ⟨by omega, h2⟩
        · rintro ⟨h1, h2⟩
          by_cases e : x = x9
          · subst e; exact absurd h2 hn
          · exact ⟨by omega, h2⟩) (by
        rw [hs]
        constructor
        · rintro ⟨b, h1, h2⟩; exact ⟨b, by omega, h2⟩
        · rintro ⟨b, h1, h2⟩
          by_cases e : b = x9
          · subst e; exact absurd h2 hn
          · exact ⟨b, by omega, h2⟩)
    have mono : ∀ (S : List Bool) (sm : Bool) k, LeO (jacquardref02_Body.l0 k g h t all S sm (x9 + 1)) (jacquardref02_Body.l0 (k + 1) g h t all S sm (x9 + 1)) := fun S sm k => (jacquardref02_Body.mono_l k).1 _ _ _ _ _ _ _
    by_cases he : eB g x9 h = true
    · have hr := Eg_in (show Eg g x9 h from he)
      have hrl := (T.row h hr.2.2.1 hr.2.2.2).1
      by_cases hd2 : rdOf false (rd_L6 t h) x9 = true
      · have hB : BS g h x9 := ⟨he, (T.rd h x9 ⟨hr.2.2.1, hr.2.2.2⟩ ⟨hr.1, hr.2.1⟩).1 hd2⟩
        refine Ends.late 1000003 (mono _ _) (ih (x9 + 1) (S.set x9.toNat true) true (by omega) (by omega) (by simpa using hS) (fun x hx0 => ?_) ⟨fun _ => ⟨x9, by omega, hB⟩, fun _ => rfl⟩) (fun k hk => ?_)
        · rw [on_set (by omega) hx0, hx x hx0]
          constructor
          · rintro (⟨h1, h2⟩ | h1)
            · exact ⟨by omega, h2⟩
            · subst h1; exact ⟨by omega, hB⟩
          · rintro ⟨h1, h2⟩
            by_cases e : x = x9
            · exact .inr e
            · exact .inl ⟨by omega, h2⟩
        · rw [jacquardref02_Body.l0, if_pos (by omega), edge_some g hg _ _ hk, Option.bind_some, if_pos he, if_pos hr.2.2.1, if_pos (by omega), if_pos h0, if_pos (by omega), if_pos hd2, if_pos (by omega), hw]
      · refine Ends.late 1000003 (mono _ _) (no (fun hB => hd2 ((T.rd h x9 ⟨hr.2.2.1, hr.2.2.2⟩ ⟨hr.1, hr.2.1⟩).2 hB.2))) (fun k hk => ?_)
        rw [jacquardref02_Body.l0, if_pos (by omega), edge_some g hg _ _ hk, Option.bind_some, if_pos he, if_pos hr.2.2.1, if_pos (by omega), if_pos h0, if_pos (by omega), if_neg hd2, hw]
    · refine Ends.late 1000003 (mono _ _) (no (fun hB => he hB.1)) (fun k hk => ?_)
      rw [jacquardref02_Body.l0, if_pos (by omega), edge_some g hg _ _ hk, Option.bind_some, if_neg he, hw]
theorem rbody_l3 (hg : okG g = true) (hall : WoR g (-1) all) (x11 a : Int) (ha : 0 ≤ a ∧ a < (g.length : Int)) (l : List Int) (hl : ∀ y ∈ l, Eg g a y) (hll : l.length ≤ 1000000) : ∀ (d i : Nat) (S : List Bool), i + d = l.length → S.length = g.length →
    (∀ S' : List Bool, S'.length = g.length → (∀ x, 0 ≤ x → on S x → on S' x) → ((∀ x, 0 ≤ x → on S x → Rch (Eg g) x ∧ Bd g h x) → ∀ x, 0 ≤ x → on S' x → Rch (Eg g) x ∧ Bd g h x) → (Rch (Eg g) a → ∀ y, y ∈ l.drop i → y ≠ h → on S y → on S' a) → Ends (fun k => jacquardref02_Body.l2 k g h all S' x11 (wrap64 (a + 1))) Q) →
    Ends (fun k => jacquardref02_Body.l3 k g h all S x11 a l i) Q := by
  have hn := (okG_len hg).1
  have hal := hall.1
  intro d
  induction d with
  | zero =>
    intro i S hd hS hc
    refine (hc S hS (fun x _ h => h) (fun h => h) (fun _ y hy => by rw [List.drop_of_length_le (by omega)] at hy; cases hy)).step (fun k => ?_)
    rw [jacquardref02_Body.l3, if_neg (by omega)]
  | succ d ih =>
    intro i S hd hS hc
    have hlt : i < l.length := by omega
    have hrd : rd l i = l[i] := by simp [rd, hlt]
    have hE := hl (rd l i) (by rw [hrd]; exact List.getElem_mem _)
    have hy := Eg_in hE
    have hw : wrap64 ((i : Int) + 1) = ((i + 1 : Nat) : Int) := by rw [w64 (by omega) (by omega)]; omega
    have hdrop : l.drop i = rd l i :: l.drop (i + 1) := by rw [hrd]; exact List.drop_eq_getElem_cons hlt
    have skip : (Rch (Eg g) a → rd l i ≠ h → ¬ on S (rd l i)) → Ends (fun k => jacquardref02_Body.l3 k g h all S x11 a l ((i + 1 : Nat) : Int)) Q := fun hno =>
      ih (i + 1) S (by omega) hS (fun S' h1 h2 h3 h4 => hc S' h1 h2 h3 (fun hr y hy hne hon => by
        rw [hdrop] at hy
        rcases List.mem_cons.1 hy with rfl | hy
        · exact absurd hon (hno hr hne)
        · exact h4 hr y hy hne hon))
    by_cases h1 : rdOf false all a = true
    · have hra := (hall.rd a ha.1).1 h1
      by_cases h2 : rd l i = h
      · refine (skip (fun _ hne => absurd h2 hne)).step (fun k => ?_)
        rw [jacquardref02_Body.l3, if_pos (by omega), if_pos ha.1, if_pos (by omega), if_pos h1, if_pos (by omega), if_pos h2, hw]
      · by_cases h3 : rdOf false S (rd l i) = true
        · have hset : ∀ x, 0 ≤ x → (on (S.set a.toNat true) x ↔ on S x ∨ x = a) := fun x hx => on_set (by omega) hx
          refine (ih (i + 1) (S.set a.toNat true) (by omega) (by simpa using hS) (fun S' g1 g2 g3 g4 => hc S' g1 (fun x hx hon => g2 x hx ((hset x hx).2 (.inl hon))) (fun hP => g3 (fun x hx hon => ?_)) (fun hr y hy hne hon => g2 a ha.1 ((hset a ha.1).2 (.inr rfl))))).step (fun k => ?_)
          · rcases (hset x hx).1 hon with hon | rfl
            · exact hP x hx hon
            · exact ⟨hra, .step (hP _ hy.2.2.1 (on_rd.1 h3)).2 h2 hE⟩
          · rw [jacquardref02_Body.l3, if_pos (by omega), if_pos ha.1, if_pos (by omega), if_pos h1, if_pos (by omega), if_neg h2, if_pos hy.2.2.1, if_pos (by omega), if_pos h3, if_pos (by omega), hw]
        · refine (skip (fun _ _ hon => h3 (on_rd.2 hon))).step (fun k => ?_)
          rw [jacquardref02_Body.l3, if_pos (by omega), if_pos ha.1, if_pos (by omega), if_pos h1, if_pos (by omega), if_neg h2, if_pos hy.2.2.1, if_pos (by omega), if_neg h3, hw]
    · refine (skip (fun hr => absurd ((hall.rd a ha.1).2 hr) h1)).step (fun k => ?_)
      rw [jacquardref02_Body.l3, if_pos (by omega), if_pos ha.1, if_pos (by omega), if_neg h1, hw]
theorem rbody_l2 (hg : okG g = true) (hall : WoR g (-1) all) (x11 : Int) : ∀ (d : Nat) (x12 : Int) (S : List Bool), 0 ≤ x12 → x12 + d = g.length → S.length = g.length →
    (∀ S' : List Bool, S'.length = g.length → (∀ x, 0 ≤ x → on S x → on S' x) → ((∀ x, 0 ≤ x → on S x → Rch (Eg g) x ∧ Bd g h x) → ∀ x, 0 ≤ x → on S' x → Rch (Eg g) x ∧ Bd g h x) → (∀ a, x12 ≤ a → Rch (Eg g) a → ∀ y, Eg g a y → y ≠ h → on S y → on S' a) → Ends (fun k => jacquardref02_Body.l1 k g h all S' (wrap64 (x11 + 1))) Q) →
    Ends (fun k => jacquardref02_Body.l2 k g h all S x11 x12) Q := by
  have hn := (okG_len hg).1
  intro d
  induction d with
  | zero =>
    intro x12 S h0 hd hS hc
    refine (hc S hS (fun x _ h => h) (fun h => h) (fun a h1 _ y he => by have := Eg_in he; omega)).step (fun k => ?_)
    rw [jacquardref02_Body.l2, if_neg (by omega)]
  | succ d ih =>
    intro x12 S h0 hd hS hc
    have hnl := upto_len (eB g x12) g.length 0
    have h2 := rbody_l3 (Q := Q) (h := h) hg hall x11 x12 ⟨h0, by omega⟩ (nextL g x12) (fun y hy => (mem_nextL g x12 y).1 hy) (by unfold nextL; omega) (nextL g x12).length 0 S (by omega) hS (fun S1 g1 g2 g3 g4 => by
      rw [w64 (by omega) (by omega)]
      refine ih (x12 + 1) S1 (by omega) (by omega) g1 (fun S' k1 k2 k3 k4 => hc S' k1 (fun x hx hon => k2 x hx (g2 x hx hon)) (fun hP => k3 (g3 hP)) (fun a ha hr y he hne hon => ?_))
      have hra := Eg_in he
      by_cases e : a = x12
      · subst e
        exact k2 a h0 (g4 hr y (by rw [List.drop_zero, mem_nextL]; exact he) hne hon)
      · exact k4 a (by omega) hr y he hne (g2 y hra.2.2.1 hon))
    refine Ends.late 2000005 (fun k => (jacquardref02_Body.mono_l k).2.2.2.1 _ _ _ _ _ _ _ _) h2 (fun k hk => ?_)
    rw [jacquardref02_Body.l2, if_pos (by omega), next_some g hg _ hk, Option.bind_some]
    rfl
theorem rbody_l4 (hg : okG g = true) (S : List Bool) (hS : S.length = g.length) (P : Int → Bool) (hP : ∀ x, 0 ≤ x → x < (g.length : Int) → P x = rdOf false S x) : ∀ (d : Nat) (x15 : List Int) (x16 : Int), 0 ≤ x16 → x16 + d = g.length → (x15.length : Int) ≤ x16 → x15 ++ upto P d x16 = upto P g.length 0 → Ends (fun k => jacquardref02_Body.l4 k g S x15 x16) (fun r => r = upto P g.length 0) := by
  have hn := (okG_len hg).1
  intro d
  induction d with
  | zero =>
    intro x15 x16 h0 hd h5 he
    rw [upto, List.append_nil] at he
    exact ⟨1, x15, by show jacquardref02_Body.l4 (0 + 1) g S x15 x16 = _; rw [jacquardref02_Body.l4, if_neg (by omega)], he⟩
  | succ d ih =>
    intro x15 x16 h0 hd h5 he
    have hw : wrap64 (x16 + 1) = x16 + 1 := w64 (by omega) (by omega)
    rw [upto, hP x16 h0 (by omega)] at he
    by_cases h : rdOf false S x16 = true
    · rw [if_pos h] at he
      refine (ih (x15 ++ [x16]) (x16 + 1) (by omega) (by omega) (by rw [List.length_append]; simp; omega) (by rw [List.append_assoc]; exact he)).step (fun k => ?_)
      rw [jacquardref02_Body.l4, if_pos (by omega), if_pos h0, if_pos (by omega), if_pos h, if_pos (by omega), hw]
    · rw [if_neg h] at he
      refine (ih x15 (x16 + 1) (by omega) (by omega) (by omega) he).step (fun k => ?_)
      rw [jacquardref02_Body.l4, if_pos (by omega), if_pos h0, if_pos (by omega), if_neg h, hw]
theorem rbody_l1 (hg : okG g = true) (hall : WoR g (-1) all) (hh : 0 ≤ h ∧ h < (g.length : Int)) (P : Int → Bool) (hP : ∀ x, 0 ≤ x → x < (g.length : Int) → (P x = true ↔ Rch (Eg g) x ∧ Bd g h x)) : ∀ (d : Nat) (x11 : Int) (S : List Bool), 0 ≤ x11 → x11 + d = g.length → S.length = g.length →
    (∀ x, 0 ≤ x → x = h ∨ BS g h x → on S x) → (∀ x, 0 ≤ x → on S x → Rch (Eg g) x ∧ Bd g h x) → ((∀ x, 0 ≤ x → Rch (Eg g) x → Bd g h x → on S x) ∨ cf S ≤ d) →
    Ends (fun k => jacquardref02_Body.l1 k g h all S x11) (fun r => r = upto P g.length 0) := by
  have hn := (okG_len hg).1
  intro d
  induction d with
  | zero =>
    intro x11 S h0 hd hS h1 h2 h3
    have hfull : ∀ x, 0 ≤ x → x < (g.length : Int) → (P x = rdOf false S x) := by
      intro x hx0 hx1
      rw [Bool.eq_iff_iff, hP x hx0 hx1]
      constructor
      · rintro ⟨hr, hb⟩
        rcases h3 with h3 | h3
        · exact h3 x hx0 hr hb
        · refine Classical.byContradiction (fun hx => ?_)
          have := cf_set S x.toNat (by omega) (by unfold rdOf at hx; simpa using hx)
          omega
      · exact fun hon => h2 x hx0 hon
    refine (rbody_l4 hg S hS P hfull g.length [] 0 (by omega) (by omega) (by simp) (by simp)).step (fun k => ?_)
    rw [jacquardref02_Body.l1, if_neg (by omega)]
  | succ d ih =>
    intro x11 S h0 hd hS h1 h2 h3
    refine (rbody_l2 hg hall x11 g.length 0 S (by omega) (by omega) hS (fun S' g1 g2 g3 g4 => ?_)).step (fun k => by rw [jacquardref02_Body.l1, if_pos (by omega)])
    rw [w64 (by omega) (by omega)]
    refine ih (x11 + 1) S' (by omega) (by omega) g1 (fun x hx hx2 => g2 x hx (h1 x hx hx2)) (g3 h2) ?_
    have hsub : ∀ i, S.getD i false = true → S'.getD i false = true := fun i hi => getD_on.2 (g2 _ (by omega) (getD_on.1 hi))
    rcases h3 with h3 | h3
    · exact .inl (fun x hx hr hb => g2 x hx (h3 x hx hr hb))
    · by_cases hc : cf S ≤ cf S'
      · have e := cf_eq S S' (hS.trans g1.symm) hsub hc
        subst e
        refine .inl (fun x hx hr hb => ?_)
        have key : ∀ x, Bd g h x → Rch (Eg g) x → on S x := by
          intro x hb
          induction hb with
          | head => intro _; exact h1 h hh.1 (.inl rfl)
          | src hB => intro _; exact h1 _ (Eg_in hB.1).1 (.inr hB)
          | step _ hne he ihb =>
            intro hr
            have hra := Eg_in he
            exact g4 _ hra.1 hr _ he hne (ihb (Rch.step (Eg_nn g) hr he))
        exact key x hb hr
      · exact .inr (by omega)
end
theorem rbody_some {g : List (List Int)} (hg : okG g = true) (hn : 0 < g.length) (h : Int) (P : Int → Bool) (hP : ∀ x, 0 ≤ x → x < (g.length : Int) → (P x = true ↔ Rch (Eg g) x ∧ Bd g h x)) :
    Ends (fun k => jacquardref02_Body.f k g h) (fun r => ((∃ b, BS g h b) → r = upto P g.length 0) ∧ ((¬ ∃ b, BS g h b) → r = [])) := by
  have hl := (okG_len hg).1
  refine Ends.bind (f := fun k => jacquardref02_Table.f k g) (g := fun k t => (jacquardref02_Without.f k g (-1)).bind fun s => (if 0 ≤ (g.length : Int) then (if ((g.length : Int) : Int).toNat ≤ 281474976710656 then (jacquardref02_Body.l0 k g h t s (List.replicate ((g.length : Int) : Int).toNat false) false 0) else (none)) else (none))) (fun k => jacquardref02_Table.mono _ k) (fun a k => LeO.bind (jacquardref02_Without.mono _ _ k) (fun s => LeO.ite (LeO.ite ((jacquardref02_Body.mono_l k).1 _ _ _ _ _ _ _) (LeO.refl _)) (LeO.refl _))) (table_some g hg hn) (fun t T => ?_)
  refine Ends.bind (f := fun k => jacquardref02_Without.f k g (-1)) (g := fun k s => (if 0 ≤ (g.length : Int) then (if ((g.length : Int) : Int).toNat ≤ 281474976710656 then (jacquardref02_Body.l0 k g h t s (List.replicate ((g.length : Int) : Int).toNat false) false 0) else (none)) else (none))) (fun k => jacquardref02_Without.mono _ _ k) (fun a k => LeO.ite (LeO.ite ((jacquardref02_Body.mono_l k).1 _ _ _ _ _ _ _) (LeO.refl _)) (LeO.refl _)) (wo_some g hg hn (-1)) (fun all hall => ?_)
  have hrep : ∀ x, 0 ≤ x → (on (List.replicate ((g.length : Int) : Int).toNat false) x ↔ x < 0 ∧ BS g h x) := fun x hx => by
    constructor
    · intro hon
      unfold on at hon
      rw [List.getD_eq_getElem?_getD, List.getElem?_replicate] at hon
      split at hon <;> cases hon
    · intro h; omega
  refine (rbody_l0 (all := all) (Q := fun r => ((∃ b, BS g h b) → r = upto P g.length 0) ∧ ((¬ ∃ b, BS g h b) → r = [])) hg T (fun hex S hS hx => ?_) (fun hno => ⟨fun h => absurd h hno, fun _ => rfl⟩) g.length 0 (List.replicate ((g.length : Int) : Int).toNat false) false (by omega) (by omega) (by simp) hrep ⟨fun h => (nomatch h), fun ⟨b, hb1, hb⟩ => by have := Eg_in hb.1; omega⟩).same (fun k => ?_)
  · obtain ⟨b, hb⟩ := hex
    have hr := Eg_in hb.1
    refine (rbody_l1 hg hall ⟨hr.2.2.1, hr.2.2.2⟩ P hP g.length 0 S (by omega) (by omega) hS (fun x hx0 hx2 => (hx x hx0).2 hx2) (fun x hx0 hon => ?_) (.inr (by have := cf_le S; omega))).mono (fun r hr => ⟨fun _ => hr, fun hno => absurd ⟨b, hb⟩ hno⟩)
    rcases (hx x hx0).1 hon with rfl | hB
    · exact ⟨hb.2.1, .head⟩
    · exact ⟨hB.2.2.1, .src hB⟩
  · rw [if_pos (by omega), if_pos (by omega)]
/-- All that dominate b, but b, dominate a: those below m. -/
def LastTo (g : List (List Int)) (a b m : Int) : Prop := ∀ c, 0 ≤ c → c < m → c ≠ b → Dmb (Eg g) c b → Dmb (Eg g) c a
/-- a dominates b immediately. -/
def Imm (g : List (List Int)) (b a : Int) : Prop := a ≠ b ∧ Dmb (Eg g) a b ∧ LastTo g a b g.length
/-- v is b's immediate dominator's number among those below m, or -1. -/
def ImmR (g : List (List Int)) (m b v : Int) : Prop := (v = -1 ∧ ∀ a, 0 ≤ a → a < m → ¬ Imm g b a) ∨ (0 ≤ v ∧ v < m ∧ Imm g b v)
section
variable {g : List (List Int)} {t : List (List Bool)} {Q : List Int → Prop}
theorem rid_l2 (hg : okG g = true) (T : TbR g t) (x4 : List Int) (b x6 a : Int) (hb : 0 ≤ b ∧ b < (g.length : Int)) (ha : 0 ≤ a ∧ a < (g.length : Int))
    (hc : ∀ v : Bool, (v = true ↔ LastTo g a b g.length) → Ends (fun k => jacquardref02_Idom.l1 k g t x4 b (if v = true then a else x6) (a + 1)) Q) :
    ∀ (d : Nat) (x9 : Int) (x8 : Bool), 0 ≤ x9 → x9 + d = g.length → (x8 = true ↔ LastTo g a b x9) → Ends (fun k => jacquardref02_Idom.l2 k g t x4 b x6 a x8 x9) Q := by
  have hn := (okG_len hg).1
  have htl := T.len
  intro d
  induction d with
  | zero =>
    intro x9 x8 h0 hd hx
    refine (hc x8 (by rw [hx, show x9 = (g.length : Int) from by omega])).step (fun k => ?_)
    rw [jacquardref02_Idom.l2, if_neg (by omega), w64 (by omega) (by omega)]
    cases x8 with
    | true => rw [if_pos rfl, if_pos rfl]
    | false => rw [if_neg (by decide), if_neg (by decide)]
  | succ d ih =>
    intro x9 x8 h0 hd hx
    have hw : wrap64 (x9 + 1) = x9 + 1 := w64 (by omega) (by omega)
    have grow : ∀ v : Bool, ((v = true) ↔ (LastTo g a b x9 ∧ (x9 ≠ b → Dmb (Eg g) x9 b → Dmb (Eg g) x9 a))) → Ends (fun k => jacquardref02_Idom.l2 k g t x4 b x6 a v (x9 + 1)) Q := fun v hv =>
      ih (x9 + 1) v (by omega) (by omega) (by
        rw [hv]
        constructor
        · rintro ⟨h1, h2⟩ c hc0 hc1
          by_cases e : c = x9
          · subst e; exact h2
          · exact h1 c hc0 (by omega)
        · intro h
          exact ⟨fun c hc0 hc1 => h c hc0 (by omega), h x9 h0 (by omega)⟩)
    cases x8 with
    | false =>
      refine (grow false ⟨fun h => (nomatch h), fun h => ((hx.2 h.1) ▸ rfl)⟩).step (fun k => ?_)
      rw [jacquardref02_Idom.l2, if_pos (by omega), if_neg (by decide), hw]
    | true =>
      have hL := hx.1 rfl
      by_cases e : x9 = b
      · refine (grow true ⟨fun _ => ⟨hL, fun h => absurd e h⟩, fun _ => rfl⟩).step (fun k => ?_)
        rw [jacquardref02_Idom.l2, if_pos (by omega), if_pos rfl, if_pos e, hw]
      · have hrl := (T.row x9 h0 (by omega)).1
        by_cases h1 : rdOf false (rd_L6 t x9) b = true
        · have hD := (T.rd x9 b ⟨h0, by omega⟩ hb).1 h1
          refine (grow (rdOf false (rd_L6 t x9) a) ?_).step (fun k => ?_)
          · rw [T.rd x9 a ⟨h0, by omega⟩ ha]
            exact ⟨fun h => ⟨hL, fun _ _ => h⟩, fun h => h.2 e hD⟩
          · rw [jacquardref02_Idom.l2, if_pos (by omega), if_pos rfl, if_neg e, if_pos h0, if_pos (by omega), if_pos hb.1, if_pos (by omega), if_pos h1, if_pos ha.1, if_pos (by omega), hw]
        · refine (grow true ⟨fun _ => ⟨hL, fun _ h => absurd ((T.rd x9 b ⟨h0, by omega⟩ hb).2 h) h1⟩, fun _ => rfl⟩).step (fun k => ?_)
          rw [jacquardref02_Idom.l2, if_pos (by omega), if_pos rfl, if_neg e, if_pos h0, if_pos (by omega), if_pos hb.1, if_pos (by omega), if_neg h1, hw]
theorem rid_l1 (hg : okG g = true) (T : TbR g t) (x4 : List Int) (hx4 : x4.length ≤ 1000000) (b : Int) (hb : 0 ≤ b ∧ b < (g.length : Int))
    (hc : ∀ v : Int, ImmR g g.length b v → Ends (fun k => jacquardref02_Idom.l0 k g t (x4 ++ [v]) (b + 1)) Q) :
    ∀ (d : Nat) (x7 x6 : Int), 0 ≤ x7 → x7 + d = g.length → ImmR g x7 b x6 → Ends (fun k => jacquardref02_Idom.l1 k g t x4 b x6 x7) Q := by
  have hn := (okG_len hg).1
  have htl := T.len
  intro d
  induction d with
  | zero =>
    intro x7 x6 h0 hd hx
    refine (hc x6 (by rw [show (g.length : Int) = x7 from by omega]; exact hx)).step (fun k => ?_)
    rw [jacquardref02_Idom.l1, if_neg (by omega), if_pos (by omega), w64 (by omega) (by omega)]
  | succ d ih =>
    intro x7 x6 h0 hd hx
    have hw : wrap64 (x7 + 1) = x7 + 1 := w64 (by omega) (by omega)
    have stay : ¬ Imm g b x7 → ImmR g (x7 + 1) b x6 := fun h => by
      rcases hx with ⟨h1, h2⟩ | ⟨h1, h2, h3⟩
      · refine .inl ⟨h1, fun a ha0 ha1 => ?_⟩
        by_cases e : a = x7
        · subst e; exact h
        · exact h2 a ha0 (by omega)
      · exact .inr ⟨h1, by omega, h3⟩
    by_cases e : x7 = b
    · refine Ends.step (Ends.step (f := fun k => jacquardref02_Idom.j2 k g t x4 b x6 x7 false) (ih (x7 + 1) x6 (by omega) (by omega) (stay (fun h => h.1 e))) (fun k => ?_)) (fun k => ?_)
      · rw [jacquardref02_Idom.j2, if_neg (by decide), hw]
      · rw [jacquardref02_Idom.l1, if_pos (by omega), if_pos e]
    · have hrl := (T.row x7 h0 (by omega)).1
      by_cases h1 : rdOf false (rd_L6 t x7) b = true
      · have hD := (T.rd x7 b ⟨h0, by omega⟩ hb).1 h1
        have h2 := rid_l2 (Q := Q) hg T x4 b x6 x7 hb ⟨h0, by omega⟩ (fun v hv => by
          refine ih (x7 + 1) _ (by omega) (by omega) ?_
          by_cases hvt : v = true
          · rw [if_pos hvt]
            exact .inr ⟨h0, by omega, e, hD, hv.1 hvt⟩
          · rw [if_neg hvt]
            exact stay (fun h => hvt (hv.2 h.2.2))) g.length 0 true (by omega) (by omega) ⟨fun _ c hc0 hc1 => by omega, fun _ => rfl⟩
        refine Ends.step (Ends.step (f := fun k => jacquardref02_Idom.j2 k g t x4 b x6 x7 true) h2 (fun k => ?_)) (fun k => ?_)
        · rw [jacquardref02_Idom.j2, if_pos rfl]
        · rw [jacquardref02_Idom.l1, if_pos (by omega), if_neg e, if_pos h0, if_pos (by omega), if_pos hb.1, if_pos (by omega), h1]
      · have h1' : rdOf false (rd_L6 t x7) b = false := by simpa using h1
        refine Ends.step (Ends.step (f := fun k => jacquardref02_Idom.j2 k g t x4 b x6 x7 false) (ih (x7 + 1) x6 (by omega) (by omega) (stay (fun h => h1 ((T.rd x7 b ⟨h0, by omega⟩ hb).2 h.2.1)))) (fun k => ?_)) (fun k => ?_)
        · rw [jacquardref02_Idom.j2, if_neg (by decide), hw]
        · rw [jacquardref02_Idom.l1, if_pos (by omega), if_neg e, if_pos h0, if_pos (by omega), if_pos hb.1, if_pos (by omega), h1']
theorem rd_snoc (l : List Int) (v i : Int) (h0 : 0 ≤ i) (h1 : i < l.length + 1) : rd (l ++ [v]) i = if i = l.length then v else rd l i := by
  unfold rd
  rw [List.getD_eq_getElem?_getD, List.getD_eq_getElem?_getD]
  by_cases h : i = l.length
  · rw [if_pos h, List.getElem?_append_right (by omega), show i.toNat - l.length = 0 from by omega]
    rfl
  · rw [if_neg h, List.getElem?_append_left (by omega)]
theorem rid_l0 (hg : okG g = true) (T : TbR g t) : ∀ (d : Nat) (x5 : Int) (x4 : List Int), x5 + d = g.length → (x4.length : Int) = x5 → (∀ b, 0 ≤ b → b < x5 → ImmR g g.length b (rd x4 b)) →
    Ends (fun k => jacquardref02_Idom.l0 k g t x4 x5) (fun r => r.length = g.length ∧ ∀ b, 0 ≤ b → b < (g.length : Int) → ImmR g g.length b (rd r b)) := by
  have hn := (okG_len hg).1
  intro d
  induction d with
  | zero =>
    intro x5 x4 hd hl hx
    exact ⟨1, x4, by show jacquardref02_Idom.l0 (0 + 1) g t x4 x5 = _; rw [jacquardref02_Idom.l0, if_neg (by omega)], by omega, fun b h0 h1 => hx b h0 (by omega)⟩
  | succ d ih =>
    intro x5 x4 hd hl hx
    refine (rid_l1 hg T x4 (by omega) x5 ⟨by omega, by omega⟩ (fun v hv => ih (x5 + 1) (x4 ++ [v]) (by omega) (by rw [List.length_append]; simp; omega) (fun b h0 h1 => ?_)) g.length 0 (-1) (by omega) (by omega) (.inl ⟨rfl, fun a h0 h1 => by omega⟩)).step (fun k => ?_)
    · rw [rd_snoc x4 v b h0 (by omega)]
      by_cases e : b = x4.length
      · rw [if_pos e, e, hl]; exact hv
      · rw [if_neg e]; exact hx b h0 (by omega)
    · rw [jacquardref02_Idom.l0, if_pos (by omega)]
end
theorem rid_some (g : List (List Int)) (hg : okG g = true) (hn : 0 < g.length) : Ends (fun k => jacquardref02_Idom.f k g) (fun r => r.length = g.length ∧ ∀ b, 0 ≤ b → b < (g.length : Int) → ImmR g g.length b (rd r b)) :=
  Ends.bind (f := fun k => jacquardref02_Table.f k g) (g := fun k t => jacquardref02_Idom.l0 k g t ([] : List Int) 0) (fun k => jacquardref02_Table.mono _ k) (fun a k => (jacquardref02_Idom.mono_l k).1 _ _ _ _) (table_some g hg hn) (fun t T =>
    rid_l0 hg T g.length 0 [] (by omega) rfl (fun b h0 h1 => by omega))

section
variable {g : List (List Int)} {o r : List Int} {par : Nat → Nat}
theorem idom_imm (R : IdomR g o r par) (b : Int) (hb : 0 ≤ b ∧ b < (g.length : Int)) : ImmR g g.length b (rd r b) := by
  by_cases hm : b ∈ o
  · obtain ⟨u, hu, rfl⟩ := mem_at hm
    rcases Nat.eq_zero_or_pos u with rfl | h0
    · refine .inl ⟨by rw [R.ord.head]; exact R.lst.root, fun a ha0 ha1 hI => ?_⟩
      obtain ⟨d, u', hd, hu', e1, e2, hA⟩ := (dmb_an R a _).1 hI.2.1
      have := at_inj R.ord.nodup hu hu' e2
      subst this
      have := hA.of_zero R.dn
      subst this
      exact hI.1 e1
    · have hp := R.dn u h0
      rw [R.lst.on u h0 hu]
      have hr := R.ord.rng _ (at_mem (show par u < o.length by omega))
      refine .inr ⟨hr.1, hr.2, fun e => ?_, (dmb_places R (by omega) hu).2 (.up h0 .refl), fun c hc0 hc1 hne hD => ?_⟩
      · have := at_inj R.ord.nodup (by omega) hu e
        omega
      · obtain ⟨d, u', hd, hu', rfl, e2, hA⟩ := (dmb_an R c _).1 hD
        have := at_inj R.ord.nodup hu hu' e2
        subst this
        rcases hA.inv with rfl | ⟨_, hA⟩
        · exact absurd rfl hne
        · exact (dmb_places R hd (by omega)).2 hA
  · refine .inl ⟨R.lst.off b hb.1 hb.2 hm, fun a _ _ hI => hm ((reach_iff R.ord b).2 hI.2.1.2.1)⟩
theorem immR_eq (R : IdomR g o r par) {b v w : Int} (hv : ImmR g g.length b v) (hw : ImmR g g.length b w) : v = w := by
  rcases hv with ⟨h1, h2⟩ | ⟨h1, h2, h3⟩
  · rcases hw with ⟨k1, k2⟩ | ⟨k1, k2, k3⟩
    · omega
    · exact absurd k3 (h2 w k1 k2)
  · rcases hw with ⟨k1, k2⟩ | ⟨k1, k2, k3⟩
    · exact absurd h3 (k2 v h1 h2)
    · exact dmb_anti R (k3.2.2 v h1 h2 h3.1 h3.2.1) (h3.2.2 w k1 k2 k3.1 k3.2.1)
/-- The reference's Idom tells what graph.Idom tells. -/
theorem rid_eq (R : IdomR g o r par) {s : List Int} (hs : s.length = g.length ∧ ∀ b, 0 ≤ b → b < (g.length : Int) → ImmR g g.length b (rd s b)) : r = s := by
  have hl := R.lst.len
  refine List.ext_getElem (by omega) (fun i h1 h2 => ?_)
  have e : ∀ l : List Int, (h : i < l.length) → l[i] = rd l (i : Int) := fun l h => by simp [rd, h]
  rw [e r h1, e s h2]
  exact immR_eq R (idom_imm R _ ⟨by omega, by omega⟩) (hs.2 _ (by omega) (by omega))
end
/-- Orders and dominators of a graph. -/
theorem get_idom (g : List (List Int)) (hok : okG g = true) (hn : 0 < g.length) (hn2 : g.length ≤ 1000) : ∃ k o r par, graph_Order.f k g = some o ∧ graph_Idom.f k g = some r ∧ IdomR g o r par := by
  obtain ⟨o, h1, H⟩ := order_some g hok hn g.length (Nat.le_refl _)
  obtain ⟨k, r, par, h2, R⟩ := idom_some g hok hn hn2 o ⟨_, h1⟩ H
  refine ⟨k + g.length, o, r, par, ?_, ?_, R⟩
  · exact up (f := fun k => graph_Order.f k g) (fun k => graph_Order.mono k g) (by omega) h1
  · exact up (f := fun k => graph_Idom.f k g) (fun k => graph_Idom.mono g k) (by omega) h2
/-- A loop's blocks are told the same. -/
def BodyT (k : Nat) (g : List (List Int)) (h : Int) : Prop := ∃ s, graph_Body.f k g h = some s ∧ jacquardref02_Body.f k g h = some s ∧ jacquardref02_Nums.f k s s = some true
theorem BodyT.up {k m : Nat} {g : List (List Int)} {h : Int} (hm : k ≤ m) (H : BodyT k g h) : BodyT m g h := by
  obtain ⟨s, h1, h2, h3⟩ := H
  exact ⟨s, X.up (f := fun k => graph_Body.f k g h) (fun k => graph_Body.mono k _ _) hm h1, X.up (f := fun k => jacquardref02_Body.f k g h) (fun k => jacquardref02_Body.mono _ _ k) hm h2, X.up (f := fun k => jacquardref02_Nums.f k s s) (fun k => jacquardref02_Nums.mono _ _ k) hm h3⟩
section
variable {g : List (List Int)} {o r : List Int} {par : Nat → Nat}
theorem body_told (hg : okG g = true) (hn : 0 < g.length) (hn2 : g.length ≤ 1000) (R : IdomR g o r par) {k0 : Nat} (ho : graph_Order.f k0 g = some o) (hr : graph_Idom.f k0 g = some r) (x8 : Int) (h0 : -1 ≤ x8) (h1 : x8 ≤ g.length) : ∃ k, BodyT k g x8 := by
  have hdec : ∃ P : Int → Bool, ∀ x, 0 ≤ x → x < (g.length : Int) → (P x = true ↔ Rch (Eg g) x ∧ Bd g x8 x) := by
    have : ∀ x, ∃ b : Bool, b = true ↔ Rch (Eg g) x ∧ Bd g x8 x := fun x => by
      by_cases h : Rch (Eg g) x ∧ Bd g x8 x
      · exact ⟨true, ⟨fun _ => h, fun _ => rfl⟩⟩
      · exact ⟨false, ⟨fun h2 => (nomatch h2), fun h2 => absurd h2 h⟩⟩
    exact ⟨fun x => (this x).choose, fun x _ _ => (this x).choose_spec⟩
  obtain ⟨P, hP⟩ := hdec
  obtain ⟨k2, s, hk2, s1, s2⟩ := body_some (h := x8) hg hn hn2 R ho hr ⟨h0, h1⟩ P hP
  obtain ⟨k3, s', hk3, t1, t2⟩ := rbody_some hg hn x8 P hP
  replace hk3 : jacquardref02_Body.f k3 g x8 = some s' := hk3
  have hs : s' = s := by
    by_cases h : ∃ b, BS g x8 b
    · rw [s1 h, t1 h]
    · rw [s2 h, t2 h]
  subst hs
  have hsl : s'.length ≤ 1000000 := by
    by_cases h : ∃ b, BS g x8 b
    · rw [s1 h]; have := upto_len P g.length 0; omega
    · rw [s2 h]; simp
  exact ⟨k2 + k3 + 1000001, s', up (f := fun k => graph_Body.f k g x8) (fun k => graph_Body.mono k _ _) (by omega) hk2, up (f := fun k => jacquardref02_Body.f k g x8) (fun k => jacquardref02_Body.mono _ _ k) (by omega) hk3, nums_same _ hsl (by omega)⟩
theorem bodies_told (hg : okG g = true) (hn : 0 < g.length) (hn2 : g.length ≤ 1000) (R : IdomR g o r par) {k0 : Nat} (ho : graph_Order.f k0 g = some o) (hr : graph_Idom.f k0 g = some r) : ∀ d : Nat, (d : Int) ≤ g.length + 2 → ∃ k, ∀ h : Int, -1 ≤ h → h < -1 + (d : Int) → BodyT k g h
  | 0, _ => ⟨0, fun h h0 h1 => by omega⟩
  | d + 1, hd => by
    obtain ⟨k1, h1⟩ := bodies_told hg hn hn2 R ho hr d (by omega)
    obtain ⟨k2, h2⟩ := body_told hg hn hn2 R ho hr (-1 + (d : Int)) (by omega) (by omega)
    refine ⟨k1 + k2, fun h hh0 hh1 => ?_⟩
    by_cases e : h = -1 + (d : Int)
    · subst e; exact h2.up (by omega)
    · exact (h1 h hh0 (by omega)).up (by omega)
end
theorem pairs_same (l : List S73) : jacquardref02_Pairs.f l l = some true := by
  unfold jacquardref02_Pairs.f
  rw [decide_eq_true rfl]
theorem Told1.up {k m : Nat} {g p : List (List Int)} {o d hd : List Int} {c : List S73} {v : Bool} (hm : k ≤ m) (H : Told1 k g p o d hd c v) : Told1 m g p o d hd c v :=
  ⟨H.ok, H.e1, X.up (f := fun k => jacquardref02_Preds.f k g) (fun k => jacquardref02_Preds.mono _ k) hm H.e2, X.up (f := fun k => jacquardref02_Rows.f k p p) (fun k => jacquardref02_Rows.mono _ _ k) hm H.e3,
    X.up (f := fun k => graph_Order.f k g) (fun k => graph_Order.mono k _) hm H.e4, X.up (f := fun k => jacquardref02_Order.f k g) (fun k => jacquardref02_Order.mono k _) hm H.e5, X.up (f := fun k => jacquardref02_Nums.f k o o) (fun k => jacquardref02_Nums.mono _ _ k) hm H.e6,
    X.up (f := fun k => graph_Idom.f k g) (fun k => graph_Idom.mono _ k) hm H.e7, X.up (f := fun k => jacquardref02_Idom.f k g) (fun k => jacquardref02_Idom.mono _ k) hm H.e8, X.up (f := fun k => jacquardref02_Nums.f k d d) (fun k => jacquardref02_Nums.mono _ _ k) hm H.e9,
    X.up (f := fun k => graph_Headers.f k g) (fun k => graph_Headers.mono k _) hm H.e10, X.up (f := fun k => jacquardref02_Headers.f k g) (fun k => jacquardref02_Headers.mono _ k) hm H.e11, X.up (f := fun k => jacquardref02_Nums.f k hd hd) (fun k => jacquardref02_Nums.mono _ _ k) hm H.e12,
    H.e13, X.up (f := fun k => jacquardref02_Critical.f k g) (fun k => jacquardref02_Critical.mono _ k) hm H.e14, H.e15,
    X.up (f := fun k => graph_Reducible.f k g) (fun k => graph_Reducible.mono k _) hm H.e16, X.up (f := fun k => jacquardref02_Reducible.f k g) (fun k => jacquardref02_Reducible.mono _ k) hm H.e17, fun h h0 h1 => BodyT.up hm (H.e18 h h0 h1)⟩
theorem told_pos (g : List (List Int)) (hg : okG g = true) (hn : 0 < g.length) (hn2 : g.length ≤ 1000) : ∃ k p o d hd c v, Told1 k g p o d hd c v := by
  obtain ⟨k1, o, r, par, ho, hr, R⟩ := get_idom g hg hn hn2
  have hol := ordd_len R.ord
  have hrl := R.lst.len
  obtain ⟨k2, p, hp, rfl⟩ := rpreds_some hg
  obtain ⟨k3, s, hs, hs2⟩ := rid_some g hg hn
  have hsr := rid_eq R hs2
  subst hsr
  obtain ⟨k4, hd, hhd, rfl⟩ := rhead_some hg hn R
  obtain ⟨k5, c, hc, rfl⟩ := rcrit_some hg hn2
  obtain ⟨k6, v, hv, rfl⟩ := rred_some hg hn R
  obtain ⟨k7, hb⟩ := bodies_told hg hn hn2 R ho hr (g.length + 2) (by omega)
  obtain ⟨m, hm⟩ : ∃ m, m = k1 + k2 + k3 + k4 + k5 + k6 + k7 + 2000005 := ⟨_, rfl⟩
  have e1 := up (f := fun k => graph_Order.f k g) (fun k => graph_Order.mono k g) (m := m) (by omega) ho
  have e2 := up (f := fun k => graph_Idom.f k g) (fun k => graph_Idom.mono g k) (m := m) (by omega) hr
  have hhl : (headL g r).length ≤ 1000000 := by
    rw [headL_upto]
    have := upto_len (fun h => (headL g r).contains h) g.length 0
    omega
  have hlen := (okG_len hg).1
  exact ⟨m, predsL g, o, r, headL g r, critL g, redL g r o, hlen, Preds_some g hg, up (f := fun k => jacquardref02_Preds.f k g) (fun k => jacquardref02_Preds.mono _ k) (by omega) hp, rows_same _ (okG_preds g hn2) (by omega),
    e1, rorder_some g hg k1 m (by omega) o ho, nums_same o (by omega) (by omega), e2, up (f := fun k => jacquardref02_Idom.f k g) (fun k => jacquardref02_Idom.mono _ k) (by omega) hs, nums_same r (by omega) (by omega),
    headers_some hg hn2 R e2, up (f := fun k => jacquardref02_Headers.f k g) (fun k => jacquardref02_Headers.mono _ k) (by omega) hhd, nums_same _ hhl (by omega),
    (by unfold graph_Critical.f; rw [if_pos hg]), up (f := fun k => jacquardref02_Critical.f k g) (fun k => jacquardref02_Critical.mono _ k) (by omega) hc, pairs_same _,
    reducible_some hg hn2 R e1 e2, up (f := fun k => jacquardref02_Reducible.f k g) (fun k => jacquardref02_Reducible.mono _ k) (by omega) hv, fun h h0 h1 => (hb h h0 (by omega)).up (by omega)⟩
theorem told_nil : ∃ k p o d hd c v, Told1 k [] p o d hd c v := by
  refine ⟨10, [], [], [], [], [], true, by simp, by kernel_rfl, by kernel_rfl, by kernel_rfl, by kernel_rfl, by kernel_rfl, by kernel_rfl, by kernel_rfl, by kernel_rfl, by kernel_rfl, by kernel_rfl, by kernel_rfl, by kernel_rfl, by kernel_rfl, by kernel_rfl, by kernel_rfl, by kernel_rfl, by kernel_rfl, fun h h0 h1 => ?_⟩
  have hl : ((([] : List (List Int)).length : Nat) : Int) = 0 := rfl
  rw [hl] at h1
  rcases (show h = -1 ∨ h = 0 by omega) with rfl | rfl
  · exact ⟨[], by kernel_rfl, by kernel_rfl, by kernel_rfl⟩
  · exact ⟨[], by kernel_rfl, by kernel_rfl, by kernel_rfl⟩
end Go.Proofs.Ytnmeomdjhjgnfaa.X
end
section
set_option linter.unusedSimpArgs false
set_option linter.unusedVariables false
namespace Go.Proofs.Ytnmeomdjhjgnfaa.Pure
open Go.RowKit Go.Proofs.Ytnmeomdjhjgnfaa.X Go.Proofs.YtnmeomdjhjgnfaaW.PrintWords Go.Proofs.YtnmeomdjhjgnfaaW.PrintLast

theorem told_all (g : List (List Int)) (hl : g.length ≤ 12) (hr : ∀ row ∈ g, row.length ≤ 5) : ∃ k p o d hd c v, Told1 k g p o d hd c v := by
  rcases Nat.eq_zero_or_pos g.length with h | h
  · rw [List.length_eq_zero_iff.1 h]; exact told_nil
  · refine told_pos g ?_ h (by omega)
    unfold okG
    rw [Bool.and_eq_true, decide_eq_true_eq, List.all_eq_true]
    exact ⟨by omega, fun r h2 => decide_eq_true (by have := hr r h2; omega)⟩
theorem few_small (l : List (List Int)) : (fewL l).length ≤ 12 ∧ ∀ row ∈ fewL l, row.length ≤ 5 := by
  unfold fewL
  refine ⟨by rw [List.length_map, List.length_take]; omega, fun row hr => ?_⟩
  obtain ⟨r, _, rfl⟩ := List.mem_map.1 hr
  rw [List.length_take]; omega
end Go.Proofs.Ytnmeomdjhjgnfaa.Pure
end
