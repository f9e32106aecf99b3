/- Parts of the proof of GraphTree: Pdomn, Pidf, Pdm, Pup, Pgr, Plaw, Pdrest, PureGraphTree. -/
import Derived.Test.YtnmeomdjhjgnfaaB3
import Derived.Test.YtnmeomdjhjgnfaaB2
import Derived.Test.YtnmeomdjhjgnfaaB1
section
/-! Plain: who dominates, by ways; what graph.Idom tells of it. -/
set_option linter.unusedVariables false
set_option linter.unusedSimpArgs false
namespace Go.Proofs.Ytnmeomdjhjgnfaa.X
open Go.RowKit Go.Proofs.YtnmeomdjhjgnfaaW.PrintWords Go.Proofs.YtnmeomdjhjgnfaaW.PrintLast Go.Proofs.YtnmeomdjhjgnfaaW.PrintMore

/-- Come to from block 0 without z. -/
inductive RAv (E : Int → Int → Prop) (z : Int) : Int → Prop
  | start : z ≠ 0 → RAv E z 0
  | step {x y : Int} : RAv E z x → E x y → y ≠ z → RAv E z y
def Eg (g : List (List Int)) (x y : Int) : Prop := eB g x y = true
theorem RE_clean (g : List (List Int)) (x y : Int) : RE (cleanL g) x y ↔ Eg g x y := by
  unfold RE Eg
  rw [eB_iff]
  constructor
  · rintro ⟨h0, h⟩
    obtain ⟨j, rfl⟩ := Int.eq_ofNat_of_zero_le h0
    rcases Nat.lt_or_ge j g.length with hj | hj
    · have h2 : y ∈ rd_L1 (cleanL g) j := h
      rw [rd_clean g j hj, mem_keptL] at h2
      exact ⟨by omega, by omega, h2.2.1, h2.2.2, h2.1⟩
    · rw [List.getD_eq_getElem?_getD, List.getElem?_eq_none (by rw [cleanL_length]; omega)] at h
      cases h
  · rintro ⟨h1, h2, h3, h4, h5⟩
    obtain ⟨j, rfl⟩ := Int.eq_ofNat_of_zero_le h1
    refine ⟨h1, ?_⟩
    show y ∈ rd_L1 (cleanL g) j
    rw [rd_clean g j (by omega), mem_keptL]
    exact ⟨h5, h3, h4⟩
section
variable {E : Int → Int → Prop} {o : List Int} {n : Nat} {num : List Int} {preds : List (List Int)}
/-- Dominance, by places. -/
def DmP (E : Int → Int → Prop) (o : List Int) (d u : Nat) : Prop := d < o.length ∧ u < o.length ∧ (d = u ∨ ¬ RAv E (at_ o d) (at_ o u))
theorem ra_fwd (H : Ordd E n o) (d : Nat) (hd : d < o.length) : ∀ (k u : Nat), u ≤ k → u < d → RAv E (at_ o d) (at_ o u) := by
  intro k
  induction k with
  | zero =>
    intro u hu hud
    obtain rfl : u = 0 := by omega
    rw [H.head]
    exact .start (fun h => by have := at_inj H.nodup hd H.pos (h.trans H.head.symm); omega)
  | succ k ih =>
    intro u hu hud
    rcases Nat.eq_zero_or_pos u with rfl | h0
    · exact ih 0 (by omega) hud
    · obtain ⟨j, hj, he⟩ := H.fwd u h0 (by omega)
      exact .step (ih j (by omega) (by omega)) he (fun h => by have := at_inj H.nodup (by omega) hd h; omega)
theorem plN_at (hN : Nm o n num) {j : Nat} (hj : j < o.length) : plN num (at_ o j) = j := by
  unfold plN; rw [hN.on j hj]; rfl
theorem mem_PP (H : Ordd E n o) (hN : Nm o n num) (hpr : ∀ u, u < o.length → ∀ x, x ∈ rd_L1 preds (at_ o u) ↔ E x (at_ o u)) (u : Nat) (hu : u < o.length) (p : Nat) : p ∈ PP o num preds u ↔ p < o.length ∧ E (at_ o p) (at_ o u) := by
  unfold PP
  rw [List.mem_map]
  constructor
  · rintro ⟨x, hx, rfl⟩
    obtain ⟨h1, h2⟩ := List.mem_filter.1 hx
    obtain ⟨j, hj, rfl⟩ := mem_at (of_decide_eq_true h2)
    rw [plN_at hN hj]
    exact ⟨hj, (hpr u hu _).1 h1⟩
  · rintro ⟨hp, he⟩
    exact ⟨at_ o p, List.mem_filter.2 ⟨(hpr u hu _).2 he, decide_eq_true (at_mem hp)⟩, plN_at hN hp⟩
theorem gr_of (H : Ordd E n o) (hN : Nm o n num) (hpr : ∀ u, u < o.length → ∀ x, x ∈ rd_L1 preds (at_ o u) ↔ E x (at_ o u)) : Gr o.length (PP o num preds) (DmP E o) where
  inb := fun u hu p hp => ((mem_PP H hN hpr u hu p).1 hp).1
  fwd := fun u h0 hu => by
    obtain ⟨j, hj, he⟩ := H.fwd u h0 hu
    exact ⟨j, (mem_PP H hN hpr u hu j).2 ⟨by omega, he⟩, hj⟩
  dle := fun d u ⟨hd, hu, h⟩ => by
    rcases h with h | h
    · omega
    · rcases Nat.lt_or_ge u d with hlt | hlt
      · exact absurd (ra_fwd H d hd u u (Nat.le_refl _) hlt) h
      · exact hlt
  dstep := fun d u h0 hu ⟨hd, _, h⟩ hne p hp => by
    obtain ⟨hpm, he⟩ := (mem_PP H hN hpr u hu p).1 hp
    refine ⟨hd, hpm, ?_⟩
    by_cases hdp : d = p
    · exact .inl hdp
    · refine .inr (fun hr => ?_)
      exact h.resolve_left hne (.step hr he (fun e => hne (at_inj H.nodup hd hu e.symm)))
/-- At rest the chains are who dominates. -/
theorem rest_dom (H : Ordd E n o) (hN : Nm o n num) (hpr : ∀ u, u < o.length → ∀ x, x ∈ rd_L1 preds (at_ o u) ↔ E x (at_ o u)) (hE : ∀ x y, E x y → x ∈ o → y ∈ o) {r : List Int} (h : Rest o n num preds (DmP E o) r) :
    ∃ par, Dn par ∧ Ot o n o.length par r ∧ ∀ u, u < o.length → ∀ d, An par d u ↔ DmP E o d u := by
  obtain ⟨par, hS, hO, hf⟩ := h
  have G := gr_of H hN hpr
  refine ⟨par, hS.dn, hO, fun u hu d => ⟨fun ha => ?_, fun hd => ?_⟩⟩
  · have hle := ha.le hS.dn
    refine ⟨by omega, hu, ?_⟩
    by_cases hdu : d = u
    · exact .inl hdu
    · refine .inr (fun hr => ?_)
      have key : ∀ x, RAv E (at_ o d) x → x ∈ o ∧ ∀ w, w < o.length → x = at_ o w → ¬ An par d w := by
        intro x hx
        induction hx with
        | start h0 =>
          refine ⟨by rw [← H.head]; exact at_mem H.pos, fun w hw hxw ha => ?_⟩
          have := at_inj H.nodup H.pos hw (H.head.trans hxw)
          subst this
          have := ha.of_zero hS.dn
          subst this
          exact h0 H.head
        | @step x y hx he hne ih =>
          obtain ⟨hxo, ih⟩ := ih
          refine ⟨H.closed x hxo y he, fun w hw hyw ha => ?_⟩
          obtain ⟨j, hj, rfl⟩ := mem_at hxo
          have hnj := ih j hj rfl
          rcases ha.inv with hdw | ⟨hw0, ha⟩
          · subst hdw; exact hne hyw
          · obtain ⟨p, ps, hP, hv⟩ := hf w hw0 hw
            subst hyw
            have hjm : j ∈ PP o num preds w := (mem_PP H hN hpr w hw j).2 ⟨hj, he⟩
            rw [← hv, nca_an hS.dn o.length ps p (G.inb w hw p (by rw [hP]; exact List.mem_cons_self)) (fun q hq => G.inb w hw q (by rw [hP]; exact List.mem_cons_of_mem _ hq))] at ha
            rw [hP] at hjm
            rcases List.mem_cons.1 hjm with rfl | hjm
            · exact hnj ha.1
            · exact hnj (ha.2 j hjm)
      exact (key _ hr).2 u hu rfl ha
  · have key : ∀ (k u : Nat), u ≤ k → u < o.length → ∀ d, DmP E o d u → An par d u := by
      intro k
      induction k with
      | zero =>
        intro u hk hu d hd
        have := G.dle d u hd
        obtain rfl : d = u := by omega
        exact .refl
      | succ k ih =>
        intro u hk hu d hd
        by_cases hdu : d = u
        · subst hdu; exact .refl
        · have h1 := G.dle d u hd
          have h2 := hS.dn u (by omega)
          exact .up (by omega) (ih (par u) (by omega) (by omega) d (hS.dom u (by omega) hu d hd hdu))
    exact key u u (Nat.le_refl _) hu d hd
end
end Go.Proofs.Ytnmeomdjhjgnfaa.X
end
section
/-! Plain: graph.Order and graph.Idom end; what they tell. -/
set_option linter.unusedVariables false
set_option linter.unusedSimpArgs false
namespace Go.Proofs.Ytnmeomdjhjgnfaa.X
open Go.RowKit Go.Proofs.YtnmeomdjhjgnfaaW.PrintWords Go.Proofs.YtnmeomdjhjgnfaaW.PrintLast Go.Proofs.YtnmeomdjhjgnfaaW.PrintMore

theorem order_some (g : List (List Int)) (hok : okG g = true) (hn : 0 < g.length) (k : Nat) (hk : g.length ≤ k) : ∃ o, graph_Order.f k g = some o ∧ Ordd (Eg g) g.length o := by
  obtain ⟨t, o, h1, h2⟩ := order_of (cleanL g) g.length hn (cleanL_in g) k hk
  have e : RE (cleanL g) = Eg g := funext fun x => funext fun y => propext (RE_clean g x y)
  rw [e] at h2
  refine ⟨o.reverse, ?_, h2⟩
  unfold graph_Order.f
  rw [if_pos hok, if_neg (by omega), h1]
  rfl
theorem ordd_len {E : Int → Int → Prop} {n : Nat} {o : List Int} (H : Ordd E n o) : o.length ≤ n := by
  have key : ∀ (m : Nat) (l : List Int), l.Nodup → (∀ x ∈ l, 0 ≤ x ∧ x < (m : Int)) → l.length ≤ m := by
    intro m
    induction m with
    | zero =>
      intro l _ h
      cases l with
      | nil => simp
      | cons x l => have := h x List.mem_cons_self; omega
    | succ m ih =>
      intro l hn h
      have h1 := ih (l.filter (fun x => decide (x ≠ (m : Int)))) (hn.filter _) (fun x hx => by
        obtain ⟨h2, h3⟩ := List.mem_filter.1 hx
        have h4 := h x h2
        have h5 := of_decide_eq_true h3
        omega)
      have h2 : l.length ≤ (l.filter (fun x => decide (x ≠ (m : Int)))).length + 1 := by
        clear ih h1 h
        induction l with
        | nil => simp
        | cons x l ih =>
          rw [List.nodup_cons] at hn
          rw [List.filter_cons]
          by_cases hx : x = (m : Int)
          · rw [if_neg (by simp [hx])]
            have : l.filter (fun x => decide (x ≠ (m : Int))) = l := List.filter_eq_self.2 (fun y hy => by
              refine decide_eq_true (fun e => hn.1 ?_)
              rw [hx, ← e]; exact hy)
            rw [this]; simp
          · rw [if_pos (decide_eq_true hx)]
            have := ih hn.2
            simp only [List.length_cons]; omega
      omega
  exact key n o H.nodup H.rng
/-- Numbers are given. -/
theorem idom_l1 (g : List (List Int)) (hok : okG g = true) {E : Int → Int → Prop} {o : List Int} (H : Ordd E g.length o) (out r : List Int) (Hc : ∀ num, Nm o g.length num → ∃ k, graph_Idom.l2 k o num out (predsL g) true = some r) :
    ∀ (d i : Nat) (num : List Int), i + d = o.length → num.length = g.length → (∀ j, j < i → rd num (at_ o j) = j) → (∀ x, 0 ≤ x → x < (g.length : Int) → (∀ j, j < i → x ≠ at_ o j) → rd num x = -1) →
    ∃ k, graph_Idom.l1 k g o num out o o.length i = some r := by
  have hol := ordd_len H
  have hg := (okG_len hok).1
  intro d
  induction d with
  | zero =>
    intro i num hi hl h1 h2
    obtain ⟨k, hk⟩ := Hc num ⟨hl, fun j hj => h1 j (by omega), fun x h0 hx hm => h2 x h0 hx (fun j hj e => hm (e ▸ at_mem (by omega)))⟩
    refine ⟨k + 1, ?_⟩
    rw [graph_Idom.l1, if_neg (by omega), Preds_some g hok, Option.bind_some]
    exact hk
  | succ d ih =>
    intro i num hi hl h1 h2
    have hlt : i < o.length := by omega
    have hr := H.rng _ (at_mem hlt)
    have hrd : rd o i = at_ o i := rfl
    have hset : ∀ x, 0 ≤ x → x ≠ at_ o i → rd (num.set (at_ o i).toNat (i : Int)) x = rd num x := fun x h0 hn => by
      unfold rd
      rw [List.getD_eq_getElem?_getD, List.getD_eq_getElem?_getD, List.getElem?_set_ne (by omega)]
    have hself : rd (num.set (at_ o i).toNat (i : Int)) (at_ o i) = i := by
      unfold rd
      rw [List.getD_eq_getElem?_getD, List.getElem?_set_self (by omega)]
      rfl
    obtain ⟨k, hk⟩ := ih (i + 1) (num.set (at_ o i).toNat (i : Int)) (by omega) (by simpa using hl) (fun j hj => by
      by_cases e : j = i
      · subst e; exact hself
      · rw [hset _ (H.rng _ (at_mem (by omega))).1 (fun hh => e (at_inj H.nodup (by omega) hlt hh))]
        exact h1 j (by omega)) (fun x h0 hx hne => by
      rw [hset x h0 (hne i (by omega))]
      exact h2 x h0 hx (fun j hj => hne j (by omega)))
    refine ⟨k + 1, ?_⟩
    rw [graph_Idom.l1, if_pos (by omega), if_pos (by omega), if_pos (by omega), hrd, if_pos hr.1, if_pos (by omega), w64 (by omega) (by omega)]
    exact hk
theorem idom_l0 (g : List (List Int)) (hok : okG g = true) (o r : List Int) (Hc : ∃ k, graph_Idom.l1 k g o (List.replicate g.length (-1)) (List.replicate g.length (-1)) o o.length 0 = some r) :
    ∀ (d i : Nat) (x4 x5 : List Int), i + d = g.length → x4 = List.replicate i (-1) ++ List.replicate d 0 → x5 = List.replicate i (-1) ++ List.replicate d 0 → ∃ k, graph_Idom.l0 k g o x4 x5 g.length i = some r := by
  have hg := (okG_len hok).1
  intro d
  induction d with
  | zero =>
    intro i x4 x5 hi h4 h5
    obtain ⟨k, hk⟩ := Hc
    refine ⟨k + 1, ?_⟩
    rw [graph_Idom.l0, if_neg (by omega), h4, h5, List.replicate_zero, List.append_nil, show i = g.length from by omega]
    exact hk
  | succ d ih =>
    intro i x4 x5 hi h4 h5
    have hs : ∀ x : List Int, x = List.replicate i (-1) ++ List.replicate (d + 1) 0 → x.set i (-1) = List.replicate (i + 1) (-1) ++ List.replicate d 0 := by
      intro x hx
      rw [hx, List.set_append_right _ _ (by simp), List.length_replicate, Nat.sub_self, List.replicate_succ, List.set_cons_zero, List.replicate_succ', List.append_assoc]
      rfl
    obtain ⟨k, hk⟩ := ih (i + 1) (x4.set i (-1)) (x5.set i (-1)) (by omega) (hs x4 h4) (hs x5 h5)
    refine ⟨k + 1, ?_⟩
    have hl4 : x4.length = g.length := by rw [h4]; simp; omega
    have hl5 : x5.length = g.length := by rw [h5]; simp; omega
    rw [graph_Idom.l0, if_pos (by omega), if_pos (by omega), if_pos (by omega), if_pos (by omega), w64 (by omega) (by omega), Int.toNat_natCast]
    exact hk
/-- What graph.Idom tells. -/
structure IdomR (g : List (List Int)) (o r : List Int) (par : Nat → Nat) : Prop where
  ord : Ordd (Eg g) g.length o
  dn : Dn par
  lst : Ot o g.length o.length par r
  dom : ∀ u, u < o.length → ∀ d, An par d u ↔ DmP (Eg g) o d u
theorem idom_some (g : List (List Int)) (hok : okG g = true) (hn : 0 < g.length) (hn2 : g.length ≤ 1000) (o : List Int) (ho : ∃ k, graph_Order.f k g = some o) (H : Ordd (Eg g) g.length o) : ∃ k r par, graph_Idom.f k g = some r ∧ IdomR g o r par := by
  have hol := ordd_len H
  have hpr : ∀ u, u < o.length → ∀ x, x ∈ rd_L1 (predsL g) (at_ o u) ↔ Eg g x (at_ o u) := fun u hu x => mem_preds g x (at_ o u) (H.rng _ (at_mem hu))
  have hpl := predsL_len g
  have hrow : ∀ b, b < o.length → ∀ x ∈ rd_L1 (predsL g) (at_ o b), 0 ≤ x ∧ x < (g.length : Int) := fun b hb x hx => by
    have := eB_iff.1 ((hpr b hb x).1 hx)
    exact ⟨this.1, this.2.1⟩
  have hlen : ∀ b, b < o.length → (rd_L1 (predsL g) (at_ o b)).length ≤ 1000000 := fun b hb => by
    have hr := H.rng _ (at_mem hb)
    have e : rd_L1 (predsL g) (at_ o b) = (predsL g)[(at_ o b).toNat]'(by omega) := by
      unfold rd_L1
      rw [List.getD_eq_getElem?_getD, List.getElem?_eq_getElem (by omega)]
      rfl
    rw [e]
    exact (okG_len (okG_preds g hn2)).2 _ (List.getElem_mem _)
  have hO : Ot o g.length 1 (fun _ => 0) (List.replicate g.length (-1)) := by
    have hrep : ∀ x, 0 ≤ x → x < (g.length : Int) → rd (List.replicate g.length (-1)) x = -1 := fun x h0 h1 => by
      unfold rd
      rw [List.getD_eq_getElem?_getD, List.getElem?_replicate, if_pos (by omega)]
      rfl
    exact ⟨by simp, fun j h0 h1 => by omega, hrep 0 (Int.le_refl 0) (by omega), fun j _ hj => hrep _ (H.rng _ (at_mem hj)).1 (H.rng _ (at_mem hj)).2, fun x h0 h1 _ => hrep x h0 h1⟩
  -- the numbers that are given: one list
  have hnum : ∃ num, Nm o g.length num := by
    refine ⟨(List.range g.length).map (fun (x : Nat) => if (x : Int) ∈ o then ((o.idxOf (x : Int) : Nat) : Int) else -1), by simp, fun i hi => ?_, fun x h0 h1 hm => ?_⟩
    · have hr := H.rng _ (at_mem hi)
      unfold rd
      rw [List.getD_eq_getElem?_getD, List.getElem?_map, List.getElem?_range (by omega)]
      have e : (((at_ o i).toNat : Nat) : Int) = at_ o i := by omega
      simp only [Option.map_some, Option.getD_some, e, if_pos (at_mem hi)]
      have h1 : o.idxOf (at_ o i) < o.length := List.idxOf_lt_length_of_mem (at_mem hi)
      have hix : ∀ x ∈ o, at_ o (o.idxOf x) = x := fun x hx => by
        have h1 : o.idxOf x < o.length := List.idxOf_lt_length_of_mem hx
        unfold at_
        rw [List.getD_eq_getElem?_getD, List.getElem?_eq_getElem h1]
        exact List.getElem_idxOf h1
      have h2 := hix _ (at_mem hi)
      have := at_inj H.nodup h1 hi h2
      omega
    · unfold rd
      rw [List.getD_eq_getElem?_getD, List.getElem?_map, List.getElem?_range (by omega)]
      have e : ((x.toNat : Nat) : Int) = x := by omega
      simp only [Option.map_some, Option.getD_some, e, if_neg hm]
  have huniq : ∀ a b, Nm o g.length a → Nm o g.length b → a = b := by
    intro a b ha hb
    refine List.ext_getElem (ha.len.trans hb.len.symm) (fun i h1 h2 => ?_)
    have hg1 : ∀ l : List Int, (h : i < l.length) → rd l (i : Int) = l[i] := fun l h => by simp [rd, h]
    rw [← hg1 a h1, ← hg1 b h2]
    have hlt : i < g.length := by have := ha.len; omega
    by_cases hm : ((i : Nat) : Int) ∈ o
    · obtain ⟨j, hj, e⟩ := mem_at hm
      rw [← e, ha.on j hj, hb.on j hj]
    · rw [ha.off _ (by omega) (by omega) hm, hb.off _ (by omega) (by omega) hm]
  obtain ⟨num, hN⟩ := hnum
  have G := gr_of H hN hpr
  obtain ⟨k, r, hk, hR⟩ := chk_all H hN hpl G hrow hlen (by omega) hO
  obtain ⟨par, hd, hOt, hdom⟩ := rest_dom H hN hpr (fun x y he hx => H.closed x hx y he) hR
  obtain ⟨k1, hk1⟩ := idom_l1 g hok H (List.replicate g.length (-1)) r (fun num' hN' => by rw [huniq num' num hN' hN]; exact ⟨k, hk⟩) o.length 0 (List.replicate g.length (-1)) (by omega) (by simp) (fun j hj => by omega) (fun x h0 h1 _ => by
    unfold rd
    rw [List.getD_eq_getElem?_getD, List.getElem?_replicate, if_pos (by omega)]
    rfl)
  obtain ⟨k0, hk0⟩ := idom_l0 g hok o r ⟨k1, hk1⟩ g.length 0 (List.replicate g.length 0) (List.replicate g.length 0) (by omega) (by simp) (by simp)
  obtain ⟨k3, hk3⟩ := ho
  refine ⟨k3 + k0, r, par, ?_, ⟨H, hd, hOt, hdom⟩⟩
  have e1 := up (f := fun k => graph_Order.f k g) (fun k => graph_Order.mono _ _) (m := k3 + k0) (by omega) hk3
  have e2 := up (f := fun k => graph_Idom.l0 k g o (List.replicate g.length 0) (List.replicate g.length 0) g.length ((0 : Nat) : Int)) (fun k => (graph_Idom.mono_l k).1 _ _ _ _ _ _) (m := k3 + k0) (by omega) hk0
  unfold graph_Idom.f
  rw [e1, Option.bind_some, if_pos (by omega), if_pos (by omega), Int.toNat_natCast]
  exact e2
end Go.Proofs.Ytnmeomdjhjgnfaa.X
end
section
/-! Plain: dominance among blocks; what graph.Dominates tells by what graph.Idom tells. -/
set_option linter.unusedVariables false
set_option linter.unusedSimpArgs false
namespace Go.Proofs.Ytnmeomdjhjgnfaa.X
open Go.RowKit Go.Proofs.YtnmeomdjhjgnfaaW.PrintWords Go.Proofs.YtnmeomdjhjgnfaaW.PrintLast Go.Proofs.YtnmeomdjhjgnfaaW.PrintMore

/-- Come to from block 0. -/
def Rch (E : Int → Int → Prop) (x : Int) : Prop := RAv E (-1) x
/-- a dominates b. -/
def Dmb (E : Int → Int → Prop) (a b : Int) : Prop := Rch E a ∧ Rch E b ∧ (a = b ∨ ¬ RAv E a b)
theorem reach_iff {E : Int → Int → Prop} {n : Nat} {o : List Int} (H : Ordd E n o) (x : Int) : x ∈ o ↔ Rch E x := by
  constructor
  · intro hx
    have key : ∀ (k i : Nat), i ≤ k → i < o.length → Rch E (at_ o i) := by
      intro k
      induction k with
      | zero =>
        intro i hi hl
        obtain rfl : i = 0 := by omega
        rw [H.head]
        exact .start (by omega)
      | succ k ih =>
        intro i hi hl
        rcases Nat.eq_zero_or_pos i with rfl | h0
        · exact ih 0 (by omega) hl
        · obtain ⟨j, hj, he⟩ := H.fwd i h0 hl
          have := (H.rng _ (at_mem hl)).1
          exact .step (ih j (by omega) (by omega)) he (by omega)
    obtain ⟨i, hi, rfl⟩ := mem_at hx
    exact key i i (Nat.le_refl _) hi
  · intro h
    induction h with
    | start => rw [← H.head]; exact at_mem H.pos
    | step _ he _ ih => exact H.closed _ ih _ he
theorem Rch.of_av {E : Int → Int → Prop} {z x : Int} (hE : ∀ x y, E x y → 0 ≤ y) (h : RAv E z x) : Rch E x := by
  induction h with
  | start => exact .start (by omega)
  | step _ he _ ih => exact .step ih he (by have := hE _ _ he; omega)
theorem Rch.of_av2 {g : List (List Int)} {z x : Int} (h : RAv (Eg g) z x) : Rch (Eg g) x := Rch.of_av (fun x y he => (eB_iff.1 he).2.2.1) h
theorem Rch.step {E : Int → Int → Prop} {x y : Int} (hE : ∀ x y, E x y → 0 ≤ y) (h : Rch E x) (he : E x y) : Rch E y := RAv.step h he (by have := hE _ _ he; omega)
theorem Eg_in {g : List (List Int)} {x y : Int} (h : Eg g x y) : 0 ≤ x ∧ x < g.length ∧ 0 ≤ y ∧ y < g.length := by
  have := eB_iff.1 h
  exact ⟨this.1, this.2.1, this.2.2.1, this.2.2.2.1⟩
theorem Eg_nn (g : List (List Int)) (x y : Int) (h : Eg g x y) : 0 ≤ y := (Eg_in h).2.2.1
theorem Rch.rng {g : List (List Int)} (hn : 0 < g.length) {x : Int} (h : Rch (Eg g) x) : 0 ≤ x ∧ x < g.length := by
  cases h with
  | start => omega
  | step _ he _ => have := Eg_in he; omega
theorem RAv.rng {g : List (List Int)} (hn : 0 < g.length) {z x : Int} (h : RAv (Eg g) z x) : 0 ≤ x ∧ x < g.length := by
  cases h with
  | start => omega
  | step _ he _ => have := Eg_in he; omega
section
variable {g : List (List Int)} {o r : List Int} {par : Nat → Nat}
theorem isB_iff (R : IdomR g o r par) (x : Int) : isB r x = true ↔ 0 ≤ x ∧ x < g.length := by
  unfold isB
  rw [R.lst.len, Bool.and_eq_true, decide_eq_true_eq, decide_eq_true_eq]
theorem loop_in (R : IdomR g o r par) (a : Int) (ha : 0 ≤ a) : ∀ (k u : Nat), u < k → u < o.length → (domLoop r a k (at_ o u) = true ↔ ∃ d, d < o.length ∧ a = at_ o d ∧ An par d u) := by
  intro k
  induction k with
  | zero => intro u h; omega
  | succ k ih =>
    intro u hk hu
    rw [domLoop]
    by_cases h : a = at_ o u
    · rw [if_pos h]
      exact ⟨fun _ => ⟨u, hu, h, .refl⟩, fun _ => rfl⟩
    · rw [if_neg h, if_pos ((isB_iff R _).2 (R.ord.rng _ (at_mem hu)))]
      rcases Nat.eq_zero_or_pos u with rfl | h0
      · rw [R.ord.head, R.lst.root]
        constructor
        · intro hh
          cases k with
          | zero => cases hh
          | succ k =>
            rw [domLoop, if_neg (by omega), if_neg (by rw [isB_iff R]; omega)] at hh
            cases hh
        · rintro ⟨d, hd, rfl, hA⟩
          have := hA.of_zero R.dn
          subst this
          exact absurd rfl h
      · have h2 := R.dn u h0
        rw [R.lst.on u h0 hu, ih (par u) (by omega) (by omega)]
        constructor
        · rintro ⟨d, hd, rfl, hA⟩
          exact ⟨d, hd, rfl, .up h0 hA⟩
        · rintro ⟨d, hd, rfl, hA⟩
          rcases hA.inv with rfl | ⟨_, hA⟩
          · exact absurd rfl h
          · exact ⟨d, hd, rfl, hA⟩
theorem loop_off (R : IdomR g o r par) (a b : Int) (ha : 0 ≤ a) (hb : 0 ≤ b ∧ b < g.length) (hm : b ∉ o) (k : Nat) : domLoop r a (k + 1) b = true ↔ a = b := by
  rw [domLoop]
  by_cases h : a = b
  · rw [if_pos h]; exact ⟨fun _ => h, fun _ => rfl⟩
  · rw [if_neg h, if_pos ((isB_iff R _).2 hb), R.lst.off b hb.1 hb.2 hm]
    refine ⟨fun hh => ?_, fun hh => absurd hh h⟩
    cases k with
    | zero => cases hh
    | succ k =>
      rw [domLoop, if_neg (by omega), if_neg (by rw [isB_iff R]; omega)] at hh
      cases hh
/-- What graph.Dominates tells by graph.Idom's list. -/
theorem domL_iff (R : IdomR g o r par) (a b : Int) : domL r a b = true ↔ (0 ≤ a ∧ a < g.length) ∧ (0 ≤ b ∧ b < g.length) ∧ (a = b ∨ Dmb (Eg g) a b) := by
  unfold domL
  rw [Bool.and_eq_true, Bool.and_eq_true, isB_iff R, isB_iff R, and_congr_right_iff]
  intro ha
  rw [and_congr_right_iff]
  intro hb
  by_cases hm : b ∈ o
  · obtain ⟨u, hu, rfl⟩ := mem_at hm
    have hol := ordd_len R.ord
    rw [loop_in R a ha.1 _ u (by rw [R.lst.len]; omega) hu]
    constructor
    · rintro ⟨d, hd, rfl, hA⟩
      refine .inr ⟨(reach_iff R.ord _).1 (at_mem hd), (reach_iff R.ord _).1 hm, ?_⟩
      rcases ((R.dom u hu d).1 hA).2.2 with h | h
      · exact .inl (by rw [h])
      · exact .inr h
    · rintro (rfl | ⟨h1, h2, h3⟩)
      · exact ⟨u, hu, rfl, .refl⟩
      · obtain ⟨d, hd, rfl⟩ := mem_at ((reach_iff R.ord _).2 h1)
        refine ⟨d, hd, rfl, (R.dom u hu d).2 ⟨hd, hu, ?_⟩⟩
        rcases h3 with h | h
        · exact .inl (at_inj R.ord.nodup hd hu h)
        · exact .inr h
  · rw [loop_off R a b ha.1 hb hm]
    constructor
    · exact .inl
    · rintro (h | ⟨_, h2, _⟩)
      · exact h
      · exact absurd ((reach_iff R.ord b).2 h2) hm
/-- Which edges go back. -/
theorem backL_iff (R : IdomR g o r par) (a b : Int) (ha : 0 ≤ a ∧ a < g.length) (hb : 0 ≤ b ∧ b < g.length) : backL r a b = true ↔ Dmb (Eg g) b a := by
  unfold backL
  rw [Bool.and_eq_true, Bool.or_eq_true, beq_iff_eq, decide_eq_true_eq, domL_iff R]
  have hr : (a = 0 ∨ 0 ≤ rd r a) ↔ Rch (Eg g) a := by
    rw [← reach_iff R.ord]
    constructor
    · rintro (rfl | h)
      · rw [← R.ord.head]; exact at_mem R.ord.pos
      · by_cases hm : a ∈ o
        · exact hm
        · rw [R.lst.off a ha.1 ha.2 hm] at h; omega
    · intro hm
      obtain ⟨u, hu, rfl⟩ := mem_at hm
      rcases Nat.eq_zero_or_pos u with rfl | h0
      · exact .inl R.ord.head
      · refine .inr ?_
        rw [R.lst.on u h0 hu]
        exact (R.ord.rng _ (at_mem (by have := R.dn u h0; omega))).1
  rw [hr]
  constructor
  · rintro ⟨h1, _, _, rfl | h⟩
    · exact ⟨h1, h1, .inl rfl⟩
    · exact h
  · intro h
    exact ⟨h.2.1, hb, ha, .inr h⟩
theorem dmb_an (R : IdomR g o r par) (a b : Int) : Dmb (Eg g) a b ↔ ∃ d u, d < o.length ∧ u < o.length ∧ a = at_ o d ∧ b = at_ o u ∧ An par d u := by
  constructor
  · rintro ⟨h1, h2, h3⟩
    obtain ⟨d, hd, rfl⟩ := mem_at ((reach_iff R.ord _).2 h1)
    obtain ⟨u, hu, rfl⟩ := mem_at ((reach_iff R.ord _).2 h2)
    refine ⟨d, u, hd, hu, rfl, rfl, (R.dom u hu d).2 ⟨hd, hu, h3.imp (fun h => at_inj R.ord.nodup hd hu h) id⟩⟩
  · rintro ⟨d, u, hd, hu, rfl, rfl, hA⟩
    exact ⟨(reach_iff R.ord _).1 (at_mem hd), (reach_iff R.ord _).1 (at_mem hu), ((R.dom u hu d).1 hA).2.2.imp (fun h => by rw [h]) id⟩
theorem dmb_places (R : IdomR g o r par) {d u : Nat} (hd : d < o.length) (hu : u < o.length) : Dmb (Eg g) (at_ o d) (at_ o u) ↔ An par d u := by
  rw [dmb_an R]
  constructor
  · rintro ⟨d', u', hd', hu', e1, e2, hA⟩
    rw [at_inj R.ord.nodup hd hd' e1, at_inj R.ord.nodup hu hu' e2]; exact hA
  · exact fun hA => ⟨d, u, hd, hu, rfl, rfl, hA⟩
theorem dmb_anti (R : IdomR g o r par) {a b : Int} (h : Dmb (Eg g) a b) (k : Dmb (Eg g) b a) : a = b := by
  obtain ⟨d, u, hd, hu, rfl, rfl, hA⟩ := (dmb_an R a b).1 h
  have hB := (dmb_places R hu hd).1 k
  have := hA.le R.dn
  have := hB.le R.dn
  rw [show d = u from by omega]
end
end Go.Proofs.Ytnmeomdjhjgnfaa.X
end
section
/-! Plain: rounds that suffice; numbers from one to another. -/
set_option linter.unusedVariables false
set_option linter.unusedSimpArgs false
namespace Go.Proofs.Ytnmeomdjhjgnfaa.X
open Go.RowKit Go.Proofs.YtnmeomdjhjgnfaaW.PrintWords Go.Proofs.YtnmeomdjhjgnfaaW.PrintLast Go.Proofs.YtnmeomdjhjgnfaaW.PrintMore

/-- Some rounds suffice, and what comes out is Q. -/
def Ends {α : Type} (f : Nat → Option α) (Q : α → Prop) : Prop := ∃ k r, f k = some r ∧ Q r
theorem Ends.mono {α : Type} {f : Nat → Option α} {Q R : α → Prop} (h : Ends f Q) (hqr : ∀ r, Q r → R r) : Ends f R := by
  obtain ⟨k, r, hk, hq⟩ := h
  exact ⟨k, r, hk, hqr r hq⟩
theorem Ends.step {α : Type} {f g : Nat → Option α} {Q : α → Prop} (h : Ends g Q) (e : ∀ k, f (k + 1) = g k) : Ends f Q := by
  obtain ⟨k, r, hk, hq⟩ := h
  exact ⟨k + 1, r, (e k).trans hk, hq⟩
theorem Ends.same {α : Type} {f g : Nat → Option α} {Q : α → Prop} (h : Ends g Q) (e : ∀ k, f k = g k) : Ends f Q := by
  obtain ⟨k, r, hk, hq⟩ := h
  exact ⟨k, r, (e k).trans hk, hq⟩
/-- From some rounds on. -/
theorem Ends.late {α : Type} {f g : Nat → Option α} {Q : α → Prop} (m : Nat) (hg : ∀ k, LeO (g k) (g (k + 1))) (h : Ends g Q) (e : ∀ k, m ≤ k → f (k + 1) = g k) : Ends f Q := by
  obtain ⟨k, r, hk, hq⟩ := h
  exact ⟨k + m + 1, r, (e (k + m) (by omega)).trans (up hg (by omega) hk), hq⟩
theorem Ends.bind {α β : Type} {f : Nat → Option α} {g : Nat → α → Option β} {P : α → Prop} {Q : β → Prop} (hf : ∀ k, LeO (f k) (f (k + 1))) (hg : ∀ a k, LeO (g k a) (g (k + 1) a)) (h : Ends f P) (h2 : ∀ a, P a → Ends (fun k => g k a) Q) : Ends (fun k => (f k).bind (g k)) Q := by
  obtain ⟨k, a, hk, hp⟩ := h
  obtain ⟨m, r, hm, hq⟩ := h2 a hp
  refine ⟨k + m, r, ?_, hq⟩
  show (f (k + m)).bind (g (k + m)) = some r
  rw [up hf (m := k + m) (by omega) hk, Option.bind_some]
  exact up (f := fun k => g k a) (hg a) (by omega) hm

/-- The numbers from i on, d of them, that P holds of. -/
def upto (P : Int → Bool) : Nat → Int → List Int
  | 0, _ => []
  | d + 1, i => if P i = true then i :: upto P d (i + 1) else upto P d (i + 1)
theorem mem_upto (P : Int → Bool) : ∀ (d : Nat) (i x : Int), x ∈ upto P d i ↔ (i ≤ x ∧ x < i + d) ∧ P x = true
  | 0, i, x => by simp [upto]; omega
  | d + 1, i, x => by
    rw [upto]
    by_cases h : P i = true
    · rw [if_pos h, List.mem_cons, mem_upto P d (i + 1) x]
      constructor
      · rintro (rfl | ⟨h1, h2⟩)
        · exact ⟨by omega, h⟩
        · exact ⟨by omega, h2⟩
      · rintro ⟨h1, h2⟩
        by_cases e : x = i
        · exact .inl e
        · exact .inr ⟨by omega, h2⟩
    · rw [if_neg h, mem_upto P d (i + 1) x]
      constructor
      · rintro ⟨h1, h2⟩; exact ⟨by omega, h2⟩
      · rintro ⟨h1, h2⟩
        by_cases e : x = i
        · subst e; exact absurd h2 h
        · exact ⟨by omega, h2⟩
theorem upto_sorted (P : Int → Bool) : ∀ (d : Nat) (i : Int), (upto P d i).Pairwise (· < ·)
  | 0, _ => List.Pairwise.nil
  | d + 1, i => by
    rw [upto]
    split
    · exact List.pairwise_cons.2 ⟨fun x hx => by have := ((mem_upto P d (i + 1) x).1 hx).1; omega, upto_sorted P d (i + 1)⟩
    · exact upto_sorted P d (i + 1)
theorem upto_nodup (P : Int → Bool) (d : Nat) (i : Int) : (upto P d i).Nodup := (upto_sorted P d i).imp (fun h e => by omega)
/-- Rising rows of the same numbers are the same. -/
theorem sorted_eq {l m : List Int} (hl : l.Pairwise (· < ·)) (hm : m.Pairwise (· < ·)) (h : ∀ x, x ∈ l ↔ x ∈ m) : l = m := by
  refine List.Perm.eq_of_pairwise (le := (· < ·)) (fun a b _ _ h1 h2 => by omega) hl hm ?_
  exact (List.perm_ext_iff_of_nodup (hl.imp (fun h e => by omega)) (hm.imp (fun h e => by omega))).2 h
theorem upto_len (P : Int → Bool) : ∀ (d : Nat) (i : Int), (upto P d i).length ≤ d
  | 0, _ => by simp [upto]
  | d + 1, i => by
    have ih := upto_len P d (i + 1)
    rw [upto]
    split
    · simp; omega
    · omega
theorem upto_congr {P Q : Int → Bool} : ∀ (d : Nat) (i : Int), (∀ x, i ≤ x → x < i + d → P x = Q x) → upto P d i = upto Q d i
  | 0, _, _ => rfl
  | d + 1, i, h => by
    rw [upto, upto, h i (by omega) (by omega), upto_congr d (i + 1) (fun x h1 h2 => h x (by omega) (by omega))]
theorem upto_range (P : Int → Bool) : ∀ (d i : Nat), upto P d i = ((List.range' i d).map (fun (b : Nat) => (b : Int))).filter P
  | 0, _ => rfl
  | d + 1, i => by
    have ih := upto_range P d (i + 1)
    rw [upto, List.range'_succ, List.map_cons, List.filter_cons, ← ih]
    rfl
theorem keptL_upto (row : List Int) (n : Nat) : keptL row n = upto (fun b => row.contains b) n 0 := by
  have := upto_range (fun b => row.contains b) n 0
  rw [← List.range_eq_range'] at this
  unfold keptL
  rw [Int.toNat_natCast]
  exact this.symm

end Go.Proofs.Ytnmeomdjhjgnfaa.X
end
section
/-! Plain: what graph.Preds, Headers, Reducible and Body tell, by edges and dominance. -/
set_option linter.unusedVariables false
set_option linter.unusedSimpArgs false
namespace Go.Proofs.Ytnmeomdjhjgnfaa.X
open Go.RowKit Go.Proofs.YtnmeomdjhjgnfaaW.PrintWords Go.Proofs.YtnmeomdjhjgnfaaW.PrintLast Go.Proofs.YtnmeomdjhjgnfaaW.PrintMore

/-- Edges stand in order. -/
theorem edges_sorted : ∀ (rows : List (List Int)) (i : Nat), (∀ r ∈ rows, r.Pairwise (· < ·)) → (edgesFrom i rows).Pairwise (fun e f => e.1 < f.1 ∨ (e.1 = f.1 ∧ e.2 < f.2))
  | [], _, _ => List.Pairwise.nil
  | r :: rows, i, h => by
    rw [edgesFrom, List.pairwise_append]
    refine ⟨?_, edges_sorted rows (i + 1) (fun r hr => h r (List.mem_cons_of_mem _ hr)), fun e he f hf => ?_⟩
    · rw [List.pairwise_map]
      exact (h r List.mem_cons_self).imp (fun hlt => .inr ⟨rfl, hlt⟩)
    · obtain ⟨b, _, rfl⟩ := List.mem_map.1 he
      obtain ⟨j, _, h1, _⟩ := (mem_edgesFrom rows (i + 1) f).1 hf
      refine .inl ?_
      show (i : Int) < f.1
      omega
theorem clean_sorted (g : List (List Int)) : ∀ r ∈ cleanL g, r.Pairwise (· < ·) := by
  intro r hr
  obtain ⟨row, _, rfl⟩ := List.mem_map.1 hr
  rw [keptL_upto]
  exact upto_sorted _ _ _
theorem preds_upto (g : List (List Int)) (b : Int) (hb : 0 ≤ b ∧ b < (g.length : Int)) : rd_L1 (predsL g) b = upto (fun a => eB g a b) g.length 0 := by
  obtain ⟨j, rfl⟩ := Int.eq_ofNat_of_zero_le hb.1
  refine sorted_eq ?_ (upto_sorted _ _ _) (fun x => ?_)
  · rw [rd_preds g j (by omega), List.pairwise_map]
    refine List.Pairwise.imp_of_mem ?_ ((edges_sorted (cleanL g) 0 (clean_sorted g)).filter _)
    intro e f he hf h
    have h1 : e.2 = (j : Int) := by simpa using (List.mem_filter.1 he).2
    have h2 : f.2 = (j : Int) := by simpa using (List.mem_filter.1 hf).2
    omega
  · rw [mem_preds g x _ hb, mem_upto]
    constructor
    · intro h
      have := Eg_in h
      exact ⟨by omega, h⟩
    · exact fun h => h.2
/-- An edge goes back to h. -/
def HdP (g : List (List Int)) (h : Int) : Prop := ∃ b, Eg g b h ∧ Dmb (Eg g) h b
theorem mem_headL {g : List (List Int)} {o r : List Int} {par : Nat → Nat} (R : IdomR g o r par) (h : Int) : h ∈ headL g r ↔ HdP g h := by
  unfold headL
  rw [mem_keptL, List.mem_map]
  constructor
  · rintro ⟨⟨e, he, rfl⟩, _⟩
    obtain ⟨h1, h2⟩ := List.mem_filter.1 he
    have h3 := (mem_edgesL g e.1 e.2).1 h1
    have h4 := Eg_in h3
    exact ⟨e.1, h3, (backL_iff R e.1 e.2 ⟨h4.1, h4.2.1⟩ ⟨h4.2.2.1, h4.2.2.2⟩).1 h2⟩
  · rintro ⟨b, h1, h2⟩
    have h4 := Eg_in h1
    exact ⟨⟨(b, h), List.mem_filter.2 ⟨(mem_edgesL g b h).2 h1, (backL_iff R b h ⟨h4.1, h4.2.1⟩ ⟨h4.2.2.1, h4.2.2.2⟩).2 h2⟩, rfl⟩, h4.2.2.1, h4.2.2.2⟩
theorem headL_upto (g : List (List Int)) (d : List Int) : headL g d = upto (fun h => (headL g d).contains h) g.length 0 := by
  refine sorted_eq ?_ (upto_sorted _ _ _) (fun x => ?_)
  · unfold headL; rw [keptL_upto]; exact upto_sorted _ _ _
  · rw [mem_upto, List.contains_iff_mem]
    constructor
    · intro h
      have := (mem_keptL _ _ _).1 (show x ∈ keptL _ _ from h)
      exact ⟨by omega, h⟩
    · exact fun h => h.2
/-- An edge that does not go back. -/
def NB (g : List (List Int)) (a b : Int) : Prop := Eg g a b ∧ ¬ Dmb (Eg g) b a
/-! ### numbers by places -/
theorem numR_not : ∀ (l : List Int) (x : Int), x ∉ l → numR l x = 0
  | [], _, _ => rfl
  | b :: t, x, h => by
    rw [numR, if_neg (fun e => h (by rw [e]; exact List.mem_cons_self)), numR_not t x (fun hx => h (List.mem_cons_of_mem _ hx))]
theorem numR_at : ∀ (l : List Int), l.Nodup → ∀ (i : Nat) (hi : i < l.length), numR l l[i] = (l.length - i : Nat)
  | [], _, i, hi => absurd hi (Nat.not_lt_zero _)
  | b :: t, hn, i, hi => by
    rw [List.nodup_cons] at hn
    cases i with
    | zero => rw [numR]; simp
    | succ i =>
      have hi' : i < t.length := by simpa using hi
      have ih := numR_at t hn.2 i hi'
      rw [numR, List.getElem_cons_succ, if_neg (fun e => hn.1 (by rw [e]; exact List.getElem_mem _)), ih]
      simp
theorem numL_at {o : List Int} (hn : o.Nodup) {i : Nat} (hi : i < o.length) : numL o (at_ o i) = i + 1 := by
  have hr : o.reverse.Nodup := (List.reverse_perm _).nodup_iff.2 hn
  have hi2 : o.length - 1 - i < o.reverse.length := by rw [List.length_reverse]; omega
  have h := numR_at o.reverse hr (o.length - 1 - i) hi2
  have e : o.reverse[o.length - 1 - i]'hi2 = at_ o i := by
    rw [List.getElem_reverse]
    unfold at_
    rw [List.getD_eq_getElem?_getD, List.getElem?_eq_getElem hi]
    have : o.length - 1 - (o.length - 1 - i) = i := by omega
    simp [this]
  rw [e] at h
  unfold numL
  rw [h, List.length_reverse]
  omega
theorem numL_not {o : List Int} {x : Int} (h : x ∉ o) : numL o x = 0 := numR_not _ _ (fun hx => h (List.mem_reverse.1 hx))
section
variable {g : List (List Int)} {o r : List Int} {par : Nat → Nat}
/-- What graph.Reducible tells: edges that do not go back go on. -/
theorem redL_iff (R : IdomR g o r par) : redL g r o = true ↔ ∀ i j, i < o.length → j < o.length → NB g (at_ o i) (at_ o j) → i < j := by
  unfold redL
  rw [List.all_eq_true]
  constructor
  · intro h i j hi hj ⟨he, hd⟩
    have hr := Eg_in he
    have h1 := h (at_ o i, at_ o j) ((mem_edgesL g _ _).2 he)
    have hb : backL r (at_ o i) (at_ o j) = false := by
      rw [← Bool.not_eq_true, backL_iff R _ _ ⟨hr.1, hr.2.1⟩ ⟨hr.2.2.1, hr.2.2.2⟩]; exact hd
    simp only [hb, numL_at R.ord.nodup hi, numL_at R.ord.nodup hj, Bool.not_false, Bool.and_true, Bool.not_eq_true', Bool.and_eq_false_iff, decide_eq_false_iff_not] at h1
    omega
  · intro h e he
    have he' := (mem_edgesL g e.1 e.2).1 he
    have hr := Eg_in he'
    by_cases h0 : e.1 ∈ o
    · have h2 := R.ord.closed _ h0 _ he'
      obtain ⟨i, hi, e1⟩ := mem_at h0
      obtain ⟨j, hj, e2⟩ := mem_at h2
      by_cases hb : backL r e.1 e.2 = true
      · rw [hb]; simp
      · have hNB : NB g (at_ o i) (at_ o j) := by
          rw [e1, e2]
          exact ⟨he', fun hd => hb ((backL_iff R _ _ ⟨hr.1, hr.2.1⟩ ⟨hr.2.2.1, hr.2.2.2⟩).2 hd)⟩
        have hlt := h i j hi hj hNB
        have : decide (numL o e.2 ≤ numL o e.1) = false := by
          rw [← e1, ← e2, numL_at R.ord.nodup hi, numL_at R.ord.nodup hj]
          exact decide_eq_false (by omega)
        rw [this]; simp
    · rw [numL_not h0]; simp
/-- A set each of which has an edge that does not go back from one of it. -/
def Sup (g : List (List Int)) (C : Int → Prop) : Prop := ∀ y, C y → ∃ z, C z ∧ NB g z y
theorem fw_sup (R : IdomR g o r par) (j : Nat) (hj : j < o.length) : ∀ x, FW (Eg g) o j x → ∃ C : Int → Prop, C (at_ o j) ∧ C (at_ o x) ∧ (∀ y, C y → y ∈ o) ∧ ∀ y, C y → y = at_ o j ∨ ∃ z, C z ∧ NB g z y := by
  intro x h
  induction h with
  | refl => exact ⟨fun y => y = at_ o j, rfl, rfl, fun y hy => hy ▸ at_mem hj, fun y hy => .inl hy⟩
  | @step z x _ he hlt hx ih =>
    obtain ⟨C, h1, h2, h3, h4⟩ := ih
    refine ⟨fun y => C y ∨ y = at_ o x, .inl h1, .inr rfl, fun y hy => ?_, fun y hy => ?_⟩
    · rcases hy with hy | hy
      · exact h3 y hy
      · rw [hy]; exact at_mem hx
    · rcases hy with hy | hy
      · rcases h4 y hy with h5 | ⟨w, hw, hn⟩
        · exact .inl h5
        · exact .inr ⟨w, .inl hw, hn⟩
      · subst hy
        refine .inr ⟨at_ o z, .inl h2, he, fun hd => ?_⟩
        have := ((dmb_places R hx (by omega)).1 hd).le R.dn
        omega
/-- Where an edge that does not go back does not go on, such a set is there. -/
theorem red_sup (R : IdomR g o r par) (h : ¬ redL g r o = true) : ∃ C : Int → Prop, Sup g C ∧ (∀ y, C y → y ∈ o) ∧ ∃ y, C y := by
  rw [redL_iff R] at h
  have : ∃ i j, i < o.length ∧ j < o.length ∧ NB g (at_ o i) (at_ o j) ∧ ¬ i < j := by
    refine Classical.byContradiction (fun hn => h (fun i j hi hj hN => ?_))
    exact Classical.byContradiction (fun hlt => hn ⟨i, j, hi, hj, hN, hlt⟩)
  obtain ⟨i, j, hi, hj, hN, hlt⟩ := this
  have hf := (R.ord.back i j hi hj hN.1).resolve_left hlt
  obtain ⟨C, h1, h2, h3, h4⟩ := fw_sup R j hj i hf
  refine ⟨C, fun y hy => ?_, h3, _, h1⟩
  rcases h4 y hy with h5 | h5
  · exact ⟨_, h2, h5 ▸ hN⟩
  · exact h5
end
/-- An edge goes back to h from b. -/
def BS (g : List (List Int)) (h b : Int) : Prop := Eg g b h ∧ Dmb (Eg g) h b
/-- h's loop, with what is not reached. -/
inductive Bd (g : List (List Int)) (h : Int) : Int → Prop
  | head : Bd g h h
  | src {b : Int} : BS g h b → Bd g h b
  | step {x y : Int} : Bd g h y → y ≠ h → Eg g x y → Bd g h x
/-! ### graph.Body -/
theorem nodup_len (m : Nat) (l : List Int) (hn : l.Nodup) (h : ∀ x ∈ l, 0 ≤ x ∧ x < (m : Int)) : l.length ≤ m := by
  have h1 : l ⊆ upto (fun _ => true) m 0 := fun x hx => by
    have := h x hx
    exact (mem_upto _ _ _ _).2 ⟨by omega, rfl⟩
  have h2 := hn.length_le_of_subset h1
  have h3 := upto_len (fun _ => true) m 0
  omega
section
variable {g : List (List Int)} {h : Int}
structure BdI (g : List (List Int)) (h : Int) (o s : List Int) : Prop where
  head : h ∈ s
  snd : ∀ x ∈ s, Bd g h x
  ond : ∀ x ∈ o, Bd g h x ∧ 0 ≤ x ∧ x < (g.length : Int)
  closed : ∀ y ∈ s, y ≠ h → ∀ x, Eg g x y → x ∈ s ∨ x ∈ o
  src : ∀ b, BS g h b → b ∈ s ∨ b ∈ o
  nodup : s.Nodup
  rng : ∀ x ∈ s, 0 ≤ x ∧ x < (g.length : Int)
theorem body_loop (hn : g.length ≤ 1000) : ∀ (m : Nat) (o s : List Int), m ≤ 100000000 → BdI g h o s → (g.length + 1 - s.length) * (g.length + 1) + o.length ≤ m → ∃ s', bodyLoop (predsL g) (m + 1) o s = some s' ∧ ∀ x, x ∈ s' ↔ Bd g h x := by
  have hpl := predsL_len g
  intro m
  induction m with
  | zero =>
    intro o s hm0 I hm
    have hsl := nodup_len _ s I.nodup I.rng
    obtain ⟨A, hA⟩ : ∃ A, g.length + 1 - s.length = A + 1 := ⟨g.length - s.length, by omega⟩
    rw [hA, Nat.add_mul] at hm
    omega
  | succ m ih =>
    intro o s hm0 I hm
    have hsl := nodup_len _ s I.nodup I.rng
    rw [bodyLoop]
    rcases List.eq_nil_or_concat o with rfl | ⟨o', a, rfl⟩
    · refine ⟨s, rfl, fun x => ⟨I.snd x, fun hB => ?_⟩⟩
      induction hB with
      | head => exact I.head
      | src hB => exact (I.src _ hB).resolve_right (fun h => by cases h)
      | step _ hne he ihb => exact (I.closed _ ihb hne _ he).resolve_right (fun h => by cases h)
    · rw [List.concat_eq_append] at I hm ⊢
      have hlast : (o' ++ [a]).getLast? = some a := by simp
      have hdl : (o' ++ [a]).dropLast = o' := by simp
      have hoa := I.ond a (by simp)
      rw [hlast, hdl]
      simp only []
      rw [List.length_append, List.length_singleton] at hm
      by_cases hc : s.contains a = true
      · rw [if_pos hc]
        rw [List.contains_iff_mem] at hc
        refine ih o' s (by omega) ⟨I.head, I.snd, fun x hx => I.ond x (by simp [hx]), fun y hy hne x he => ?_, fun b hb => ?_, I.nodup, I.rng⟩ (by omega)
        · rcases I.closed y hy hne x he with h1 | h1
          · exact .inl h1
          · rcases List.mem_append.1 h1 with h1 | h1
            · exact .inr h1
            · rw [List.mem_singleton.1 h1]; exact .inl hc
        · rcases I.src b hb with h1 | h1
          · exact .inl h1
          · rcases List.mem_append.1 h1 with h1 | h1
            · exact .inr h1
            · rw [List.mem_singleton.1 h1]; exact .inl hc
      · rw [if_neg hc]
        have hna : a ∉ s := fun h => hc (List.contains_iff_mem.2 h)
        have hrow : (predsL g).getD a.toNat [] = upto (fun x => eB g x a) g.length 0 := preds_upto g a hoa.2
        have hrl := upto_len (fun x => eB g x a) g.length 0
        have hmr : ∀ x, x ∈ upto (fun x => eB g x a) g.length 0 ↔ Eg g x a := fun x => by
          rw [mem_upto]
          exact ⟨fun h => h.2, fun h => by have := Eg_in h; exact ⟨by omega, h⟩⟩
        have hah : a ≠ h := fun e => hna (e ▸ I.head)
        have hs1 : (a :: s).Nodup := List.nodup_cons.2 ⟨hna, I.nodup⟩
        have hs2 : ∀ x ∈ a :: s, 0 ≤ x ∧ x < (g.length : Int) := fun x hx => by
          rcases List.mem_cons.1 hx with rfl | hx
          · exact hoa.2
          · exact I.rng x hx
        have hsl1 := nodup_len _ _ hs1 hs2
        rw [List.length_cons] at hsl1
        rw [hrow, if_pos ⟨hoa.2.1, by omega, by rw [List.length_append]; omega, by omega⟩]
        obtain ⟨A, hA⟩ : ∃ A, g.length + 1 - s.length = A + 1 := ⟨g.length - s.length, by omega⟩
        rw [hA, Nat.add_mul] at hm
        refine ih _ (a :: s) (by omega) ⟨List.mem_cons_of_mem _ I.head, fun x hx => ?_, fun x hx => ?_, fun y hy hne x he => ?_, fun b hb => ?_, hs1, hs2⟩ ?_
        · rcases List.mem_cons.1 hx with rfl | hx
          · exact hoa.1
          · exact I.snd x hx
        · rcases List.mem_append.1 hx with hx | hx
          · exact I.ond x (by simp [hx])
          · have he := (hmr x).1 hx
            have := Eg_in he
            exact ⟨.step hoa.1 hah he, this.1, this.2.1⟩
        · rcases List.mem_cons.1 hy with rfl | hy
          · exact .inr (List.mem_append_right _ ((hmr x).2 he))
          · rcases I.closed y hy hne x he with h1 | h1
            · exact .inl (List.mem_cons_of_mem _ h1)
            · rcases List.mem_append.1 h1 with h1 | h1
              · exact .inr (List.mem_append_left _ h1)
              · rw [List.mem_singleton.1 h1]; exact .inl List.mem_cons_self
        · rcases I.src b hb with h1 | h1
          · exact .inl (List.mem_cons_of_mem _ h1)
          · rcases List.mem_append.1 h1 with h1 | h1
            · exact .inr (List.mem_append_left _ h1)
            · rw [List.mem_singleton.1 h1]; exact .inl List.mem_cons_self
        · rw [List.length_append, List.length_cons, show g.length + 1 - (s.length + 1) = A from by omega]
          omega
variable {o r : List Int} {par : Nat → Nat}
theorem mem_openL (R : IdomR g o r par) (b : Int) : b ∈ openL g r h ↔ BS g h b := by
  unfold openL
  rw [List.mem_map]
  constructor
  · rintro ⟨e, he, rfl⟩
    obtain ⟨h1, h2⟩ := List.mem_filter.1 he
    rw [Bool.and_eq_true, beq_iff_eq] at h2
    have h3 := (mem_edgesL g e.1 e.2).1 h1
    have h4 := Eg_in h3
    have h5 := (backL_iff R e.1 e.2 ⟨h4.1, h4.2.1⟩ ⟨h4.2.2.1, h4.2.2.2⟩).1 h2.2
    rw [h2.1] at h3 h5
    exact ⟨h3, h5⟩
  · rintro ⟨h1, h2⟩
    have h4 := Eg_in h1
    exact ⟨(b, h), List.mem_filter.2 ⟨(mem_edgesL g b h).2 h1, by rw [Bool.and_eq_true]; exact ⟨by simp, (backL_iff R b h ⟨h4.1, h4.2.1⟩ ⟨h4.2.2.1, h4.2.2.2⟩).2 h2⟩⟩, rfl⟩
/-- What graph.Body tells: the blocks of the loop that are reached, rising. -/
theorem body_some (hg : okG g = true) (hn : 0 < g.length) (hn2 : g.length ≤ 1000) (R : IdomR g o r par) {k0 : Nat} (ho : graph_Order.f k0 g = some o) (hr : graph_Idom.f k0 g = some r) (hh : -1 ≤ h ∧ h ≤ (g.length : Int)) (P : Int → Bool) (hP : ∀ x, 0 ≤ x → x < (g.length : Int) → (P x = true ↔ Rch (Eg g) x ∧ Bd g h x)) :
    ∃ k s, graph_Body.f k g h = some s ∧ ((∃ b, BS g h b) → s = upto P g.length 0) ∧ ((¬ ∃ b, BS g h b) → s = []) := by
  have hol := ordd_len R.ord
  have hel := edgesL_length g
  have hmul : g.length * g.length ≤ 1000 * 1000 := Nat.mul_le_mul hn2 hn2
  have hrl := R.lst.len
  have cond : r.length = g.length ∧ (edgesL g).length ≤ 100000000 ∧ o.length ≤ 1000000 ∧ (∀ b ∈ o, 0 ≤ b ∧ b < (g.length : Int)) ∧ -1 ≤ h ∧ h ≤ (g.length : Int) := ⟨hrl, by omega, by omega, R.ord.rng, hh.1, hh.2⟩
  by_cases hop : openL g r h = []
  · have hno : ¬ ∃ b, BS g h b := fun ⟨b, hb⟩ => by
      have := (mem_openL R b).2 hb
      rw [hop] at this
      cases this
    refine ⟨k0, [], ?_, fun h => absurd h hno, fun _ => rfl⟩
    unfold graph_Body.f
    rw [if_pos hg, hr, Option.bind_some, ho, Option.bind_some, if_pos cond, if_pos hop]
  · have hex : ∃ b, BS g h b := by
      rcases hc : openL g r h with _ | ⟨b, l⟩
      · exact absurd hc hop
      · exact ⟨b, (mem_openL R b).1 (by rw [hc]; exact List.mem_cons_self)⟩
    obtain ⟨b0, hb0⟩ := hex
    have hr0 := Eg_in hb0.1
    have hopl : (openL g r h).length ≤ 1000 * 1000 := by
      unfold openL
      rw [List.length_map]
      have := List.length_filter_le (fun e : Int × Int => e.2 == h && backL r e.1 e.2) (edgesL g)
      omega
    have hm2 : (g.length + 1 - [h].length) * (g.length + 1) ≤ 1000 * 1001 := Nat.mul_le_mul (by simp; omega) (by omega)
    obtain ⟨s', h1, h2⟩ := body_loop (g := g) (h := h) hn2 100000000 (openL g r h) [h] (Nat.le_refl _) ⟨by simp, fun x hx => by rw [List.mem_singleton.1 hx]; exact .head, fun x hx => by
        have hB := (mem_openL R x).1 hx
        have := Eg_in hB.1
        exact ⟨.src hB, this.1, this.2.1⟩, fun y hy hne => absurd (List.mem_singleton.1 hy) hne, fun b hb => .inr ((mem_openL R b).2 hb), by simp, fun x hx => by rw [List.mem_singleton.1 hx]; exact ⟨hr0.2.2.1, hr0.2.2.2⟩⟩ (by omega)
    refine ⟨k0 + 100000001, isort (o.filter fun b => s'.contains b), ?_, fun _ => ?_, fun hno => absurd ⟨b0, hb0⟩ hno⟩
    · have e1 := up (f := fun k => graph_Idom.f k g) (fun k => graph_Idom.mono g k) (m := k0 + 100000001) (by omega) hr
      have e2 := up (f := fun k => graph_Order.f k g) (fun k => graph_Order.mono k g) (m := k0 + 100000001) (by omega) ho
      have e3 := up (f := fun k => bodyLoop (predsL g) k (openL g r h) [h]) (fun k => bodyLoop_mono _ k _ _) (m := k0 + 100000001) (by omega) h1
      unfold graph_Body.f
      rw [if_pos hg, e1, Option.bind_some, e2, Option.bind_some, if_pos cond, if_neg hop, e3]
      rfl
    · have hperm := isort_perm (o.filter fun b => s'.contains b)
      have hnd : (isort (o.filter fun b => s'.contains b)).Nodup := hperm.nodup_iff.2 (R.ord.nodup.filter _)
      refine sorted_eq ?_ (upto_sorted _ _ _) (fun x => ?_)
      · refine List.Pairwise.imp_of_mem ?_ ((isort_sorted _).and hnd)
        intro a b _ _ hab
        have := hab.1
        have := hab.2
        omega
      · rw [hperm.mem_iff, List.mem_filter, List.contains_iff_mem, h2, mem_upto, reach_iff R.ord]
        constructor
        · rintro ⟨h3, h4⟩
          have := RAv.rng hn h3
          exact ⟨by omega, (hP x this.1 this.2).2 ⟨h3, h4⟩⟩
        · rintro ⟨h3, h4⟩
          exact (hP x h3.1 (by omega)).1 h4
end
section
variable {g : List (List Int)} {o r : List Int} {par : Nat → Nat}
theorem headers_some (hg : okG g = true) (hn2 : g.length ≤ 1000) (R : IdomR g o r par) {k : Nat} (hr : graph_Idom.f k g = some r) : graph_Headers.f k g = some (headL g r) := by
  have hel := edgesL_length g
  have hmul : g.length * g.length ≤ 1000 * 1000 := Nat.mul_le_mul hn2 hn2
  unfold graph_Headers.f
  rw [if_pos hg, hr, Option.bind_some, if_pos ⟨R.lst.len, by omega⟩]
theorem reducible_some (hg : okG g = true) (hn2 : g.length ≤ 1000) (R : IdomR g o r par) {k : Nat} (ho : graph_Order.f k g = some o) (hr : graph_Idom.f k g = some r) : graph_Reducible.f k g = some (redL g r o) := by
  have hol := ordd_len R.ord
  unfold graph_Reducible.f
  rw [if_pos hg, hr, Option.bind_some, ho, Option.bind_some, if_pos ⟨R.lst.len, by omega, R.ord.rng⟩]
end
end Go.Proofs.Ytnmeomdjhjgnfaa.X
end
section
/-! Plain: what the laws share: rests, orders and dominators of a graph of plain numbers. -/
set_option linter.unusedVariables false
set_option linter.unusedSimpArgs false
namespace Go.Proofs.Ytnmeomdjhjgnfaa.X
open Go.RowKit Go.Proofs.YtnmeomdjhjgnfaaW.PrintWords Go.Proofs.YtnmeomdjhjgnfaaW.PrintLast Go.Proofs.YtnmeomdjhjgnfaaW.PrintMore

/-- Orders and dominators of a graph. -/
theorem get_idom (g : List (List Int)) (hok : okG g = true) (hn : 0 < g.length) (hn2 : g.length ≤ 1000) : ∃ k o r par, graph_Order.f k g = some o ∧ graph_Idom.f k g = some r ∧ IdomR g o r par := by
  obtain ⟨o, h1, H⟩ := order_some g hok hn g.length (Nat.le_refl _)
  obtain ⟨k, r, par, h2, R⟩ := idom_some g hok hn hn2 o ⟨_, h1⟩ H
  refine ⟨k + g.length, o, r, par, ?_, ?_, R⟩
  · exact up (f := fun k => graph_Order.f k g) (fun k => graph_Order.mono k g) (by omega) h1
  · exact up (f := fun k => graph_Idom.f k g) (fun k => graph_Idom.mono g k) (by omega) h2
theorem domf_some {g : List (List Int)} {o r : List Int} {par : Nat → Nat} (hok : okG g = true) (R : IdomR g o r par) (a b : Int) : graph_Dominates.f r a b = some (domL r a b) := by
  have := (okG_len hok).1
  have := R.lst.len
  unfold graph_Dominates.f
  rw [if_pos (by omega)]
end Go.Proofs.Ytnmeomdjhjgnfaa.X
end
section
/-! Plain: rests. -/
set_option linter.unusedVariables false
set_option linter.unusedSimpArgs false
namespace Go.Proofs.Ytnmeomdjhjgnfaa.X
open Go.RowKit Go.Proofs.YtnmeomdjhjgnfaaW.PrintWords Go.Proofs.YtnmeomdjhjgnfaaW.PrintLast Go.Proofs.YtnmeomdjhjgnfaaW.PrintMore

theorem rest_some (a n : Int) (h0 : 0 < n) (h1 : n ≤ 1000000) : ∃ x, jacquardlaw02_rest.f a n = some x ∧ 0 ≤ x ∧ x < n := by
  have hm1 := Int.tmod_lt_of_pos a h0
  have hm2 := Int.lt_tmod_of_pos a h0
  have e4 : wrap64 (Int.tmod a n + n) = Int.tmod a n + n := w64 (by omega) (by omega)
  refine ⟨_, by unfold jacquardlaw02_rest.f; rw [if_neg (by omega)], ?_, ?_⟩
  · rw [e4]; exact Int.tmod_nonneg _ (by omega)
  · exact Int.tmod_lt_of_pos _ h0
end Go.Proofs.Ytnmeomdjhjgnfaa.X
end
section
/-! The plain law of GraphTree. -/
set_option linter.unusedSimpArgs false
set_option linter.unusedVariables false
namespace Go.Proofs.Ytnmeomdjhjgnfaa.Pure
open Go.RowKit Go.Proofs.Ytnmeomdjhjgnfaa.X Go.Proofs.YtnmeomdjhjgnfaaW.PrintWords Go.Proofs.YtnmeomdjhjgnfaaW.PrintLast

/-- A row of a graph without circles. -/
def TRow (n i : Int) (row : List Int) : Prop := row.length ≤ 3 ∧ (∀ b ∈ row, i < b ∧ b < n) ∧ (i + 1 < n → i + 1 ∈ row)
structure TreeG (g : List (List Int)) : Prop where
  pos : 1 ≤ g.length
  few : g.length ≤ 10
  row : ∀ i, 0 ≤ i → i < (g.length : Int) → TRow g.length i (rd_L1 g i)
theorem rd_mem {g : List (List Int)} {r : List Int} (h : r ∈ g) : ∃ i : Int, (0 ≤ i ∧ i < g.length) ∧ rd_L1 g i = r := by
  obtain ⟨i, hi, rfl⟩ := List.getElem_of_mem h
  exact ⟨i, by omega, by simp [rd_L1, hi]⟩
theorem TreeG.ok {g : List (List Int)} (h : TreeG g) : okG g = true := by
  unfold okG
  rw [Bool.and_eq_true, decide_eq_true_eq, List.all_eq_true]
  refine ⟨by have := h.few; omega, fun r hr => decide_eq_true ?_⟩
  obtain ⟨i, hi, rfl⟩ := rd_mem hr
  have := (h.row i hi.1 hi.2).1
  omega
theorem TreeG.edge {g : List (List Int)} (h : TreeG g) {a b : Int} (he : Eg g a b) : a < b := by
  obtain ⟨h1, h2, h3, h4, h5⟩ := eB_iff.1 he
  exact ((h.row a h1 h2).2.1 b h5).1
theorem TreeG.next {g : List (List Int)} (h : TreeG g) {a : Int} (h0 : 0 ≤ a) (h1 : a + 1 < g.length) : Eg g a (a + 1) :=
  eB_iff.2 ⟨h0, by omega, by omega, h1, (h.row a h0 (by omega)).2.2 h1⟩
/-- With an edge back to block 0. -/
def turned (g : List (List Int)) : List (List Int) := g.set ((g.length : Int) - 1).toNat (rd_L1 g ((g.length : Int) - 1) ++ [0])
theorem turned_len (g : List (List Int)) : (turned g).length = g.length := by unfold turned; simp
theorem rd_set (g : List (List Int)) (k i : Int) (row : List Int) (hk : 0 ≤ k ∧ k < g.length) (hi : 0 ≤ i) : rd_L1 (g.set k.toNat row) i = if i = k then row else rd_L1 g i := by
  unfold rd_L1
  rw [List.getD_eq_getElem?_getD, List.getD_eq_getElem?_getD]
  by_cases h : i = k
  · rw [if_pos h, h, List.getElem?_set_self (by omega)]; rfl
  · rw [if_neg h, List.getElem?_set_ne (by omega)]
theorem turned_edge {g : List (List Int)} (h : TreeG g) (a b : Int) : Eg (turned g) a b ↔ Eg g a b ∨ (a = g.length - 1 ∧ b = 0) := by
  have hp := h.pos
  unfold Eg
  rw [eB_iff, eB_iff, turned_len]
  constructor
  · rintro ⟨h1, h2, h3, h4, h5⟩
    unfold turned at h5
    rw [rd_set g _ a _ (by omega) h1] at h5
    by_cases e : a = g.length - 1
    · rw [if_pos e, List.mem_append, List.mem_singleton] at h5
      rcases h5 with h5 | h5
      · rw [e]; exact .inl ⟨by omega, by omega, h3, h4, h5⟩
      · exact .inr ⟨e, h5⟩
    · rw [if_neg e] at h5
      exact .inl ⟨h1, h2, h3, h4, h5⟩
  · rintro (⟨h1, h2, h3, h4, h5⟩ | ⟨rfl, rfl⟩)
    · refine ⟨h1, h2, h3, h4, ?_⟩
      unfold turned
      rw [rd_set g _ a _ (by omega) h1]
      by_cases e : a = g.length - 1
      · rw [if_pos e, List.mem_append, ← e]; exact .inl h5
      · rw [if_neg e]; exact h5
    · refine ⟨by omega, by omega, by omega, by omega, ?_⟩
      unfold turned
      rw [rd_set g _ _ _ (by omega) (by omega), if_pos rfl, List.mem_append]
      exact .inr (by simp)
theorem turned_ok {g : List (List Int)} (h : TreeG g) : okG (turned g) = true := by
  unfold okG
  have hf := h.few
  have hp := h.pos
  rw [Bool.and_eq_true, decide_eq_true_eq, List.all_eq_true, turned_len]
  refine ⟨by omega, fun r hr => decide_eq_true ?_⟩
  obtain ⟨i, hi, rfl⟩ := rd_mem hr
  rw [turned_len] at hi
  unfold turned
  rw [rd_set g _ i _ (by omega) hi.1]
  split
  · have := (h.row (g.length - 1) (by omega) (by omega)).1
    rw [List.length_append]; simp; omega
  · have := (h.row i hi.1 hi.2).1
    omega
section
variable {g h : List (List Int)} (H : TreeG g) (hE : ∀ a b, Eg g a b → Eg h a b)
include H hE
/-- Block 0, 1, .. up to a lead to it. -/
theorem tree_av {z : Int} : ∀ (k : Nat) (a : Int), a = k → a < z → a < g.length → RAv (Eg h) z a
  | 0, a, e, hz, _ => by
    obtain rfl : a = 0 := by omega
    exact .start (by omega)
  | k + 1, a, e, hz, hl => by
    have h1 := tree_av (z := z) k (a - 1) (by omega) (by omega) (by omega)
    have h2 := H.next (a := a - 1) (by omega) (by omega)
    rw [show a - 1 + 1 = a from by omega] at h2
    exact .step h1 (hE _ _ h2) (by omega)
theorem tree_rch (a : Int) (h0 : 0 ≤ a) (h1 : a < g.length) : Rch (Eg h) a := Rch.of_av2 (tree_av H hE (z := g.length) a.toNat a (by omega) (by omega) h1)
end
/-- No edge of it goes back. -/
theorem tree_nb {g h : List (List Int)} (H : TreeG g) (hE : ∀ a b, Eg g a b → Eg h a b) {a b : Int} (he : Eg g a b) : ¬ Dmb (Eg h) b a := by
  have h1 := H.edge he
  have h2 := Eg_in he
  rintro ⟨_, _, h3⟩
  rcases h3 with h3 | h3
  · omega
  · exact h3 (tree_av H hE a.toNat a (by omega) h1 h2.2.1)
theorem tree_up {g h : List (List Int)} (H : TreeG g) {o : List Int} (hO : Ordd (Eg h) h.length o) (hE : ∀ a b, Eg h a b → Eg g a b ∨ b = 0) (j : Nat) (hj : j < o.length) : ∀ i, FW (Eg h) o j i → at_ o j ≤ at_ o i := by
  intro i hf
  induction hf with
  | refl => omega
  | @step z x _ he hlt hx ih =>
    rcases hE _ _ he with h1 | h1
    · have := H.edge h1; omega
    · have := at_inj hO.nodup hx hO.pos (h1.trans hO.head.symm)
      omega
theorem upto_all (P : Int → Bool) : ∀ (d : Nat) (i : Int), (∀ x, i ≤ x → x < i + d → P x = true) → (upto P d i).length = d
  | 0, _, _ => rfl
  | d + 1, i, h => by
    rw [upto, if_pos (h i (by omega) (by omega)), List.length_cons, upto_all P d (i + 1) (fun x h1 h2 => h x (by omega) (by omega))]
theorem tree_red {g h : List (List Int)} (H : TreeG g) {o r : List Int} {par : Nat → Nat} (R : IdomR h o r par) (hE : ∀ a b, Eg h a b → Eg g a b ∨ b = 0) (hN : ∀ a, Eg h a 0 → Dmb (Eg h) 0 a) : redL h r o = true := by
  rw [redL_iff R]
  intro i j hi hj hNB
  rcases R.ord.back i j hi hj hNB.1 with h1 | h1
  · exact h1
  · have h2 := tree_up H R.ord hE j hj i h1
    rcases hE _ _ hNB.1 with h3 | h3
    · have := H.edge h3; omega
    · exact absurd (by rw [h3] at hNB ⊢; exact hN _ hNB.1) hNB.2
theorem tree_one {g : List (List Int)} (H : TreeG g) : ∃ k, graph_Reducible.f k g = some true ∧ graph_Headers.f k g = some [] := by
  have hf := H.few
  have hp := H.pos
  obtain ⟨k, o, r, par, ho, hr, R⟩ := get_idom g H.ok (by omega) (by omega)
  refine ⟨k, ?_, ?_⟩
  · rw [reducible_some H.ok (by omega) R ho hr, tree_red H R (fun a b he => .inl he) (fun a he => by have h1 := H.edge he; have h2 := Eg_in he; omega)]
  · rw [headers_some H.ok (by omega) R hr]
    refine congrArg _ (List.eq_nil_iff_forall_not_mem.2 (fun x hx => ?_))
    obtain ⟨b, he, hd⟩ := (mem_headL R x).1 hx
    exact tree_nb H (fun _ _ h => h) he hd
theorem dmb0 {E : Int → Int → Prop} {a : Int} (h : Rch E a) : Dmb E 0 a := by
  refine ⟨.start (by omega), h, .inr (fun hr => ?_)⟩
  have key : ∀ y, RAv E 0 y → False := by
    intro y hy
    induction hy with
    | start h => exact h rfl
    | step _ _ _ ih => exact ih
  exact key a hr
theorem tree_two {g : List (List Int)} (H : TreeG g) : ∃ k s, graph_Headers.f k (turned g) = some [0] ∧ graph_Body.f k (turned g) 0 = some s ∧ s.length = g.length ∧ graph_Reducible.f k (turned g) = some true := by
  have hf := H.few
  have hp := H.pos
  have hl := turned_len g
  have hok := turned_ok H
  have hE : ∀ a b, Eg g a b → Eg (turned g) a b := fun a b h => (turned_edge H a b).2 (.inl h)
  have hE2 : ∀ a b, Eg (turned g) a b → Eg g a b ∨ b = 0 := fun a b h => ((turned_edge H a b).1 h).imp id (·.2)
  have hR : ∀ a, 0 ≤ a → a < (g.length : Int) → Rch (Eg (turned g)) a := fun a h0 h1 => tree_rch H hE a h0 h1
  obtain ⟨k1, o, r, par, ho, hr, R⟩ := get_idom (turned g) hok (by omega) (by omega)
  have hBS : BS (turned g) 0 (g.length - 1) := ⟨(turned_edge H _ _).2 (.inr ⟨rfl, rfl⟩), dmb0 (hR _ (by omega) (by omega))⟩
  have key : ∀ (d : Nat) (x : Int), x + d = g.length - 1 → 0 ≤ x → Bd (turned g) 0 x := by
    intro d
    induction d with
    | zero =>
      intro x hd _
      obtain rfl : x = g.length - 1 := by omega
      exact .src hBS
    | succ d ih =>
      intro x hd h0
      exact .step (ih (x + 1) (by omega) (by omega)) (by omega) (hE _ _ (H.next h0 (by omega)))
  obtain ⟨k2, s, hs, hs1, _⟩ := body_some (h := 0) hok (by omega) (by omega) R ho hr ⟨by omega, by omega⟩ (fun _ => true) (fun x h0 h1 => ⟨fun _ => ⟨hR x h0 (by omega), key (g.length - 1 - x).toNat x (by omega) h0⟩, fun _ => rfl⟩)
  have e1 := up (f := fun k => graph_Idom.f k (turned g)) (fun k => graph_Idom.mono (turned g) k) (m := k1 + k2) (by omega) hr
  have e2 := up (f := fun k => graph_Order.f k (turned g)) (fun k => graph_Order.mono k (turned g)) (m := k1 + k2) (by omega) ho
  have e3 := up (f := fun k => graph_Body.f k (turned g) 0) (fun k => graph_Body.mono k (turned g) 0) (m := k1 + k2) (by omega) hs
  refine ⟨k1 + k2, s, ?_, e3, ?_, ?_⟩
  · rw [headers_some hok (by omega) R e1]
    refine congrArg _ (sorted_eq ?_ (by simp) (fun x => ?_))
    · rw [headL_upto]; exact upto_sorted _ _ _
    · rw [mem_headL R, List.mem_singleton]
      constructor
      · rintro ⟨b, he, hd⟩
        rcases (turned_edge H b x).1 he with h1 | h1
        · exact absurd hd (tree_nb H hE h1)
        · exact h1.2
      · rintro rfl
        exact ⟨_, hBS.1, hBS.2⟩
  · rw [hs1 ⟨_, hBS⟩, upto_all _ _ _ (fun _ _ _ => rfl), hl]
  · rw [reducible_some hok (by omega) R e2 e1, tree_red H R hE2 (fun a he => dmb0 (by have := Eg_in he; exact hR a this.1 (by omega)))]
/-! ### the law's loops -/
theorem tree_l0 (s : List Int) (hs : s.length ≤ 17592186044416) (n : Int) (h1 : 1 ≤ n) (h2 : n ≤ 10) : ∀ (d : Nat) (x7 : List (List Int)) (x8 : Int), x8 + d = n → (x7.length : Int) = x8 → (∀ i, 0 ≤ i → i < x8 → TRow n i (rd_L1 x7 i)) →
    ∃ k, jacquardlaw02_GraphTree.l0 k s true n x7 x8 = some true := by
  intro d
  induction d with
  | zero =>
    intro x7 x8 hd hl hr
    have hx : n = x7.length := by omega
    have H : TreeG x7 := ⟨by omega, by omega, fun i h0 h3 => by rw [← hx]; exact hr i h0 (by omega)⟩
    obtain ⟨k1, a1, a2⟩ := tree_one H
    obtain ⟨k2, b, b1, b2, b3, b4⟩ := tree_two H
    have e1 := up (f := fun k => graph_Reducible.f k x7) (fun k => graph_Reducible.mono k _) (m := k1 + k2) (by omega) a1
    have e2 := up (f := fun k => graph_Headers.f k x7) (fun k => graph_Headers.mono k _) (m := k1 + k2) (by omega) a2
    have e3 := up (f := fun k => graph_Headers.f k (turned x7)) (fun k => graph_Headers.mono k _) (m := k1 + k2) (by omega) b1
    have e4 := up (f := fun k => graph_Body.f k (turned x7) 0) (fun k => graph_Body.mono k _ _) (m := k1 + k2) (by omega) b2
    have e5 := up (f := fun k => graph_Reducible.f k (turned x7)) (fun k => graph_Reducible.mono k _) (m := k1 + k2) (by omega) b4
    have hrow := (H.row (x7.length - 1) (by omega) (by omega)).1
    have ht : x7.set ((wrap64 (n - 1)) : Int).toNat ((rd_L1 x7 (wrap64 (n - 1))) ++ [0]) = turned x7 := by
      rw [w64 (by omega) (by omega), hx]; rfl
    refine ⟨k1 + k2 + 1, ?_⟩
    rw [jacquardlaw02_GraphTree.l0, if_neg (by omega), e1, Option.bind_some, if_pos rfl, e2, Option.bind_some, ht, w64 (by omega) (by omega), if_pos (by omega), if_pos (by omega), if_pos (by rw [hx]; omega), Option.bind_some, e3]
    simp only [Option.bind_some]
    rw [if_pos trivial, if_pos (by rfl), if_pos (by rfl), if_pos (by decide), if_pos (by rfl), e4]
    simp only [Option.bind_some]
    rw [if_pos (by omega), e5]
    rfl
  | succ d ih =>
    intro x7 x8 hd hl hr
    have hw : wrap64 (x8 + 1) = x8 + 1 := w64 (by omega) (by omega)
    have add : ∀ row, TRow n x8 row → ∃ k, jacquardlaw02_GraphTree.l0 k s true n (x7 ++ [row]) (x8 + 1) = some true := fun row hrow =>
      ih (x7 ++ [row]) (x8 + 1) (by omega) (by rw [List.length_append]; simp; omega) (fun i h0 h3 => by
        have e : rd_L1 (x7 ++ [row]) i = if i = x7.length then row else rd_L1 x7 i := by
          unfold rd_L1
          rw [List.getD_eq_getElem?_getD, List.getD_eq_getElem?_getD]
          by_cases h : i = x7.length
          · rw [if_pos h, List.getElem?_append_right (by omega), show i.toNat - x7.length = 0 from by omega]; rfl
          · rw [if_neg h, List.getElem?_append_left (by omega)]
        rw [e]
        by_cases h : i = x7.length
        · rw [if_pos h, h, hl]; exact hrow
        · rw [if_neg h]; exact hr i h0 (by omega))
    have j1 : ∀ row, row.length ≤ 1 → TRow n x8 row → ∃ k, jacquardlaw02_GraphTree.j1 k s true n x7 x8 row = some true := by
      intro row hrl hrow
      by_cases h : x8 < (s.length : Int)
      · obtain ⟨y, hy, hy0, hy1⟩ := rest_some (rd s x8) n (by omega) (by omega)
        have hw2 : wrap64 (x8 + 1 + y) = x8 + 1 + y := w64 (by omega) (by omega)
        by_cases h3 : x8 + 1 + y < n
        · obtain ⟨k, hk⟩ := add (row ++ [x8 + 1 + y]) ⟨by rw [List.length_append]; simp; omega, fun b hb => by
            rcases List.mem_append.1 hb with hb | hb
            · exact hrow.2.1 b hb
            · rw [List.mem_singleton.1 hb]; omega, fun hh => List.mem_append_left _ (hrow.2.2 hh)⟩
          refine ⟨k + 1, ?_⟩
          rw [jacquardlaw02_GraphTree.j1, if_pos h, if_pos (by omega), hy, Option.bind_some, hw, hw2, if_pos h3, if_pos (by omega), if_pos (by omega)]
          exact hk
        · obtain ⟨k, hk⟩ := add row hrow
          refine ⟨k + 1, ?_⟩
          rw [jacquardlaw02_GraphTree.j1, if_pos h, if_pos (by omega), hy, Option.bind_some, hw, hw2, if_neg h3, if_pos (by omega)]
          exact hk
      · obtain ⟨k, hk⟩ := add row hrow
        refine ⟨k + 1, ?_⟩
        rw [jacquardlaw02_GraphTree.j1, if_neg h, if_pos (by omega), hw]
        exact hk
    by_cases h : x8 + 1 < n
    · obtain ⟨k, hk⟩ := j1 [x8 + 1] (by simp) ⟨by simp, fun b hb => by rw [List.mem_singleton.1 hb]; omega, fun _ => by simp⟩
      refine ⟨k + 1, ?_⟩
      rw [jacquardlaw02_GraphTree.l0, if_pos (by omega), hw, if_pos h, if_pos (by simp)]
      exact hk
    · obtain ⟨k, hk⟩ := j1 [] (by simp) ⟨by simp, (fun b (hb : b ∈ []) => nomatch hb), fun hh => absurd hh h⟩
      refine ⟨k + 1, ?_⟩
      rw [jacquardlaw02_GraphTree.l0, if_pos (by omega), hw, if_neg h]
      exact hk
theorem GraphTree : jacquardlaw02_GraphTree.Pure := by
  intro a0 l1 _ _ hs _
  obtain ⟨x, hx, hx0, hx1⟩ := rest_some a0 10 (by omega) (by omega)
  obtain ⟨k, hk⟩ := tree_l0 l1 (by omega) (1 + x) (by omega) (by omega) (1 + x).toNat [] 0 (by omega) rfl (fun i h0 h1 => by omega)
  refine ⟨k, ?_⟩
  unfold jacquardlaw02_GraphTree.f
  unfold jacquardlaw02_awake.f
  simp only [Option.bind_some]
  rw [hx]
  simp only [Option.bind_some]
  rw [w64 (by omega) (by omega)]
  exact hk
end Go.Proofs.Ytnmeomdjhjgnfaa.Pure
end
