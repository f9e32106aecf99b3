/- Parts of the proof of GraphBody: Pidom, Pedge, Pchk, Pdomn, Pidf, Pdm, Pup, Pgr, Pbody, Glbody, Pwo, Pdom, Pdrest, Plaw, PureGraphBody. -/
import Derived.Test.YtnmeomdjhjgnfaaB1
import Derived.Test.YtnmeomdjhjgnfaaB2
import Derived.StillTailTactics
section
set_option linter.unusedVariables false
namespace Go.Proofs.Ytnmeomdjhjgnfaa.X

/-- z stands on u's chain. -/
inductive An (par : Nat → Nat) (z : Nat) : Nat → Prop
  | refl : An par z z
  | up {u : Nat} : 0 < u → An par z (par u) → An par z u
/-- Parents stand ahead. -/
def Dn (par : Nat → Nat) : Prop := ∀ u, 0 < u → par u < u
theorem An.le {par : Nat → Nat} (hd : Dn par) {z u : Nat} (h : An par z u) : z ≤ u := by
  induction h with
  | refl => exact Nat.le_refl _
  | up h0 _ ih => have := hd _ h0; omega
theorem An.trans {par : Nat → Nat} {z w u : Nat} (h : An par z w) (k : An par w u) : An par z u := by
  induction k with
  | refl => exact h
  | up h0 _ ih => exact .up h0 ih
theorem An.inv {par : Nat → Nat} {z u : Nat} (h : An par z u) : z = u ∨ (0 < u ∧ An par z (par u)) := by
  cases h with
  | refl => exact .inl rfl
  | up h0 h => exact .inr ⟨h0, h⟩
theorem An.linear {par : Nat → Nat} (hd : Dn par) {z w u : Nat} (h : An par z u) (k : An par w u) (hle : z ≤ w) : An par z w := by
  induction k with
  | refl => exact h
  | @up u h0 k ih =>
    rcases h.inv with rfl | ⟨_, h⟩
    · have h1 := k.le hd
      have h2 := hd _ h0
      omega
    · exact ih h
theorem An.root {par : Nat → Nat} (hd : Dn par) : ∀ (n u : Nat), u ≤ n → An par 0 u
  | 0, u, h => by obtain rfl : u = 0 := by omega
                  exact .refl
  | n + 1, u, h => by
    rcases Nat.eq_zero_or_pos u with rfl | h0
    · exact .refl
    · exact .up h0 (An.root hd n (par u) (by have := hd u h0; omega))
theorem An.of_zero {par : Nat → Nat} (hd : Dn par) {z : Nat} (h : An par z 0) : z = 0 := by have := h.le hd; omega

/-- The nearest one of two chains. -/
def com (par : Nat → Nat) : Nat → Nat → Nat → Nat
  | 0, a, _ => a
  | k + 1, a, b => if b < a then com par k (par a) b else if a < b then com par k a (par b) else a
theorem com_an {par : Nat → Nat} (hd : Dn par) : ∀ (k a b : Nat), a + b < k → ∀ z, An par z (com par k a b) ↔ An par z a ∧ An par z b
  | 0, _, _, h, _ => by omega
  | k + 1, a, b, h, z => by
    rw [com]
    by_cases h1 : b < a
    · have h2 := hd a (by omega)
      rw [if_pos h1, com_an hd k (par a) b (by omega) z]
      constructor
      · exact fun ⟨x, y⟩ => ⟨.up (by omega) x, y⟩
      · rintro ⟨x, y⟩
        rcases x.inv with rfl | ⟨_, x⟩
        · have := y.le hd; omega
        · exact ⟨x, y⟩
    · rw [if_neg h1]
      by_cases h3 : a < b
      · have h2 := hd b (by omega)
        rw [if_pos h3, com_an hd k a (par b) (by omega) z]
        constructor
        · exact fun ⟨x, y⟩ => ⟨x, .up (by omega) y⟩
        · rintro ⟨x, y⟩
          rcases y.inv with rfl | ⟨_, y⟩
          · have := x.le hd; omega
          · exact ⟨x, y⟩
      · rw [if_neg h3]
        obtain rfl : a = b := by omega
        exact ⟨fun x => ⟨x, x⟩, fun x => x.1⟩
theorem com_dom {par : Nat → Nat} (hd : Dn par) {Dm : Nat → Nat → Prop} (hle : ∀ d u, Dm d u → d ≤ u) (d : Nat) : ∀ (k a b : Nat), (∀ u, 0 < u → u ≤ max a b → Dm d u → d ≠ u → Dm d (par u)) → Dm d a → Dm d b → Dm d (com par k a b)
  | 0, _, _, _, ha, _ => ha
  | k + 1, a, b, hB, ha, hb => by
    rw [com]
    by_cases h1 : b < a
    · rw [if_pos h1]
      have h2 := hd a (by omega)
      refine com_dom hd hle d k (par a) b (fun u h0 hu => hB u h0 (by omega)) (hB a (by omega) (by omega) ha (fun e => ?_)) hb
      have := hle d b hb
      omega
    · rw [if_neg h1]
      by_cases h3 : a < b
      · rw [if_pos h3]
        have h2 := hd b (by omega)
        refine com_dom hd hle d k a (par b) (fun u h0 hu => hB u h0 (by omega)) ha (hB b (by omega) (by omega) hb (fun e => ?_))
        have := hle d a ha
        omega
      · rw [if_neg h3]; exact ha
/-- The nearest one of several: of p and those behind it. -/
def nca (par : Nat → Nat) (K p : Nat) (ps : List Nat) : Nat := ps.foldl (com par K) p
theorem com_le {par : Nat → Nat} (hd : Dn par) (K a b : Nat) (h : a + b < K) : com par K a b ≤ a ∧ com par K a b ≤ b := by
  have := (com_an hd K a b h (com par K a b)).1 .refl
  exact ⟨this.1.le hd, this.2.le hd⟩
theorem nca_an {par : Nat → Nat} (hd : Dn par) (m : Nat) : ∀ (ps : List Nat) (p : Nat), p < m → (∀ q ∈ ps, q < m) → ∀ z, An par z (nca par (2 * m) p ps) ↔ An par z p ∧ ∀ q ∈ ps, An par z q
  | [], p, _, _, z => by simp [nca]
  | q :: ps, p, hp, hq, z => by
    have h1 := hq q List.mem_cons_self
    have h2 := com_le hd (2 * m) p q (by omega)
    have ih := nca_an hd m ps (com par (2 * m) p q) (by omega) (fun x hx => hq x (List.mem_cons_of_mem _ hx)) z
    unfold nca at ih ⊢
    rw [List.foldl_cons, ih, com_an hd (2 * m) p q (by omega) z]
    constructor
    · rintro ⟨⟨x, y⟩, h⟩
      refine ⟨x, fun w hw => ?_⟩
      rcases List.mem_cons.1 hw with rfl | hw
      · exact y
      · exact h w hw
    · rintro ⟨x, h⟩
      exact ⟨⟨x, h q List.mem_cons_self⟩, fun w hw => h w (List.mem_cons_of_mem _ hw)⟩
theorem nca_dom {par : Nat → Nat} (hd : Dn par) {Dm : Nat → Nat → Prop} (hle : ∀ d u, Dm d u → d ≤ u) (m i d : Nat) (hi : i ≤ m) (hB : ∀ u, 0 < u → u < i → Dm d u → d ≠ u → Dm d (par u)) : ∀ (ps : List Nat) (p : Nat), p < i → (∀ q ∈ ps, q < i) → Dm d p → (∀ q ∈ ps, Dm d q) → Dm d (nca par (2 * m) p ps)
  | [], p, _, _, h, _ => h
  | q :: ps, p, hp, hq, h, hs => by
    have h1 := hq q List.mem_cons_self
    have h2 := com_le hd (2 * m) p q (by omega)
    have h3 := com_dom hd hle d (2 * m) p q (fun u h0 hu => hB u h0 (by omega)) h (hs q List.mem_cons_self)
    exact nca_dom hd hle m i d hi hB ps (com par (2 * m) p q) (by omega) (fun x hx => hq x (List.mem_cons_of_mem _ hx)) h3 (fun x hx => hs x (List.mem_cons_of_mem _ hx))

/-! ### one parent is turned -/
def upd (par : Nat → Nat) (b v : Nat) : Nat → Nat := fun u => if u = b then v else par u
theorem upd_dn {par : Nat → Nat} (hd : Dn par) {b v : Nat} (hv : v < b) : Dn (upd par b v) := by
  intro u h0
  unfold upd
  split
  · omega
  · exact hd u h0
theorem an_upd_lt {par : Nat → Nat} (hd : Dn par) {b v z : Nat} (hv : v < b) {u : Nat} (hu : u < b) : An (upd par b v) z u ↔ An par z u := by
  constructor
  · intro h
    induction h with
    | refl => exact .refl
    | @up u h0 _ ih =>
      have e : upd par b v u = par u := by unfold upd; rw [if_neg (by omega)]
      rw [e] at ih
      exact .up h0 (ih (by have := hd u h0; omega))
  · intro h
    induction h with
    | refl => exact .refl
    | @up u h0 _ ih =>
      have e : upd par b v u = par u := by unfold upd; rw [if_neg (by omega)]
      exact .up h0 (by rw [e]; exact ih (by have := hd u h0; omega))
theorem an_upd_off {par : Nat → Nat} {b v z u : Nat} (hu : ¬ An par b u) : An (upd par b v) z u ↔ An par z u := by
  constructor
  · intro h
    induction h with
    | refl => exact .refl
    | @up u h0 _ ih =>
      have hb : u ≠ b := fun e => hu (e ▸ .refl)
      have e : upd par b v u = par u := by unfold upd; rw [if_neg hb]
      rw [e] at ih
      exact .up h0 (ih (fun h => hu (.up h0 h)))
  · intro h
    induction h with
    | refl => exact .refl
    | @up u h0 _ ih =>
      have hb : u ≠ b := fun e => hu (e ▸ .refl)
      have e : upd par b v u = par u := by unfold upd; rw [if_neg hb]
      exact .up h0 (by rw [e]; exact ih (fun h => hu (.up h0 h)))
theorem an_upd_at {par : Nat → Nat} (hd : Dn par) {b v z : Nat} (h0 : 0 < b) (hv : v < b) : An (upd par b v) z b ↔ z = b ∨ An par z v := by
  have e : upd par b v b = v := by unfold upd; rw [if_pos rfl]
  constructor
  · intro h
    rcases h.inv with h | ⟨_, h⟩
    · exact .inl h
    · rw [e] at h; exact .inr ((an_upd_lt hd hv hv).1 h)
  · rintro (rfl | h)
    · exact .refl
    · exact .up h0 (by rw [e]; exact (an_upd_lt hd hv hv).2 h)
theorem an_upd_on {par : Nat → Nat} (hd : Dn par) {b v z u : Nat} (h0 : 0 < b) (hv : v < b) (hu : An par b u) : An (upd par b v) z u ↔ (b ≤ z ∧ An par z u) ∨ An par z v := by
  induction hu with
  | refl =>
    rw [an_upd_at hd h0 hv]
    constructor
    · rintro (rfl | h)
      · exact .inl ⟨Nat.le_refl _, .refl⟩
      · exact .inr h
    · rintro (⟨h1, h2⟩ | h)
      · exact .inl (by have := h2.le hd; omega)
      · exact .inr h
  | @up u hu0 hb ih =>
    have hbu : b < u := by have := hb.le hd; have := hd u hu0; omega
    have e : upd par b v u = par u := by unfold upd; rw [if_neg (by omega)]
    constructor
    · intro h
      rcases h.inv with rfl | ⟨_, h⟩
      · exact .inl ⟨by omega, .refl⟩
      · rw [e] at h
        rcases ih.1 h with ⟨h1, h2⟩ | h
        · exact .inl ⟨h1, .up hu0 h2⟩
        · exact .inr h
    · rintro (⟨h1, h2⟩ | h)
      · rcases h2.inv with rfl | ⟨_, h2⟩
        · exact .refl
        · exact .up hu0 (by rw [e]; exact ih.2 (.inl ⟨h1, h2⟩))
      · exact .up hu0 (by rw [e]; exact ih.2 (.inr h))
/-- Where the new parent stands on the old one's chain, chains only lose. -/
theorem an_upd_le {par : Nat → Nat} (hd : Dn par) {b v z u : Nat} (h0 : 0 < b) (hv : An par v (par b)) (h : An (upd par b v) z u) : An par z u := by
  have hvb : v < b := by have := hv.le hd; have := hd b h0; omega
  by_cases hu : An par b u
  · rcases (an_upd_on hd h0 hvb hu).1 h with ⟨_, h⟩ | h
    · exact h
    · exact (h.trans hv).trans ((An.up h0 .refl : An par (par b) b).trans hu)
  · exact (an_upd_off hu).1 h
end Go.Proofs.Ytnmeomdjhjgnfaa.X
namespace Go.Proofs.Ytnmeomdjhjgnfaa.X
/-! ### sweeps -/
/-- m blocks by their places in the order; P: the places from which each one comes; Dm: who dominates. -/
structure Gr (m : Nat) (P : Nat → List Nat) (Dm : Nat → Nat → Prop) : Prop where
  inb : ∀ u, u < m → ∀ p ∈ P u, p < m
  fwd : ∀ u, 0 < u → u < m → ∃ s, s ∈ P u ∧ s < u
  dle : ∀ d u, Dm d u → d ≤ u
  dstep : ∀ d u, 0 < u → u < m → Dm d u → d ≠ u → ∀ p ∈ P u, Dm d p
/-- What holds while a later sweep goes, the places below i done. -/
structure Swp (m : Nat) (P : Nat → List Nat) (Dm : Nat → Nat → Prop) (i : Nat) (par : Nat → Nat) : Prop where
  dn : Dn par
  dom : ∀ u, 0 < u → u < m → ∀ d, Dm d u → d ≠ u → Dm d (par u)
  low : ∀ u, 0 < u → u < m → ∀ z, (∀ p ∈ P u, An par z p) → z ≤ par u
  old : ∀ u, 0 < u → u < m → ∃ s, s ∈ P u ∧ s < u ∧ ((u < i → An par (par u) s) ∧ (An par (par u) s ∨ (par u < i ∧ ∀ z, An par z s → z ≤ par u → An par z (par u))))
theorem Swp.step {m : Nat} {P : Nat → List Nat} {Dm : Nat → Nat → Prop} (G : Gr m P Dm) {i : Nat} {par : Nat → Nat} (h : Swp m P Dm i par) (h0 : 0 < i) (hm : i < m) {p : Nat} {ps : List Nat} (hP : P i = p :: ps) :
    nca par (2 * m) p ps ≤ par i ∧ Swp m P Dm (i + 1) (upd par i (nca par (2 * m) p ps)) := by
  obtain ⟨v, hv⟩ : ∃ v, nca par (2 * m) p ps = v := ⟨_, rfl⟩
  have hp : p < m := G.inb i hm p (by rw [hP]; exact List.mem_cons_self)
  have hps : ∀ q ∈ ps, q < m := fun q hq => G.inb i hm q (by rw [hP]; exact List.mem_cons_of_mem _ hq)
  have hvA : ∀ z, An par z v ↔ ∀ q ∈ P i, An par z q := by
    intro z
    rw [← hv, nca_an h.dn m ps p hp hps z, hP]
    simp
  have hvv := (hvA v).1 .refl
  rw [hv]
  have hlow : v ≤ par i := h.low i h0 hm v hvv
  have hvi : v < i := by have := h.dn i h0; omega
  have hvp : An par v (par i) := by
    obtain ⟨s, hs, _, _, ho⟩ := h.old i h0 hm
    rcases ho with ho | ⟨_, ho⟩
    · exact (hvv s hs).linear h.dn ho hlow
    · exact ho v (hvv s hs) hlow
  have hle : ∀ {z u}, An (upd par i v) z u → An par z u := fun hz => an_upd_le h.dn h0 hvp hz
  have e : ∀ u, u ≠ i → upd par i v u = par u := fun u hu => by unfold upd; rw [if_neg hu]
  have ei : upd par i v i = v := by unfold upd; rw [if_pos rfl]
  refine ⟨hlow, upd_dn h.dn hvi, fun u hu0 hum d hd hne => ?_, fun u hu0 hum z hz => ?_, fun u hu0 hum => ?_⟩
  · by_cases hu : u = i
    · subst hu
      rw [ei, ← hv]
      exact nca_dom h.dn G.dle m m d (Nat.le_refl _) (fun u h0 hm hd hne => h.dom u h0 hm d hd hne) ps p hp hps (G.dstep d u h0 hm hd hne p (by rw [hP]; exact List.mem_cons_self)) (fun q hq => G.dstep d u h0 hm hd hne q (by rw [hP]; exact List.mem_cons_of_mem _ hq))
    · rw [e u hu]; exact h.dom u hu0 hum d hd hne
  · by_cases hu : u = i
    · subst hu
      rw [ei]
      exact ((hvA z).2 (fun q hq => hle (hz q hq))).le h.dn
    · rw [e u hu]; exact h.low u hu0 hum z (fun q hq => hle (hz q hq))
  · obtain ⟨s, hs, hsu, ho1, ho2⟩ := h.old u hu0 hum
    rcases Nat.lt_trichotomy u i with hu | hu | hu
    · have h1 : An (upd par i v) (par u) s := (an_upd_lt h.dn hvi (by omega)).2 (ho1 hu)
      rw [e u (by omega)]
      exact ⟨s, hs, hsu, fun _ => h1, .inl h1⟩
    · subst hu
      rw [ei]
      have h1 : An (upd par u v) v s := (an_upd_lt h.dn hvi hsu).2 (hvv s hs)
      exact ⟨s, hs, hsu, fun _ => h1, .inl h1⟩
    · rw [e u (by omega)]
      refine ⟨s, hs, hsu, fun hlt => by omega, ?_⟩
      rcases ho2 with ho | ⟨ho, hq⟩
      · by_cases hb : An par i s
        · by_cases hge : i ≤ par u
          · exact .inl ((an_upd_on h.dn h0 hvi hb).2 (.inl ⟨hge, ho⟩))
          · refine .inr ⟨by omega, fun z hz hzo => ?_⟩
            have hzv : An par z v := by
              rcases (an_upd_on h.dn h0 hvi hb).1 hz with ⟨h1, _⟩ | h1
              · omega
              · exact h1
            have hoi : An par (par u) i := ho.linear h.dn hb (by omega)
            have hop : An par (par u) (par i) := by
              rcases hoi.inv with h1 | ⟨_, h1⟩
              · omega
              · exact h1
            have h1 : An par z (par u) := (hzv.trans hvp).linear h.dn hop hzo
            exact (an_upd_lt h.dn hvi (by omega)).2 h1
        · exact .inl ((an_upd_off hb).2 ho)
      · exact .inr ⟨by omega, fun z hz hzo => (an_upd_lt h.dn hvi ho).2 (hq z (hle hz) hzo)⟩
/-- A sweep's end is the next one's start. -/
theorem Swp.again {m : Nat} {P : Nat → List Nat} {Dm : Nat → Nat → Prop} {par : Nat → Nat} (h : Swp m P Dm m par) : Swp m P Dm 1 par :=
  ⟨h.dn, h.dom, h.low, fun u h0 hm => by
    obtain ⟨s, hs, hsu, h1, _⟩ := h.old u h0 hm
    exact ⟨s, hs, hsu, fun hlt => by omega, .inl (h1 hm)⟩⟩
/-- What holds while the first sweep goes. -/
structure Fst (m : Nat) (P : Nat → List Nat) (Dm : Nat → Nat → Prop) (i : Nat) (par : Nat → Nat) : Prop where
  dn : Dn par
  dom : ∀ u, 0 < u → u < i → ∀ d, Dm d u → d ≠ u → Dm d (par u)
  low : ∀ u, 0 < u → u < i → ∀ z, (∀ p ∈ P u, p < u → An par z p) → z ≤ par u
  old : ∀ u, 0 < u → u < i → ∃ s, s ∈ P u ∧ s < u ∧ An par (par u) s
theorem Fst.start (m : Nat) (P : Nat → List Nat) (Dm : Nat → Nat → Prop) : Fst m P Dm 1 (fun _ => 0) :=
  ⟨fun u h => h, fun u h0 h1 => by omega, fun u h0 h1 => by omega, fun u h0 h1 => by omega⟩
theorem Fst.step {m : Nat} {P : Nat → List Nat} {Dm : Nat → Nat → Prop} (G : Gr m P Dm) {i : Nat} {par : Nat → Nat} (h : Fst m P Dm i par) (h0 : 0 < i) (hm : i < m) {p : Nat} {ps : List Nat} (hP : (P i).filter (fun q => decide (q < i)) = p :: ps) :
    Fst m P Dm (i + 1) (upd par i (nca par (2 * m) p ps)) := by
  obtain ⟨v, hv⟩ : ∃ v, nca par (2 * m) p ps = v := ⟨_, rfl⟩
  have hmem : ∀ q, q ∈ p :: ps ↔ q ∈ P i ∧ q < i := fun q => by rw [← hP, List.mem_filter]; simp
  have hp : p ∈ P i ∧ p < i := (hmem p).1 List.mem_cons_self
  have hps : ∀ q ∈ ps, q ∈ P i ∧ q < i := fun q hq => (hmem q).1 (List.mem_cons_of_mem _ hq)
  have hvA : ∀ z, An par z v ↔ ∀ q ∈ P i, q < i → An par z q := by
    intro z
    rw [← hv, nca_an h.dn m ps p (by omega) (fun q hq => by have := (hps q hq).2; omega) z]
    constructor
    · rintro ⟨h1, h2⟩ q hq hlt
      rcases List.mem_cons.1 ((hmem q).2 ⟨hq, hlt⟩) with rfl | hq
      · exact h1
      · exact h2 q hq
    · exact fun hh => ⟨hh p hp.1 hp.2, fun q hq => hh q (hps q hq).1 (hps q hq).2⟩
  have hvv := (hvA v).1 .refl
  have hvi : v < i := by have := (hvv p hp.1 hp.2).le h.dn; omega
  have e : ∀ u, u ≠ i → upd par i v u = par u := fun u hu => by unfold upd; rw [if_neg hu]
  have ei : upd par i v i = v := by unfold upd; rw [if_pos rfl]
  rw [hv]
  refine ⟨upd_dn h.dn hvi, fun u hu0 hum d hd hne => ?_, fun u hu0 hum z hz => ?_, fun u hu0 hum => ?_⟩
  · by_cases hu : u = i
    · subst hu
      rw [ei, ← hv]
      exact nca_dom h.dn G.dle m u d (by omega) (fun u' h0 hm' hd hne => h.dom u' h0 hm' d hd hne) ps p hp.2 (fun q hq => (hps q hq).2) (G.dstep d u h0 hm hd hne p hp.1) (fun q hq => G.dstep d u h0 hm hd hne q (hps q hq).1)
    · rw [e u hu]; exact h.dom u hu0 (by omega) d hd hne
  · by_cases hu : u = i
    · subst hu
      rw [ei]
      exact ((hvA z).2 (fun q hq hlt => (an_upd_lt h.dn hvi hlt).1 (hz q hq hlt))).le h.dn
    · rw [e u hu]; exact h.low u hu0 (by omega) z (fun q hq hlt => (an_upd_lt h.dn hvi (by omega)).1 (hz q hq hlt))
  · by_cases hu : u = i
    · subst hu
      obtain ⟨s, hs, hsu⟩ := G.fwd u h0 hm
      rw [ei]
      exact ⟨s, hs, hsu, (an_upd_lt h.dn hvi hsu).2 (hvv s hs hsu)⟩
    · obtain ⟨s, hs, hsu, h1⟩ := h.old u hu0 (by omega)
      rw [e u hu]
      exact ⟨s, hs, hsu, (an_upd_lt h.dn hvi (by omega)).2 h1⟩
theorem Fst.swp {m : Nat} {P : Nat → List Nat} {Dm : Nat → Nat → Prop} {par : Nat → Nat} (h : Fst m P Dm m par) : Swp m P Dm 1 par :=
  ⟨h.dn, h.dom, fun u h0 hm z hz => h.low u h0 hm z (fun p hp _ => hz p hp), fun u h0 hm => by
    obtain ⟨s, hs, hsu, h1⟩ := h.old u h0 hm
    exact ⟨s, hs, hsu, fun hlt => by omega, .inl h1⟩⟩
end Go.Proofs.Ytnmeomdjhjgnfaa.X
end
section
set_option linter.unusedSimpArgs false
set_option linter.unusedVariables false
namespace Go.Proofs.Ytnmeomdjhjgnfaa.X
open Go.RowKit Go.Proofs.YtnmeomdjhjgnfaaW.PrintWords Go.Proofs.YtnmeomdjhjgnfaaW.PrintLast Go.Proofs.YtnmeomdjhjgnfaaW.PrintMore

/-- More rounds tell the same. -/
theorem up {α : Type} {f : Nat → Option α} (h : ∀ k, LeO (f k) (f (k + 1))) {k m : Nat} (hm : k ≤ m) {r : α} (hr : f k = some r) : f m = some r := by
  obtain ⟨d, rfl⟩ := Nat.exists_eq_add_of_le hm
  clear hm
  induction d with
  | zero => exact hr
  | succ d ih => exact h (k + d) r ih
theorem w64 {x : Int} (h0 : -9223372036854775808 ≤ x) (h1 : x ≤ 9223372036854775807) : wrap64 x = x := by unfold wrap64; omega

/-! ### an edge -/
def eB (g : List (List Int)) (a b : Int) : Bool := decide (0 ≤ a ∧ a < g.length ∧ 0 ≤ b ∧ b < g.length) && (rd_L1 g a).contains b
theorem edge_l0 (g : List (List Int)) (a b : Int) (ha : 0 ≤ a ∧ a < g.length) (hl : (rd_L1 g a).length ≤ 1000000) : ∀ (d : Nat) (i : Nat), i + d = (rd_L1 g a).length →
    jacquardref02_Edge.l0 (d + 1) g a b i = some (((rd_L1 g a).drop i).contains b) := by
  intro d
  induction d with
  | zero =>
    intro i hi
    rw [jacquardref02_Edge.l0, if_pos ha.1, if_pos ha.2, if_neg (by omega), List.drop_of_length_le (by omega)]
    rfl
  | succ d ih =>
    intro i hi
    have hlt : i < (rd_L1 g a).length := by omega
    have hrd : rd (rd_L1 g a) i = (rd_L1 g a)[i] := by simp [rd, hlt]
    rw [jacquardref02_Edge.l0, if_pos ha.1, if_pos ha.2, if_pos (by omega), if_pos (by omega), hrd, List.drop_eq_getElem_cons hlt]
    by_cases he : (rd_L1 g a)[i] = b
    · rw [if_pos he]; simp [he]
    · rw [if_neg he, w64 (by omega) (by omega), show ((i : Int) + 1) = ((i + 1 : Nat) : Int) from by omega, ih (i + 1) (by omega)]
      have : (b == (rd_L1 g a)[i]) = false := by simpa using fun h : b = _ => he h.symm
      rw [List.contains_cons, this, Bool.false_or]
theorem edge_some (g : List (List Int)) (hg : okG g = true) (a b : Int) {k : Nat} (hk : 1000003 ≤ k) : jacquardref02_Edge.f k g a b = some (eB g a b) := by
  obtain ⟨k, rfl⟩ := Nat.exists_eq_add_of_le hk
  have e : 1000003 + k = (1000002 + k) + 1 := by omega
  unfold jacquardref02_Edge.f
  rw [e]
  have no : ∀ {x : Bool}, x = true → (¬ (0 ≤ a ∧ a < (g.length : Int) ∧ 0 ≤ b ∧ b < (g.length : Int))) → jacquardref02_Edge.j0 (1000002 + k + 1) g a b x = some (eB g a b) := by
    intro x hx hn
    rw [jacquardref02_Edge.j0, if_pos hx]
    unfold eB
    rw [decide_eq_false hn, Bool.false_and]
  by_cases h0 : a < 0
  · rw [if_pos h0]; exact no rfl (by omega)
  · rw [if_neg h0]
    by_cases h1 : a ≥ (g.length : Int)
    · rw [if_pos h1]; exact no rfl (by omega)
    · rw [if_neg h1]
      by_cases h2 : b < 0
      · rw [if_pos h2]; exact no rfl (by omega)
      · rw [if_neg h2]
        by_cases h3 : b ≥ (g.length : Int)
        · exact no (decide_eq_true h3) (by omega)
        · rw [decide_eq_false h3, jacquardref02_Edge.j0, if_neg (by decide)]
          have hl : (rd_L1 g a).length ≤ 1000000 := by
            have : rd_L1 g a = g[a.toNat]'(by omega) := by
              unfold rd_L1
              rw [List.getD_eq_getElem?_getD, List.getElem?_eq_getElem (by omega)]; rfl
            rw [this]
            exact (okG_len hg).2 _ (List.getElem_mem _)
          have h := edge_l0 g a b (by omega) hl (rd_L1 g a).length 0 (by omega)
          have h2 := up (f := fun k => jacquardref02_Edge.l0 k g a b ((0 : Nat) : Int)) (fun k => (jacquardref02_Edge.mono_l k).2 _ _ _ _) (m := 1000002 + k) (by omega) h
          have h3 : jacquardref02_Edge.l0 (1000002 + k) g a b 0 = some (((rd_L1 g a).drop 0).contains b) := h2
          rw [h3]
          unfold eB
          rw [decide_eq_true (by omega), Bool.true_and, List.drop_zero]
theorem eB_iff {g : List (List Int)} {a b : Int} : eB g a b = true ↔ 0 ≤ a ∧ a < g.length ∧ 0 ≤ b ∧ b < g.length ∧ b ∈ rd_L1 g a := by
  unfold eB
  rw [Bool.and_eq_true, decide_eq_true_eq, List.contains_iff_mem]
  constructor
  · rintro ⟨⟨h1, h2, h3, h4⟩, h5⟩; exact ⟨h1, h2, h3, h4, h5⟩
  · rintro ⟨h1, h2, h3, h4, h5⟩; exact ⟨⟨h1, h2, h3, h4⟩, h5⟩
/-! ### the edges' list -/
theorem mem_edgesFrom (rows : List (List Int)) : ∀ (i : Nat) (e : Int × Int), e ∈ edgesFrom i rows ↔ ∃ j : Nat, j < rows.length ∧ e.1 = ((i + j : Nat) : Int) ∧ e.2 ∈ rd_L1 rows j := by
  induction rows with
  | nil => intro i e; simp [edgesFrom]
  | cons r rows ih =>
    intro i e
    simp only [edgesFrom, List.mem_append, List.mem_map, ih, List.length_cons]
    constructor
    · rintro (⟨b, hb, rfl⟩ | ⟨j, hj, h1, h2⟩)
      · exact ⟨0, by omega, by simp, by simpa [rd_L1] using hb⟩
      · refine ⟨j + 1, by omega, by omega, ?_⟩
        simpa [rd_L1] using h2
    · rintro ⟨j, hj, h1, h2⟩
      cases j with
      | zero => exact .inl ⟨e.2, by simpa [rd_L1] using h2, by rw [Prod.ext_iff]; exact ⟨by simpa using h1.symm, rfl⟩⟩
      | succ j => exact .inr ⟨j, by omega, by omega, by simpa [rd_L1] using h2⟩
theorem rd_clean (g : List (List Int)) (j : Nat) (h : j < g.length) : rd_L1 (cleanL g) j = keptL (rd_L1 g j) g.length := by
  simp [rd_L1, cleanL, h]
theorem mem_edgesL (g : List (List Int)) (a b : Int) : (a, b) ∈ edgesL g ↔ eB g a b = true := by
  unfold edgesL
  rw [mem_edgesFrom, eB_iff]
  constructor
  · rintro ⟨j, hj, h1, h2⟩
    rw [cleanL_length] at hj
    rw [rd_clean g j hj, mem_keptL] at h2
    simp only [Nat.zero_add] at h1
    subst h1
    exact ⟨by omega, by omega, h2.2.1, h2.2.2, h2.1⟩
  · rintro ⟨h1, h2, h3, h4, h5⟩
    obtain ⟨j, rfl⟩ := Int.eq_ofNat_of_zero_le h1
    refine ⟨j, by rw [cleanL_length]; omega, by simp, ?_⟩
    rw [rd_clean g j (by omega), mem_keptL]
    exact ⟨h5, h3, h4⟩

/-! ### Preds' rows -/
theorem preds_row (es : List (Int × Int)) : ∀ (rows : List (List Int)) (b : Nat), b < rows.length → (∀ e ∈ es, 0 ≤ e.2) →
    (es.foldl predStep rows).getD b [] = rows.getD b [] ++ (es.filter fun e => e.2 == (b : Int)).map (·.1) := by
  induction es with
  | nil => intro rows b _ _; simp
  | cons e es ih =>
    intro rows b hb he
    rw [List.foldl_cons, ih _ b (by simpa [predStep] using hb) (fun e' h => he e' (List.mem_cons_of_mem _ h))]
    have h0 := he e List.mem_cons_self
    by_cases h : e.2 = b
    · have h2 : e.2.toNat = b := by omega
      simp only [predStep, List.filter_cons, h, beq_self_eq_true, if_true, List.map_cons, Int.toNat_natCast]
      rw [List.getD_eq_getElem?_getD, List.getElem?_set_self (by omega)]
      simp
    · have h2 : e.2.toNat ≠ b := by omega
      have h3 : (e.2 == (b : Int)) = false := by simpa using h
      simp only [predStep, List.filter_cons, h3]
      rw [List.getD_eq_getElem?_getD, List.getElem?_set_ne (by omega), ← List.getD_eq_getElem?_getD]
      simp
theorem rd_preds (g : List (List Int)) (b : Nat) (hb : b < g.length) : rd_L1 (predsL g) b = ((edgesL g).filter fun e => e.2 == (b : Int)).map (·.1) := by
  have := preds_row (edgesL g) (List.replicate g.length []) b (by simpa using hb) (fun e he => ((eB_iff.1 ((mem_edgesL g e.1 e.2).1 he)).2.2.1))
  unfold rd_L1 predsL
  rw [Int.toNat_natCast, this]
  simp [List.getD_eq_getElem?_getD, List.getElem?_replicate, hb]
theorem predsL_len (g : List (List Int)) : (predsL g).length = g.length := by
  have key : ∀ (es : List (Int × Int)) (rows : List (List Int)), (es.foldl predStep rows).length = rows.length := by
    intro es
    induction es with
    | nil => intro rows; rfl
    | cons e es ih => intro rows; rw [List.foldl_cons, ih]; simp [predStep]
  unfold predsL; rw [key]; simp
theorem mem_preds (g : List (List Int)) (a b : Int) (hb : 0 ≤ b ∧ b < g.length) : a ∈ rd_L1 (predsL g) b ↔ eB g a b = true := by
  obtain ⟨j, rfl⟩ := Int.eq_ofNat_of_zero_le hb.1
  rw [rd_preds g j (by omega), List.mem_map, ← mem_edgesL]
  constructor
  · rintro ⟨e, he, rfl⟩
    obtain ⟨h1, h2⟩ := List.mem_filter.1 he
    have h3 : e.2 = (j : Int) := by simpa using h2
    rw [← h3]; exact h1
  · intro h
    exact ⟨(a, (j : Int)), List.mem_filter.2 ⟨h, by simp⟩, rfl⟩
theorem okG_preds (g : List (List Int)) (hn : g.length ≤ 1000) : okG (predsL g) = true := by
  unfold okG
  rw [predsL_len, Bool.and_eq_true, decide_eq_true_eq, List.all_eq_true]
  refine ⟨by omega, fun r hr => decide_eq_true ?_⟩
  have h1 := preds_len (edgesL g) (List.replicate g.length []) 0 (fun r hr => by rw [List.eq_of_mem_replicate hr]; simp) r (.inr hr)
  have h2 := edgesL_length g
  have h3 : g.length * g.length ≤ 1000 * 1000 := Nat.mul_le_mul hn hn
  omega
theorem Preds_some (g : List (List Int)) (hg : okG g = true) : graph_Preds.f g = some (predsL g) := by unfold graph_Preds.f; rw [if_pos hg]

/-! ### a graph of plain numbers -/
structure MadeG (g : List (List Int)) : Prop where
  pos : 1 ≤ g.length
  few : g.length ≤ 10
  rows : ∀ r ∈ g, r.length ≤ 3 ∧ ∀ b ∈ r, 0 ≤ b ∧ b < g.length
theorem MadeG.ok {g : List (List Int)} (h : MadeG g) : okG g = true := by
  unfold okG
  rw [Bool.and_eq_true, decide_eq_true_eq, List.all_eq_true]
  exact ⟨by have := h.few; omega, fun r hr => decide_eq_true (by have := (h.rows r hr).1; omega)⟩
theorem made_l1 (s : List Int) (n : Int) (hs : s.length ≤ 17592186044416) (h1 : 1 ≤ n) (h2 : n ≤ 10) (x4 : List (List Int)) (x5 : Int) (h5 : 0 ≤ x5 ∧ x5 < n) (hx4 : x4.length ≤ 10) (P : List (List Int) → Prop)
    (H : ∀ row : List Int, row.length ≤ 3 → (∀ b ∈ row, 0 ≤ b ∧ b < n) → ∃ k r, jacquardref02_Made.l0 k s n (x4 ++ [row]) (x5 + 1) = some r ∧ P r) :
    ∀ (e : Nat) (x6 : List Int) (x7 : Int), 0 ≤ x7 → x7 + e = 4 → x6.length + 1 ≤ x7 → (∀ b ∈ x6, 0 ≤ b ∧ b < n) → ∃ k r, jacquardref02_Made.l1 k s n x4 x5 x6 x7 = some r ∧ P r := by
  intro e
  induction e with
  | zero =>
    intro x6 x7 h7 he hl hb
    obtain ⟨k, r, hr, hP⟩ := H x6 (by omega) hb
    refine ⟨k + 1, r, ?_, hP⟩
    rw [jacquardref02_Made.l1, if_neg (by omega), if_pos (by omega), w64 (by omega) (by omega)]
    exact hr
  | succ e ih =>
    intro x6 x7 h7 he hl hb
    have e1 : wrap64 (wrap64 (3 * x5) + x7) = 3 * x5 + x7 := by rw [w64 (x := 3 * x5) (by omega) (by omega), w64 (by omega) (by omega)]
    have e2 : wrap64 (n + 3) = n + 3 := w64 (by omega) (by omega)
    have e3 : wrap64 (x7 + 1) = x7 + 1 := w64 (by omega) (by omega)
    by_cases ha : 3 * x5 + x7 < (s.length : Int)
    · have hm1 := Int.tmod_lt_of_pos (rd s (3 * x5 + x7)) (show 0 < n + 3 by omega)
      have hm2 := Int.lt_tmod_of_pos (rd s (3 * x5 + x7)) (show 0 < n + 3 by omega)
      have e4 : wrap64 (Int.tmod (rd s (3 * x5 + x7)) (n + 3) + n) = Int.tmod (rd s (3 * x5 + x7)) (n + 3) + n := w64 (by omega) (by omega)
      have e5 : wrap64 (Int.tmod (rd s (3 * x5 + x7)) (n + 3) + n + 3) = Int.tmod (rd s (3 * x5 + x7)) (n + 3) + n + 3 := w64 (by omega) (by omega)
      have hy0 : 0 ≤ Int.tmod (Int.tmod (rd s (3 * x5 + x7)) (n + 3) + n + 3) (n + 3) := Int.tmod_nonneg _ (by omega)
      by_cases hy : Int.tmod (Int.tmod (rd s (3 * x5 + x7)) (n + 3) + n + 3) (n + 3) < n
      · obtain ⟨k, r, hr, hP⟩ := ih (x6 ++ [Int.tmod (Int.tmod (rd s (3 * x5 + x7)) (n + 3) + n + 3) (n + 3)]) (x7 + 1) (by omega) (by omega) (by rw [List.length_append]; simp; omega) (fun b hb' => by
          rcases List.mem_append.1 hb' with h | h
          · exact hb b h
          · rw [List.mem_singleton.1 h]; exact ⟨hy0, hy⟩)
        refine ⟨k + 1, r, ?_, hP⟩
        rw [jacquardref02_Made.l1, if_pos (by omega), e1, e2, if_pos ha, if_pos (by omega), if_neg (by omega), e4, e5, if_pos hy, if_pos (by omega), e3]
        exact hr
      · obtain ⟨k, r, hr, hP⟩ := ih x6 (x7 + 1) (by omega) (by omega) (by omega) hb
        refine ⟨k + 1, r, ?_, hP⟩
        rw [jacquardref02_Made.l1, if_pos (by omega), e1, e2, if_pos ha, if_pos (by omega), if_neg (by omega), e4, e5, if_neg hy, e3]
        exact hr
    · obtain ⟨k, r, hr, hP⟩ := ih x6 (x7 + 1) (by omega) (by omega) (by omega) hb
      refine ⟨k + 1, r, ?_, hP⟩
      rw [jacquardref02_Made.l1, if_pos (by omega), e1, if_neg ha, e3]
      exact hr
theorem made_l0 (s : List Int) (n : Int) (hs : s.length ≤ 17592186044416) (h1 : 1 ≤ n) (h2 : n ≤ 10) : ∀ (d : Nat) (x4 : List (List Int)) (x5 : Int), x5 + d = n → (x4.length : Int) = x5 → (∀ r ∈ x4, r.length ≤ 3 ∧ ∀ b ∈ r, 0 ≤ b ∧ b < n) →
    ∃ k r, jacquardref02_Made.l0 k s n x4 x5 = some r ∧ (r.length : Int) = n ∧ ∀ row ∈ r, row.length ≤ 3 ∧ ∀ b ∈ row, 0 ≤ b ∧ b < n := by
  intro d
  induction d with
  | zero =>
    intro x4 x5 h h4 hr
    exact ⟨1, x4, by rw [jacquardref02_Made.l0, if_neg (by omega)], by omega, hr⟩
  | succ d ih =>
    intro x4 x5 h h4 hr
    obtain ⟨k, r, hk, hP⟩ := made_l1 s n hs h1 h2 x4 x5 (by omega) (by omega) (fun r => (r.length : Int) = n ∧ ∀ row ∈ r, row.length ≤ 3 ∧ ∀ b ∈ row, 0 ≤ b ∧ b < n) (fun row hl hb =>
      ih (x4 ++ [row]) (x5 + 1) (by omega) (by rw [List.length_append]; simp; omega) (fun r' hr' => by
        rcases List.mem_append.1 hr' with h | h
        · exact hr r' h
        · rw [List.mem_singleton.1 h]; exact ⟨hl, hb⟩)) 3 [] 1 (by omega) (by omega) (by simp) (fun b hb => by cases hb)
    exact ⟨k + 1, r, by rw [jacquardref02_Made.l0, if_pos (by omega)]; exact hk, hP⟩
theorem made_some (s : List Int) (hs : s.length * 8 ≤ 140737488351232) : ∃ k g, jacquardref02_Made.f k s = some g ∧ MadeG g := by
  have key : ∀ n : Int, 1 ≤ n → n ≤ 10 → ∃ k g, jacquardref02_Made.j0 k s n = some g ∧ MadeG g := by
    intro n h1 h2
    obtain ⟨k, r, hk, hl, hr⟩ := made_l0 s n (by omega) h1 h2 n.toNat [] 0 (by omega) rfl (fun r hr => by cases hr)
    exact ⟨k + 1, r, by rw [jacquardref02_Made.j0]; exact hk, ⟨by omega, by omega, fun row h => by rw [hl]; exact hr row h⟩⟩
  by_cases h : (s.length : Int) > 0
  · have hm1 := Int.tmod_lt_of_pos (rd s 0) (show (0 : Int) < 10 by omega)
    have hm2 := Int.lt_tmod_of_pos (rd s 0) (show (0 : Int) < 10 by omega)
    have e4 : wrap64 (Int.tmod (rd s 0) 10 + 10) = Int.tmod (rd s 0) 10 + 10 := w64 (by omega) (by omega)
    have hy0 : 0 ≤ Int.tmod (Int.tmod (rd s 0) 10 + 10) 10 := Int.tmod_nonneg _ (by omega)
    have hy1 := Int.tmod_lt_of_pos (Int.tmod (rd s 0) 10 + 10) (show (0 : Int) < 10 by omega)
    obtain ⟨k, g, hk, hg⟩ := key (wrap64 (1 + Int.tmod (Int.tmod (rd s 0) 10 + 10) 10)) (by rw [w64 (by omega) (by omega)]; omega) (by rw [w64 (by omega) (by omega)]; omega)
    refine ⟨k, g, ?_, hg⟩
    unfold jacquardref02_Made.f
    rw [if_pos h, if_pos (by omega), e4]
    exact hk
  · obtain ⟨k, g, hk, hg⟩ := key 1 (by omega) (by omega)
    refine ⟨k, g, ?_, hg⟩
    unfold jacquardref02_Made.f
    rw [if_neg h]
    exact hk
/-- The numbers of the blocks. -/
structure Nm (o : List Int) (n : Nat) (num : List Int) : Prop where
  len : num.length = n
  on : ∀ i, i < o.length → rd num (at_ o i) = i
  off : ∀ x, 0 ≤ x → x < (n : Int) → x ∉ o → rd num x = -1
/-- What the list of parents holds when the places below i have one. -/
structure Ot (o : List Int) (n i : Nat) (par : Nat → Nat) (out : List Int) : Prop where
  len : out.length = n
  on : ∀ j, 0 < j → j < i → rd out (at_ o j) = at_ o (par j)
  root : rd out 0 = -1
  not : ∀ j, i ≤ j → j < o.length → rd out (at_ o j) = -1
  off : ∀ x, 0 ≤ x → x < (n : Int) → x ∉ o → rd out x = -1

theorem chk_common {o : List Int} {n i : Nat} {par : Nat → Nat} {out num : List Int} (hr : ∀ x ∈ o, 0 ≤ x ∧ x < (n : Int)) (hi : i ≤ o.length) (hN : Nm o n num) (hO : Ot o n i par out) (hd : Dn par) : ∀ (K a b : Nat), a < i → b < i → a + b < K →
    graph_common.f K out num (at_ o a) (at_ o b) = some (at_ o (com par K a b))
  | 0, a, b, _, _, h => by omega
  | K + 1, a, b, ha, hb, h => by
    have h1 := hr _ (at_mem (show a < o.length by omega))
    have h2 := hr _ (at_mem (show b < o.length by omega))
    have hl := hN.len
    have hl2 := hO.len
    rw [graph_common.f, if_pos (by omega), hN.on a (by omega), hN.on b (by omega), com]
    by_cases hba : b < a
    · have h3 := hd a (by omega)
      rw [if_pos (by omega), if_pos (by omega), if_pos hba, hO.on a (by omega) ha]
      exact chk_common hr hi hN hO hd K (par a) b (by omega) hb (by omega)
    · rw [if_neg (by omega), if_neg hba]
      by_cases hab : a < b
      · have h3 := hd b (by omega)
        rw [if_pos (by omega), if_pos (by omega), if_pos hab, hO.on b (by omega) hb]
        exact chk_common hr hi hN hO hd K a (par b) ha (by omega) (by omega)
      · rw [if_neg (by omega), if_neg hab]

/-- Has a block a parent (or is it the first)? -/
def hasP (num out : List Int) (x : Int) : Bool := decide (0 ≤ rd num x) && (decide (x = 0) || decide (0 ≤ rd out x))
def encB (o : List Int) : Option Nat → Int
  | none => -1
  | some p => at_ o p
def stepB (num out : List Int) (par : Nat → Nat) (m : Nat) (best : Option Nat) (x : Int) : Option Nat :=
  if hasP num out x = true then some (match best with | none => (rd num x).toNat | some p => com par (2 * m) p (rd num x).toNat) else best
theorem hasP_iff {E : Int → Int → Prop} {o : List Int} {n i : Nat} {par : Nat → Nat} {out num : List Int} (H : Ordd E n o) (hi0 : 0 < i) (hi : i ≤ o.length) (hN : Nm o n num) (hO : Ot o n i par out) (hd : Dn par) (x : Int) (hx : 0 ≤ x ∧ x < (n : Int)) :
    hasP num out x = true ↔ ∃ j, j < i ∧ x = at_ o j := by
  unfold hasP
  rw [Bool.and_eq_true, Bool.or_eq_true, decide_eq_true_eq, decide_eq_true_eq, decide_eq_true_eq]
  constructor
  · rintro ⟨h1, h2⟩
    by_cases hm : x ∈ o
    · obtain ⟨j, hj, rfl⟩ := mem_at hm
      refine ⟨j, ?_, rfl⟩
      rcases Nat.lt_or_ge j i with h | h
      · exact h
      · exfalso
        rcases h2 with h2 | h2
        · have := at_inj H.nodup hj H.pos (h2.trans H.head.symm)
          omega
        · rw [hO.not j h hj] at h2; omega
    · rw [hN.off x hx.1 hx.2 hm] at h1; omega
  · rintro ⟨j, hj, rfl⟩
    refine ⟨by rw [hN.on j (by omega)]; omega, ?_⟩
    rcases Nat.eq_zero_or_pos j with rfl | h0
    · exact .inl H.head
    · have h3 := hd j h0
      exact .inr (by rw [hO.on j h0 hj]; exact (H.rng _ (at_mem (by omega))).1)
def contL (x3 num out : List Int) (preds : List (List Int)) (chg : Bool) (x12 : Int) (x55 : List Int) (x56 x57 : Int) (k : Nat) (x13 : Int) : Option (List Int) :=
  if 0 ≤ x12 then (if x12 < (out.length : Int) then (if rd out x12 = x13 then (graph_Idom.l3 k x3 num out preds chg x55 x56 (wrap64 (x57 + 1))) else (graph_Idom.l3 k x3 num (out.set (x12 : Int).toNat x13) preds true x55 x56 (wrap64 (x57 + 1)))) else (none)) else (none)
theorem up4 (x3 num out : List Int) (preds : List (List Int)) (chg : Bool) (x12 x13 : Int) (x55 : List Int) (x56 x57 : Int) (row : List Int) (x65 x66 : Int) (r : List Int) {k m : Nat} (hm : k ≤ m) (h : graph_Idom.l4 k x3 num out preds chg x12 x13 x55 x56 x57 row x65 x66 = some r) :
    graph_Idom.l4 m x3 num out preds chg x12 x13 x55 x56 x57 row x65 x66 = some r :=
  up (f := fun k => graph_Idom.l4 k x3 num out preds chg x12 x13 x55 x56 x57 row x65 x66) (fun k => (graph_Idom.mono_l k).2.2.2.2.1 _ _ _ _ _ _ _ _ _ _ _ _ _) hm h
theorem chk_l4 {E : Int → Int → Prop} {o : List Int} {n i : Nat} {par : Nat → Nat} {out num : List Int} (H : Ordd E n o) (hi0 : 0 < i) (hi : i ≤ o.length) (hN : Nm o n num) (hO : Ot o n i par out) (hd : Dn par) (x3 : List Int) (preds : List (List Int)) (chg : Bool) (x12 : Int) (x55 : List Int) (x56 x57 : Int) (row : List Int)
    (hrow : ∀ x ∈ row, 0 ≤ x ∧ x < (n : Int)) (hl : row.length ≤ 1000000) (r : List Int) : ∀ (d i66 : Nat) (best : Option Nat), i66 + d = row.length → (∀ p, best = some p → p < i) →
    (∃ k, contL x3 num out preds chg x12 x55 x56 x57 k (encB o ((row.drop i66).foldl (stepB num out par o.length) best)) = some r) →
    ∃ k, graph_Idom.l4 k x3 num out preds chg x12 (encB o best) x55 x56 x57 row row.length i66 = some r := by
  intro d
  induction d with
  | zero =>
    intro i66 best h66 hb hc
    obtain ⟨k, hk⟩ := hc
    rw [List.drop_of_length_le (by omega)] at hk
    refine ⟨k + 1, ?_⟩
    rw [graph_Idom.l4, if_neg (by omega)]
    exact hk
  | succ d ih =>
    intro i66 best h66 hb hc
    have hlt : i66 < row.length := by omega
    have hx : rd row i66 = row[i66] := by simp [rd, hlt]
    have hxr := hrow (rd row i66) (by rw [hx]; exact List.getElem_mem _)
    rw [List.drop_eq_getElem_cons hlt, List.foldl_cons, ← hx] at hc
    have hw : wrap64 ((i66 : Int) + 1) = ((i66 + 1 : Nat) : Int) := by unfold wrap64; omega
    have hnl := hN.len
    have hol := hO.len
    have hiff := hasP_iff H hi0 hi hN hO hd (rd row i66) hxr
    cases hp : hasP num out (rd row i66) with
    | false =>
      rw [show stepB num out par o.length best (rd row i66) = best from by unfold stepB; rw [hp]; rfl] at hc
      obtain ⟨k, hk⟩ := ih (i66 + 1) best (by omega) hb hc
      refine ⟨k + 1 + 1, ?_⟩
      rw [graph_Idom.l4, if_pos (by omega), if_pos (by omega), if_pos (by omega), if_pos hxr.1, if_pos (by omega)]
      have hj : graph_Idom.j5 (k + 1) x3 num out preds chg x12 (encB o best) (rd row i66) x55 x56 x57 row row.length i66 true = some r := by
        rw [graph_Idom.j5, if_pos rfl, hw]; exact hk
      unfold hasP at hp
      by_cases h1 : rd num (rd row i66) < 0
      · rw [if_pos h1]; exact hj
      · rw [if_neg h1]
        rw [decide_eq_true (by omega), Bool.true_and, Bool.or_eq_false_iff] at hp
        have h2 := of_decide_eq_false hp.1
        have h3 := of_decide_eq_false hp.2
        rw [if_neg h2, if_pos (by omega), decide_eq_true (by omega)]
        exact hj
    | true =>
      obtain ⟨j, hj, ej⟩ := hiff.1 hp
      have hnum : rd num (rd row i66) = j := by rw [ej]; exact hN.on j (by omega)
      have hin : ∃ k, graph_Idom.j5 k x3 num out preds chg x12 (encB o best) (rd row i66) x55 x56 x57 row row.length i66 false = some r := by
        cases best with
        | none =>
          rw [show stepB num out par o.length none (rd row i66) = some j from by unfold stepB; rw [if_pos hp, hnum]; rfl] at hc
          obtain ⟨k, hk⟩ := ih (i66 + 1) (some j) (by omega) (fun p e => by injection e with e; omega) hc
          refine ⟨k + 1, ?_⟩
          rw [graph_Idom.j5, if_neg (by decide), if_pos (show encB o none < 0 from by show (-1 : Int) < 0; omega), hw, ej]
          exact hk
        | some p =>
          rw [show stepB num out par o.length (some p) (rd row i66) = some (com par (2 * o.length) p j) from by unfold stepB; rw [if_pos hp, hnum]; rfl] at hc
          have hpi := hb p rfl
          have hcl := com_le hd (2 * o.length) p j (by omega)
          obtain ⟨k, hk⟩ := ih (i66 + 1) (some (com par (2 * o.length) p j)) (by omega) (fun q e => by injection e with e; omega) hc
          have hpr := H.rng _ (at_mem (show p < o.length by omega))
          refine ⟨(k + 2 * o.length) + 1, ?_⟩
          have hcm := up (f := fun k => graph_common.f k out num (at_ o p) (at_ o j)) (fun k => graph_common.mono _ _ _ _ _) (m := k + 2 * o.length) (by omega) (chk_common (fun x hx => H.rng x hx) hi hN hO hd (2 * o.length) p j hpi hj (by omega))
          rw [graph_Idom.j5, if_neg (by decide), if_neg (show ¬ (encB o (some p) < 0) from by show ¬ (at_ o p < 0); omega), ej]
          show (graph_common.f (k + 2 * o.length) out num (at_ o p) (at_ o j)).bind _ = _
          rw [hcm, Option.bind_some, hw]
          exact up4 _ _ _ _ _ _ _ _ _ _ _ _ _ _ (by omega) hk
      obtain ⟨k, hk⟩ := hin
      refine ⟨k + 1, ?_⟩
      rw [graph_Idom.l4, if_pos (by omega), if_pos (by omega), if_pos (by omega), if_pos hxr.1, if_pos (by omega), if_neg (by omega)]
      by_cases h0 : rd row i66 = 0
      · rw [if_pos h0]; exact hk
      · rw [if_neg h0, if_pos (by omega)]
        unfold hasP at hp
        rw [decide_eq_true (by omega), Bool.true_and, decide_eq_false h0, Bool.false_or, decide_eq_true_eq] at hp
        rw [decide_eq_false (by omega)]
        exact hk
end Go.Proofs.Ytnmeomdjhjgnfaa.X
namespace Go.Proofs.Ytnmeomdjhjgnfaa.X
open Go.RowKit Go.Proofs.YtnmeomdjhjgnfaaW.PrintWords Go.Proofs.YtnmeomdjhjgnfaaW.PrintLast Go.Proofs.YtnmeomdjhjgnfaaW.PrintMore
/-! ### the fold is the nearest one -/
def plN (num : List Int) (x : Int) : Nat := (rd num x).toNat
theorem fold_some (num out : List Int) (par : Nat → Nat) (m : Nat) : ∀ (l : List Int) (p : Nat), l.foldl (stepB num out par m) (some p) = some (nca par (2 * m) p ((l.filter (hasP num out)).map (plN num)))
  | [], p => rfl
  | x :: l, p => by
    rw [List.foldl_cons]
    by_cases h : hasP num out x = true
    · rw [show stepB num out par m (some p) x = some (com par (2 * m) p (plN num x)) from by unfold stepB; rw [if_pos h]; rfl, fold_some num out par m l, List.filter_cons, if_pos h]
      rfl
    · rw [show stepB num out par m (some p) x = some p from by unfold stepB; rw [if_neg h], fold_some num out par m l, List.filter_cons, if_neg h]
theorem fold_none (num out : List Int) (par : Nat → Nat) (m : Nat) : ∀ (l : List Int) (p : Nat) (ps : List Nat), (l.filter (hasP num out)).map (plN num) = p :: ps → l.foldl (stepB num out par m) none = some (nca par (2 * m) p ps)
  | [], p, ps, h => by simp at h
  | x :: l, p, ps, h => by
    rw [List.foldl_cons]
    by_cases hx : hasP num out x = true
    · rw [List.filter_cons, if_pos hx, List.map_cons] at h
      injection h with h1 h2
      rw [show stepB num out par m none x = some (plN num x) from by unfold stepB; rw [if_pos hx]; rfl, fold_some, h1, h2]
    · rw [List.filter_cons, if_neg hx] at h
      rw [show stepB num out par m none x = none from by unfold stepB; rw [if_neg hx]]
      exact fold_none num out par m l p ps h
/-- A parent is written. -/
theorem Ot.put {E : Int → Int → Prop} {o : List Int} {n i k v : Nat} {par : Nat → Nat} {out : List Int} (H : Ordd E n o) (h : Ot o n i par out) (hk0 : 0 < k) (hk : k < o.length) (hki : k ≤ i) (him : i ≤ o.length) (hv : v < o.length) :
    Ot o n (max i (k + 1)) (upd par k v) (out.set (at_ o k).toNat (at_ o v)) := by
  have hr := H.rng _ (at_mem hk)
  have hlen := h.len
  have hne : ∀ x, 0 ≤ x → x ≠ at_ o k → rd (out.set (at_ o k).toNat (at_ o v)) x = rd out x := fun x h0 hn => by
    unfold rd
    rw [List.getD_eq_getElem?_getD, List.getD_eq_getElem?_getD, List.getElem?_set_ne (by omega)]
  have heq : rd (out.set (at_ o k).toNat (at_ o v)) (at_ o k) = at_ o v := by
    unfold rd
    rw [List.getD_eq_getElem?_getD, List.getElem?_set_self (by omega)]
    rfl
  refine ⟨by simp [h.len], fun j h0 hj => ?_, ?_, fun j hj hm => ?_, fun x h0 h1 hx => ?_⟩
  · by_cases e : j = k
    · subst e; rw [heq]; unfold upd; rw [if_pos rfl]
    · rw [hne _ (H.rng _ (at_mem (by omega))).1 (fun hh => e (at_inj H.nodup (by omega) hk hh)), h.on j h0 (by omega)]
      unfold upd; rw [if_neg e]
  · rw [hne 0 (Int.le_refl 0) (fun hh => by have := at_inj H.nodup H.pos hk (H.head.trans hh); omega)]; exact h.root
  · rw [hne _ (H.rng _ (at_mem hm)).1 (fun hh => by have := at_inj H.nodup hm hk hh; omega)]; exact h.not j (by omega) hm
  · rw [hne x h0 (fun hh => hx (hh ▸ at_mem hk))]; exact h.off x h0 h1 hx
end Go.Proofs.Ytnmeomdjhjgnfaa.X
namespace Go.Proofs.Ytnmeomdjhjgnfaa.X
open Go.RowKit Go.Proofs.YtnmeomdjhjgnfaaW.PrintWords Go.Proofs.YtnmeomdjhjgnfaaW.PrintLast Go.Proofs.YtnmeomdjhjgnfaaW.PrintMore
/-! ### sweeps over the lists -/
/-- The places from which a place is come to. -/
def PP (o num : List Int) (preds : List (List Int)) (i : Nat) : List Nat := ((rd_L1 preds (at_ o i)).filter (fun x => decide (x ∈ o))).map (plN num)
theorem filt_map (p : Int → Bool) (q : Int → Bool) (f : Int → Nat) (t : Nat → Bool) : ∀ (l : List Int), (∀ x ∈ l, p x = (q x && t (f x))) → (l.filter p).map f = ((l.filter q).map f).filter t
  | [], _ => rfl
  | x :: l, h => by
    have ih := filt_map p q f t l (fun y hy => h y (List.mem_cons_of_mem _ hy))
    have hx := h x List.mem_cons_self
    rw [List.filter_cons, List.filter_cons]
    cases hq : q x with
    | false =>
      rw [hq, Bool.false_and] at hx
      rw [hx]
      simpa using ih
    | true =>
      rw [hq, Bool.true_and] at hx
      rw [hx]
      cases ht : t (f x) with
      | false => simp [ht, ih]
      | true => simp [ht, ih]
theorem rows_set {E : Int → Int → Prop} {o : List Int} {n i : Nat} {par : Nat → Nat} {out num : List Int} (H : Ordd E n o) (hi0 : 0 < i) (hi : i ≤ o.length) (hN : Nm o n num) (hO : Ot o n i par out) (hd : Dn par) (preds : List (List Int)) (b : Nat) (hrow : ∀ x ∈ rd_L1 preds (at_ o b), 0 ≤ x ∧ x < (n : Int)) :
    ((rd_L1 preds (at_ o b)).filter (hasP num out)).map (plN num) = (PP o num preds b).filter (fun q => decide (q < i)) := by
  unfold PP
  refine filt_map _ _ _ _ _ (fun x hx => ?_)
  rw [Bool.eq_iff_iff, hasP_iff H hi0 hi hN hO hd x (hrow x hx), Bool.and_eq_true, decide_eq_true_eq, decide_eq_true_eq]
  constructor
  · rintro ⟨j, hj, rfl⟩
    refine ⟨at_mem (by omega), ?_⟩
    unfold plN
    rw [hN.on j (by omega)]
    exact hj
  · rintro ⟨hm, hp⟩
    obtain ⟨j, hj, rfl⟩ := mem_at hm
    unfold plN at hp
    rw [hN.on j hj] at hp
    exact ⟨j, hp, rfl⟩
/-- One block's turn: what is written is the nearest one's block. -/
theorem chk_turn {E : Int → Int → Prop} {o : List Int} {n i b : Nat} {par : Nat → Nat} {out num : List Int} (H : Ordd E n o) (hi0 : 0 < i) (hi : i ≤ o.length) (hN : Nm o n num) (hO : Ot o n i par out) (hd : Dn par) (preds : List (List Int)) (hpl : preds.length = n) (hb0 : 0 < b) (hb : b < o.length) (hbi : b ≤ i)
    (hrow : ∀ x ∈ rd_L1 preds (at_ o b), 0 ≤ x ∧ x < (n : Int)) (hl : (rd_L1 preds (at_ o b)).length ≤ 1000000) (hol : o.length ≤ 1000000) (chg : Bool) (r : List Int) (p : Nat) (ps : List Nat) (hP : (PP o num preds b).filter (fun q => decide (q < i)) = p :: ps) (hv : nca par (2 * o.length) p ps < o.length)
    (hc : ∃ k, graph_Idom.l3 k o num (out.set (at_ o b).toNat (at_ o (nca par (2 * o.length) p ps))) preds (chg || decide (rd out (at_ o b) ≠ at_ o (nca par (2 * o.length) p ps))) (o.drop 1) ((o.drop 1).length : Int) ((b : Nat) : Int) = some r) :
    ∃ k, graph_Idom.l3 k o num out preds chg (o.drop 1) ((o.drop 1).length : Int) ((b : Int) - 1) = some r := by
  have hbr := H.rng _ (at_mem hb)
  have hlen := hO.len
  have hrd : rd (o.drop 1) ((b : Int) - 1) = at_ o b := by
    unfold rd at_
    rw [show ((b : Int) - 1).toNat = b - 1 from by omega, List.getD_eq_getElem?_getD, List.getElem?_drop, List.getD_eq_getElem?_getD, show 1 + (b - 1) = b from by omega]
  have hdl : (o.drop 1).length = o.length - 1 := List.length_drop
  have hw : wrap64 ((b : Int) - 1 + 1) = (b : Int) := by unfold wrap64; omega
  have hfold := fold_none num out par o.length (rd_L1 preds (at_ o b)) p ps (by rw [rows_set H hi0 hi hN hO hd preds b hrow]; exact hP)
  obtain ⟨k, hk⟩ := hc
  obtain ⟨k2, hk2⟩ := chk_l4 H hi0 hi hN hO hd o preds chg (at_ o b) (o.drop 1) ((o.drop 1).length : Int) ((b : Int) - 1) (rd_L1 preds (at_ o b)) hrow hl r (rd_L1 preds (at_ o b)).length 0 none (by omega) (fun p e => by cases e) ⟨k, by
    rw [List.drop_zero, hfold]
    unfold contL
    rw [if_pos hbr.1, if_pos (by omega), hw]
    show (if rd out (at_ o b) = at_ o (nca par (2 * o.length) p ps) then _ else _) = _
    by_cases e : rd out (at_ o b) = at_ o (nca par (2 * o.length) p ps)
    · rw [if_pos e]
      rw [decide_eq_false (fun h => h e), Bool.or_false] at hk
      have hset : out.set (at_ o b).toNat (at_ o (nca par (2 * o.length) p ps)) = out := by
        rw [← e]
        unfold rd
        rw [List.getD_eq_getElem?_getD, List.getElem?_eq_getElem (by omega)]
        exact List.set_getElem_self _
      rw [hset] at hk
      exact hk
    · rw [if_neg e]
      rw [decide_eq_true e, Bool.or_true] at hk
      exact hk⟩
  refine ⟨k2 + 1, ?_⟩
  rw [graph_Idom.l3, if_pos (by omega), if_pos (by omega), if_pos (by omega), hrd, if_pos hbr.1, if_pos (by omega)]
  exact hk2
end Go.Proofs.Ytnmeomdjhjgnfaa.X
namespace Go.Proofs.Ytnmeomdjhjgnfaa.X
open Go.RowKit Go.Proofs.YtnmeomdjhjgnfaaW.PrintWords Go.Proofs.YtnmeomdjhjgnfaaW.PrintLast Go.Proofs.YtnmeomdjhjgnfaaW.PrintMore
/-- The sum of the parents. -/
def sumP (par : Nat → Nat) : Nat → Nat
  | 0 => 0
  | m + 1 => sumP par m + par m
theorem sumP_upd (par : Nat → Nat) (b v : Nat) (hv : v ≤ par b) : ∀ m, sumP (upd par b v) m + (if b < m then par b - v else 0) = sumP par m
  | 0 => by simp [sumP]
  | m + 1 => by
    have ih := sumP_upd par b v hv m
    simp only [sumP]
    by_cases h : b = m
    · subst h
      have e : upd par b v b = v := by unfold upd; rw [if_pos rfl]
      rw [if_neg (Nat.lt_irrefl b)] at ih
      rw [if_pos (Nat.lt_succ_self b), e]
      omega
    · have e : upd par b v m = par m := by unfold upd; rw [if_neg (fun x => h x.symm)]
      rw [e]
      by_cases h2 : b < m
      · rw [if_pos h2] at ih; rw [if_pos (by omega)]; omega
      · rw [if_neg h2] at ih; rw [if_neg (by omega)]; omega
def FixAt (P : Nat → List Nat) (m : Nat) (par : Nat → Nat) (u : Nat) : Prop := ∃ p ps, P u = p :: ps ∧ nca par (2 * m) p ps = par u
theorem upd_self (par : Nat → Nat) (b : Nat) : upd par b (par b) = par := by
  funext u; unfold upd; split
  · rename_i h; rw [h]
  · rfl
theorem nonempty_cons {l : List Nat} {s : Nat} (h : s ∈ l) : ∃ p ps, l = p :: ps := by
  cases l with
  | nil => cases h
  | cons p ps => exact ⟨p, ps, rfl⟩
theorem filter_all (l : List Nat) (m : Nat) (h : ∀ q ∈ l, q < m) : l.filter (fun q => decide (q < m)) = l :=
  List.filter_eq_self.2 (fun q hq => decide_eq_true (h q hq))
section
variable {E : Int → Int → Prop} {o : List Int} {n : Nat} {num : List Int} {preds : List (List Int)} {Dm : Nat → Nat → Prop}
/-- A later sweep. -/
theorem chk_sweep (H : Ordd E n o) (hN : Nm o n num) (hpl : preds.length = n) (G : Gr o.length (PP o num preds) Dm) (hrow : ∀ b, b < o.length → ∀ x ∈ rd_L1 preds (at_ o b), 0 ≤ x ∧ x < (n : Int)) (hl : ∀ b, b < o.length → (rd_L1 preds (at_ o b)).length ≤ 1000000) (hol : o.length ≤ 1000000) (Q : List Int → Prop) (s0 : Nat) :
    ∀ (d b : Nat) (par : Nat → Nat) (out : List Int) (chg : Bool), b + d = o.length → 0 < b → Swp o.length (PP o num preds) Dm b par → Ot o n o.length par out → sumP par o.length ≤ s0 → (chg = true → sumP par o.length < s0) → (chg = false → ∀ u, 0 < u → u < b → FixAt (PP o num preds) o.length par u) →
    (∀ par' out' chg', Swp o.length (PP o num preds) Dm o.length par' → Ot o n o.length par' out' → (chg' = true → sumP par' o.length < s0) → (chg' = false → ∀ u, 0 < u → u < o.length → FixAt (PP o num preds) o.length par' u) → ∃ k r, graph_Idom.l2 k o num out' preds chg' = some r ∧ Q r) →
    ∃ k r, graph_Idom.l3 k o num out preds chg (o.drop 1) ((o.drop 1).length : Int) ((b : Int) - 1) = some r ∧ Q r := by
  intro d
  induction d with
  | zero =>
    intro b par out chg hb h0 hS hO hs1 hs2 hf hend
    obtain rfl : b = o.length := by omega
    obtain ⟨k, r, hk, hq⟩ := hend par out chg hS hO hs2 hf
    have hdl : (o.drop 1).length = o.length - 1 := List.length_drop
    refine ⟨k + 1, r, ?_, hq⟩
    rw [graph_Idom.l3, if_neg (by omega)]
    exact hk
  | succ d ih =>
    intro b par out chg hb h0 hS hO hs1 hs2 hf hend
    have hbm : b < o.length := by omega
    obtain ⟨s, hs, _⟩ := G.fwd b h0 hbm
    obtain ⟨p, ps, hP⟩ := nonempty_cons hs
    obtain ⟨hle, hS'⟩ := hS.step G h0 hbm hP
    have hdn := hS.dn b h0
    have hput := Ot.put H hO h0 hbm (by omega) (Nat.le_refl _) (show nca par (2 * o.length) p ps < o.length by omega)
    rw [show max o.length (b + 1) = o.length from by omega] at hput
    have hsum := sumP_upd par b (nca par (2 * o.length) p ps) hle o.length
    rw [if_pos hbm] at hsum
    have hout : rd out (at_ o b) = at_ o (par b) := hO.on b h0 hbm
    have hiff : rd out (at_ o b) ≠ at_ o (nca par (2 * o.length) p ps) ↔ nca par (2 * o.length) p ps ≠ par b := by
      rw [hout]
      constructor
      · exact fun h e => h (by rw [e])
      · exact fun h e => h (at_inj H.nodup (by omega) (by omega) e).symm
    obtain ⟨kr, r, hkr, hq⟩ := ih (b + 1) (upd par b (nca par (2 * o.length) p ps)) (out.set (at_ o b).toNat (at_ o (nca par (2 * o.length) p ps))) (chg || decide (rd out (at_ o b) ≠ at_ o (nca par (2 * o.length) p ps))) (by omega) (by omega) hS' hput (by omega) (fun hc => by
        rcases Bool.or_eq_true_iff.1 hc with h | h
        · have := hs2 h; omega
        · have := hiff.1 (of_decide_eq_true h); omega) (fun hc u hu0 hu => by
        obtain ⟨h1, h2⟩ := Bool.or_eq_false_iff.1 hc
        have h3 : nca par (2 * o.length) p ps = par b := Classical.byContradiction fun hn => of_decide_eq_false h2 (hiff.2 hn)
        rw [h3, upd_self]
        rcases Nat.lt_or_ge u b with h4 | h4
        · exact hf h1 u hu0 h4
        · obtain rfl : u = b := by omega
          exact ⟨p, ps, hP, h3⟩) hend
    have key := chk_turn H (i := o.length) H.pos (Nat.le_refl _) hN hO hS.dn preds hpl h0 hbm (by omega) (hrow b hbm) (hl b hbm) hol chg r p ps (by rw [filter_all _ _ (fun q hq => G.inb b hbm q hq)]; exact hP) (by omega) ⟨kr, by rw [show (((b + 1 : Nat) : Int) - 1) = (b : Int) from by omega] at hkr; exact hkr⟩
    exact ⟨key.choose, r, key.choose_spec, hq⟩
/-- The first sweep. -/
theorem chk_first (H : Ordd E n o) (hN : Nm o n num) (hpl : preds.length = n) (G : Gr o.length (PP o num preds) Dm) (hrow : ∀ b, b < o.length → ∀ x ∈ rd_L1 preds (at_ o b), 0 ≤ x ∧ x < (n : Int)) (hl : ∀ b, b < o.length → (rd_L1 preds (at_ o b)).length ≤ 1000000) (hol : o.length ≤ 1000000) (Q : List Int → Prop) :
    ∀ (d b : Nat) (par : Nat → Nat) (out : List Int) (chg : Bool), b + d = o.length → 0 < b → (1 < b → chg = true) → Fst o.length (PP o num preds) Dm b par → Ot o n b par out →
    (∀ par' out' chg', Fst o.length (PP o num preds) Dm o.length par' → Ot o n o.length par' out' → (1 < o.length → chg' = true) → ∃ k r, graph_Idom.l2 k o num out' preds chg' = some r ∧ Q r) →
    ∃ k r, graph_Idom.l3 k o num out preds chg (o.drop 1) ((o.drop 1).length : Int) ((b : Int) - 1) = some r ∧ Q r := by
  intro d
  induction d with
  | zero =>
    intro b par out chg hb h0 hc hS hO hend
    obtain rfl : b = o.length := by omega
    obtain ⟨k, r, hk, hq⟩ := hend par out chg hS hO hc
    have hdl : (o.drop 1).length = o.length - 1 := List.length_drop
    refine ⟨k + 1, r, ?_, hq⟩
    rw [graph_Idom.l3, if_neg (by omega)]
    exact hk
  | succ d ih =>
    intro b par out chg hb h0 hc hS hO hend
    have hbm : b < o.length := by omega
    obtain ⟨s, hs, hsb⟩ := G.fwd b h0 hbm
    obtain ⟨p, ps, hP⟩ := nonempty_cons (show s ∈ (PP o num preds b).filter (fun q => decide (q < b)) from List.mem_filter.2 ⟨hs, decide_eq_true hsb⟩)
    have hS' := hS.step G h0 hbm hP
    have hpb : ∀ q ∈ p :: ps, q < b := fun q hq => by rw [← hP] at hq; exact of_decide_eq_true (List.mem_filter.1 hq).2
    have hp := hpb p List.mem_cons_self
    have hvp : nca par (2 * o.length) p ps ≤ p := (((nca_an hS.dn o.length ps p (by omega) (fun q hq => by have := hpb q (List.mem_cons_of_mem _ hq); omega) _).1 .refl).1).le hS.dn
    have hput := Ot.put H hO h0 hbm (Nat.le_refl _) (by omega) (show nca par (2 * o.length) p ps < o.length by omega)
    rw [show max b (b + 1) = b + 1 from by omega] at hput
    have hout : rd out (at_ o b) = -1 := hO.not b (Nat.le_refl _) hbm
    have hv0 := (H.rng _ (at_mem (show nca par (2 * o.length) p ps < o.length by omega))).1
    obtain ⟨kr, r, hkr, hq⟩ := ih (b + 1) (upd par b (nca par (2 * o.length) p ps)) (out.set (at_ o b).toNat (at_ o (nca par (2 * o.length) p ps))) (chg || decide (rd out (at_ o b) ≠ at_ o (nca par (2 * o.length) p ps))) (by omega) (by omega) (fun _ => by rw [decide_eq_true (by omega), Bool.or_true]) hS' hput hend
    have key := chk_turn H h0 (by omega) hN hO hS.dn preds hpl h0 hbm (Nat.le_refl _) (hrow b hbm) (hl b hbm) hol chg r p ps hP (by omega) ⟨kr, by rw [show (((b + 1 : Nat) : Int) - 1) = (b : Int) from by omega] at hkr; exact hkr⟩
    exact ⟨key.choose, r, key.choose_spec, hq⟩
end
end Go.Proofs.Ytnmeomdjhjgnfaa.X
namespace Go.Proofs.Ytnmeomdjhjgnfaa.X
open Go.RowKit Go.Proofs.YtnmeomdjhjgnfaaW.PrintWords Go.Proofs.YtnmeomdjhjgnfaaW.PrintLast Go.Proofs.YtnmeomdjhjgnfaaW.PrintMore
section
variable {E : Int → Int → Prop} {o : List Int} {n : Nat} {num : List Int} {preds : List (List Int)} {Dm : Nat → Nat → Prop}
theorem l2_true (H : Ordd E n o) (hol : o.length ≤ 1000000) (out : List Int) (r : List Int) (h : ∃ k, graph_Idom.l3 k o num out preds false (o.drop 1) ((o.drop 1).length : Int) (((1 : Nat) : Int) - 1) = some r) : ∃ k, graph_Idom.l2 k o num out preds true = some r := by
  obtain ⟨k, hk⟩ := h
  have hp := H.pos
  have hmn : mn 1 (o.length : Int) = 1 := by unfold mn; split <;> omega
  refine ⟨k + 1, ?_⟩
  rw [graph_Idom.l2, if_pos rfl, hmn, if_pos (by omega), if_pos (by omega)]
  exact hk
/-- What the loops end in. -/
def Rest (o : List Int) (n : Nat) (num : List Int) (preds : List (List Int)) (Dm : Nat → Nat → Prop) (r : List Int) : Prop :=
  ∃ par, Swp o.length (PP o num preds) Dm 1 par ∧ Ot o n o.length par r ∧ ∀ u, 0 < u → u < o.length → FixAt (PP o num preds) o.length par u
/-- The later sweeps come to rest. -/
theorem chk_rest (H : Ordd E n o) (hN : Nm o n num) (hpl : preds.length = n) (G : Gr o.length (PP o num preds) Dm) (hrow : ∀ b, b < o.length → ∀ x ∈ rd_L1 preds (at_ o b), 0 ≤ x ∧ x < (n : Int)) (hl : ∀ b, b < o.length → (rd_L1 preds (at_ o b)).length ≤ 1000000) (hol : o.length ≤ 1000000) :
    ∀ (s : Nat) (par : Nat → Nat) (out : List Int), sumP par o.length < s → Swp o.length (PP o num preds) Dm 1 par → Ot o n o.length par out →
    ∃ k r, graph_Idom.l2 k o num out preds true = some r ∧ Rest o n num preds Dm r := by
  intro s
  induction s with
  | zero => intro par out h; omega
  | succ s ih =>
    intro par out hs hS hO
    have hp := H.pos
    obtain ⟨k, r, hk, hq⟩ := chk_sweep H hN hpl G hrow hl hol (Rest o n num preds Dm) (sumP par o.length) (o.length - 1) 1 par out false (by omega) (by omega) hS hO (Nat.le_refl _) (fun h => by cases h) (fun _ u h0 h1 => by omega) (fun par' out' chg' hS' hO' hlt hf => by
      cases chg' with
      | true => exact ih par' out' (by have := hlt rfl; omega) hS'.again hO'
      | false => exact ⟨1, out', by rw [graph_Idom.l2, if_neg (by decide)], par', hS'.again, hO', hf rfl⟩)
    obtain ⟨k2, hk2⟩ := l2_true H hol out r ⟨k, hk⟩
    exact ⟨k2, r, hk2, hq⟩
/-- From the lists as they are made. -/
theorem chk_all (H : Ordd E n o) (hN : Nm o n num) (hpl : preds.length = n) (G : Gr o.length (PP o num preds) Dm) (hrow : ∀ b, b < o.length → ∀ x ∈ rd_L1 preds (at_ o b), 0 ≤ x ∧ x < (n : Int)) (hl : ∀ b, b < o.length → (rd_L1 preds (at_ o b)).length ≤ 1000000) (hol : o.length ≤ 1000000)
    (hO : Ot o n 1 (fun _ => 0) (List.replicate n (-1))) : ∃ k r, graph_Idom.l2 k o num (List.replicate n (-1)) preds true = some r ∧ Rest o n num preds Dm r := by
  have hp := H.pos
  obtain ⟨k, r, hk, hq⟩ := chk_first H hN hpl G hrow hl hol (Rest o n num preds Dm) (o.length - 1) 1 (fun _ => 0) (List.replicate n (-1)) false (by omega) (by omega) (fun h => by omega) (Fst.start _ _ _) hO (fun par' out' chg' hS' hO' hc => by
    cases chg' with
    | true => exact chk_rest H hN hpl G hrow hl hol (sumP par' o.length + 1) par' out' (by omega) hS'.swp hO'
    | false =>
      have h1 : ¬ 1 < o.length := fun h => by cases hc h
      exact ⟨1, out', by rw [graph_Idom.l2, if_neg (by decide)], par', hS'.swp, hO', fun u h0 hu => by omega⟩)
  obtain ⟨k2, hk2⟩ := l2_true H hol _ r ⟨k, hk⟩
  exact ⟨k2, r, hk2, hq⟩
end
/-- Come to from block 0 without z. -/
inductive RAv (E : Int → Int → Prop) (z : Int) : Int → Prop
  | start : z ≠ 0 → RAv E z 0
  | step {x y : Int} : RAv E z x → E x y → y ≠ z → RAv E z y
def Eg (g : List (List Int)) (x y : Int) : Prop := eB g x y = true
theorem RE_clean (g : List (List Int)) (x y : Int) : RE (cleanL g) x y ↔ Eg g x y := by
  unfold RE Eg
  rw [eB_iff]
  constructor
  · rintro ⟨h0, h⟩
    obtain ⟨j, rfl⟩ := Int.eq_ofNat_of_zero_le h0
    rcases Nat.lt_or_ge j g.length with hj | hj
    · have h2 : y ∈ rd_L1 (cleanL g) j := h
      rw [rd_clean g j hj, mem_keptL] at h2
      exact ⟨by omega, by omega, h2.2.1, h2.2.2, h2.1⟩
    · rw [List.getD_eq_getElem?_getD, List.getElem?_eq_none (by rw [cleanL_length]; omega)] at h
      cases h
  · rintro ⟨h1, h2, h3, h4, h5⟩
    obtain ⟨j, rfl⟩ := Int.eq_ofNat_of_zero_le h1
    refine ⟨h1, ?_⟩
    show y ∈ rd_L1 (cleanL g) j
    rw [rd_clean g j (by omega), mem_keptL]
    exact ⟨h5, h3, h4⟩
section
variable {E : Int → Int → Prop} {o : List Int} {n : Nat} {num : List Int} {preds : List (List Int)}
/-- Dominance, by places. -/
def DmP (E : Int → Int → Prop) (o : List Int) (d u : Nat) : Prop := d < o.length ∧ u < o.length ∧ (d = u ∨ ¬ RAv E (at_ o d) (at_ o u))
theorem ra_fwd (H : Ordd E n o) (d : Nat) (hd : d < o.length) : ∀ (k u : Nat), u ≤ k → u < d → RAv E (at_ o d) (at_ o u) := by
  intro k
  induction k with
  | zero =>
    intro u hu hud
    obtain rfl : u = 0 := by omega
    rw [H.head]
    exact .start (fun h => by have := at_inj H.nodup hd H.pos (h.trans H.head.symm); omega)
  | succ k ih =>
    intro u hu hud
    rcases Nat.eq_zero_or_pos u with rfl | h0
    · exact ih 0 (by omega) hud
    · obtain ⟨j, hj, he⟩ := H.fwd u h0 (by omega)
      exact .step (ih j (by omega) (by omega)) he (fun h => by have := at_inj H.nodup (by omega) hd h; omega)
theorem plN_at (hN : Nm o n num) {j : Nat} (hj : j < o.length) : plN num (at_ o j) = j := by
  unfold plN; rw [hN.on j hj]; rfl
theorem mem_PP (H : Ordd E n o) (hN : Nm o n num) (hpr : ∀ u, u < o.length → ∀ x, x ∈ rd_L1 preds (at_ o u) ↔ E x (at_ o u)) (u : Nat) (hu : u < o.length) (p : Nat) : p ∈ PP o num preds u ↔ p < o.length ∧ E (at_ o p) (at_ o u) := by
  unfold PP
  rw [List.mem_map]
  constructor
  · rintro ⟨x, hx, rfl⟩
    obtain ⟨h1, h2⟩ := List.mem_filter.1 hx
    obtain ⟨j, hj, rfl⟩ := mem_at (of_decide_eq_true h2)
    rw [plN_at hN hj]
    exact ⟨hj, (hpr u hu _).1 h1⟩
  · rintro ⟨hp, he⟩
    exact ⟨at_ o p, List.mem_filter.2 ⟨(hpr u hu _).2 he, decide_eq_true (at_mem hp)⟩, plN_at hN hp⟩
theorem gr_of (H : Ordd E n o) (hN : Nm o n num) (hpr : ∀ u, u < o.length → ∀ x, x ∈ rd_L1 preds (at_ o u) ↔ E x (at_ o u)) : Gr o.length (PP o num preds) (DmP E o) where
  inb := fun u hu p hp => ((mem_PP H hN hpr u hu p).1 hp).1
  fwd := fun u h0 hu => by
    obtain ⟨j, hj, he⟩ := H.fwd u h0 hu
    exact ⟨j, (mem_PP H hN hpr u hu j).2 ⟨by omega, he⟩, hj⟩
  dle := fun d u ⟨hd, hu, h⟩ => by
    rcases h with h | h
    · omega
    · rcases Nat.lt_or_ge u d with hlt | hlt
      · exact absurd (ra_fwd H d hd u u (Nat.le_refl _) hlt) h
      · exact hlt
  dstep := fun d u h0 hu ⟨hd, _, h⟩ hne p hp => by
    obtain ⟨hpm, he⟩ := (mem_PP H hN hpr u hu p).1 hp
    refine ⟨hd, hpm, ?_⟩
    by_cases hdp : d = p
    · exact .inl hdp
    · refine .inr (fun hr => ?_)
      exact h.resolve_left hne (.step hr he (fun e => hne (at_inj H.nodup hd hu e.symm)))
/-- At rest the chains are who dominates. -/
theorem rest_dom (H : Ordd E n o) (hN : Nm o n num) (hpr : ∀ u, u < o.length → ∀ x, x ∈ rd_L1 preds (at_ o u) ↔ E x (at_ o u)) (hE : ∀ x y, E x y → x ∈ o → y ∈ o) {r : List Int} (h : Rest o n num preds (DmP E o) r) :
    ∃ par, Dn par ∧ Ot o n o.length par r ∧ ∀ u, u < o.length → ∀ d, An par d u ↔ DmP E o d u := by
  obtain ⟨par, hS, hO, hf⟩ := h
  have G := gr_of H hN hpr
  refine ⟨par, hS.dn, hO, fun u hu d => ⟨fun ha => ?_, fun hd => ?_⟩⟩
  · have hle := ha.le hS.dn
    refine ⟨by omega, hu, ?_⟩
    by_cases hdu : d = u
    · exact .inl hdu
    · refine .inr (fun hr => ?_)
      have key : ∀ x, RAv E (at_ o d) x → x ∈ o ∧ ∀ w, w < o.length → x = at_ o w → ¬ An par d w := by
        intro x hx
        induction hx with
        | start h0 =>
          refine ⟨by rw [← H.head]; exact at_mem H.pos, fun w hw hxw ha => ?_⟩
          have := at_inj H.nodup H.pos hw (H.head.trans hxw)
          subst this
          have := ha.of_zero hS.dn
          subst this
          exact h0 H.head
        | @step x y hx he hne ih =>
          obtain ⟨hxo, ih⟩ := ih
          refine ⟨H.closed x hxo y he, fun w hw hyw ha => ?_⟩
          obtain ⟨j, hj, rfl⟩ := mem_at hxo
          have hnj := ih j hj rfl
          rcases ha.inv with hdw | ⟨hw0, ha⟩
          · subst hdw; exact hne hyw
          · obtain ⟨p, ps, hP, hv⟩ := hf w hw0 hw
            subst hyw
            have hjm : j ∈ PP o num preds w := (mem_PP H hN hpr w hw j).2 ⟨hj, he⟩
            rw [← hv, nca_an hS.dn o.length ps p (G.inb w hw p (by rw [hP]; exact List.mem_cons_self)) (fun q hq => G.inb w hw q (by rw [hP]; exact List.mem_cons_of_mem _ hq))] at ha
            rw [hP] at hjm
            rcases List.mem_cons.1 hjm with rfl | hjm
            · exact hnj ha.1
            · exact hnj (ha.2 j hjm)
      exact (key _ hr).2 u hu rfl ha
  · have key : ∀ (k u : Nat), u ≤ k → u < o.length → ∀ d, DmP E o d u → An par d u := by
      intro k
      induction k with
      | zero =>
        intro u hk hu d hd
        have := G.dle d u hd
        obtain rfl : d = u := by omega
        exact .refl
      | succ k ih =>
        intro u hk hu d hd
        by_cases hdu : d = u
        · subst hdu; exact .refl
        · have h1 := G.dle d u hd
          have h2 := hS.dn u (by omega)
          exact .up (by omega) (ih (par u) (by omega) (by omega) d (hS.dom u (by omega) hu d hd hdu))
    exact key u u (Nat.le_refl _) hu d hd
end
theorem order_some (g : List (List Int)) (hok : okG g = true) (hn : 0 < g.length) (k : Nat) (hk : g.length ≤ k) : ∃ o, graph_Order.f k g = some o ∧ Ordd (Eg g) g.length o := by
  obtain ⟨t, o, h1, h2⟩ := order_of (cleanL g) g.length hn (cleanL_in g) k hk
  have e : RE (cleanL g) = Eg g := funext fun x => funext fun y => propext (RE_clean g x y)
  rw [e] at h2
  refine ⟨o.reverse, ?_, h2⟩
  unfold graph_Order.f
  rw [if_pos hok, if_neg (by omega), h1]
  rfl
theorem ordd_len {E : Int → Int → Prop} {n : Nat} {o : List Int} (H : Ordd E n o) : o.length ≤ n := by
  have key : ∀ (m : Nat) (l : List Int), l.Nodup → (∀ x ∈ l, 0 ≤ x ∧ x < (m : Int)) → l.length ≤ m := by
    intro m
    induction m with
    | zero =>
      intro l _ h
      cases l with
      | nil => simp
      | cons x l => have := h x List.mem_cons_self; omega
    | succ m ih =>
      intro l hn h
      have h1 := ih (l.filter (fun x => decide (x ≠ (m : Int)))) (hn.filter _) (fun x hx => by
        obtain ⟨h2, h3⟩ := List.mem_filter.1 hx
        have h4 := h x h2
        have h5 := of_decide_eq_true h3
        omega)
      have h2 : l.length ≤ (l.filter (fun x => decide (x ≠ (m : Int)))).length + 1 := by
        clear ih h1 h
        induction l with
        | nil => simp
        | cons x l ih =>
          rw [List.nodup_cons] at hn
          rw [List.filter_cons]
          by_cases hx : x = (m : Int)
          · rw [if_neg (by simp [hx])]
            have : l.filter (fun x => decide (x ≠ (m : Int))) = l := List.filter_eq_self.2 (fun y hy => by
              refine decide_eq_true (fun e => hn.1 ?_)
              rw [hx, ← e]; exact hy)
            rw [this]; simp
          · rw [if_pos (decide_eq_true hx)]
            have := ih hn.2
            simp only [List.length_cons]; omega
      omega
  exact key n o H.nodup H.rng
/-- Numbers are given. -/
theorem idom_l1 (g : List (List Int)) (hok : okG g = true) {E : Int → Int → Prop} {o : List Int} (H : Ordd E g.length o) (out r : List Int) (Hc : ∀ num, Nm o g.length num → ∃ k, graph_Idom.l2 k o num out (predsL g) true = some r) :
    ∀ (d i : Nat) (num : List Int), i + d = o.length → num.length = g.length → (∀ j, j < i → rd num (at_ o j) = j) → (∀ x, 0 ≤ x → x < (g.length : Int) → (∀ j, j < i → x ≠ at_ o j) → rd num x = -1) →
    ∃ k, graph_Idom.l1 k g o num out o o.length i = some r := by
  have hol := ordd_len H
  have hg := (okG_len hok).1
  intro d
  induction d with
  | zero =>
    intro i num hi hl h1 h2
    obtain ⟨k, hk⟩ := Hc num ⟨hl, fun j hj => h1 j (by omega), fun x h0 hx hm => h2 x h0 hx (fun j hj e => hm (e ▸ at_mem (by omega)))⟩
    refine ⟨k + 1, ?_⟩
    rw [graph_Idom.l1, if_neg (by omega), Preds_some g hok, Option.bind_some]
    exact hk
  | succ d ih =>
    intro i num hi hl h1 h2
    have hlt : i < o.length := by omega
    have hr := H.rng _ (at_mem hlt)
    have hrd : rd o i = at_ o i := rfl
    have hset : ∀ x, 0 ≤ x → x ≠ at_ o i → rd (num.set (at_ o i).toNat (i : Int)) x = rd num x := fun x h0 hn => by
      unfold rd
      rw [List.getD_eq_getElem?_getD, List.getD_eq_getElem?_getD, List.getElem?_set_ne (by omega)]
    have hself : rd (num.set (at_ o i).toNat (i : Int)) (at_ o i) = i := by
      unfold rd
      rw [List.getD_eq_getElem?_getD, List.getElem?_set_self (by omega)]
      rfl
    obtain ⟨k, hk⟩ := ih (i + 1) (num.set (at_ o i).toNat (i : Int)) (by omega) (by simpa using hl) (fun j hj => by
      by_cases e : j = i
      · subst e; exact hself
      · rw [hset _ (H.rng _ (at_mem (by omega))).1 (fun hh => e (at_inj H.nodup (by omega) hlt hh))]
        exact h1 j (by omega)) (fun x h0 hx hne => by
      rw [hset x h0 (hne i (by omega))]
      exact h2 x h0 hx (fun j hj => hne j (by omega)))
    refine ⟨k + 1, ?_⟩
    rw [graph_Idom.l1, if_pos (by omega), if_pos (by omega), if_pos (by omega), hrd, if_pos hr.1, if_pos (by omega), w64 (by omega) (by omega)]
    exact hk
theorem idom_l0 (g : List (List Int)) (hok : okG g = true) (o r : List Int) (Hc : ∃ k, graph_Idom.l1 k g o (List.replicate g.length (-1)) (List.replicate g.length (-1)) o o.length 0 = some r) :
    ∀ (d i : Nat) (x4 x5 : List Int), i + d = g.length → x4 = List.replicate i (-1) ++ List.replicate d 0 → x5 = List.replicate i (-1) ++ List.replicate d 0 → ∃ k, graph_Idom.l0 k g o x4 x5 g.length i = some r := by
  have hg := (okG_len hok).1
  intro d
  induction d with
  | zero =>
    intro i x4 x5 hi h4 h5
    obtain ⟨k, hk⟩ := Hc
    refine ⟨k + 1, ?_⟩
    rw [graph_Idom.l0, if_neg (by omega), h4, h5, List.replicate_zero, List.append_nil, show i = g.length from by omega]
    exact hk
  | succ d ih =>
    intro i x4 x5 hi h4 h5
    have hs : ∀ x : List Int, x = List.replicate i (-1) ++ List.replicate (d + 1) 0 → x.set i (-1) = List.replicate (i + 1) (-1) ++ List.replicate d 0 := by
      intro x hx
      rw [hx, List.set_append_right _ _ (by simp), List.length_replicate, Nat.sub_self, List.replicate_succ, List.set_cons_zero, List.replicate_succ', List.append_assoc]
      rfl
    obtain ⟨k, hk⟩ := ih (i + 1) (x4.set i (-1)) (x5.set i (-1)) (by omega) (hs x4 h4) (hs x5 h5)
    refine ⟨k + 1, ?_⟩
    have hl4 : x4.length = g.length := by rw [h4]; simp; omega
    have hl5 : x5.length = g.length := by rw [h5]; simp; omega
    rw [graph_Idom.l0, if_pos (by omega), if_pos (by omega), if_pos (by omega), if_pos (by omega), w64 (by omega) (by omega), Int.toNat_natCast]
    exact hk
/-- What graph.Idom tells. -/
structure IdomR (g : List (List Int)) (o r : List Int) (par : Nat → Nat) : Prop where
  ord : Ordd (Eg g) g.length o
  dn : Dn par
  lst : Ot o g.length o.length par r
  dom : ∀ u, u < o.length → ∀ d, An par d u ↔ DmP (Eg g) o d u
theorem idom_some (g : List (List Int)) (hok : okG g = true) (hn : 0 < g.length) (hn2 : g.length ≤ 1000) (o : List Int) (ho : ∃ k, graph_Order.f k g = some o) (H : Ordd (Eg g) g.length o) : ∃ k r par, graph_Idom.f k g = some r ∧ IdomR g o r par := by
  have hol := ordd_len H
  have hpr : ∀ u, u < o.length → ∀ x, x ∈ rd_L1 (predsL g) (at_ o u) ↔ Eg g x (at_ o u) := fun u hu x => mem_preds g x (at_ o u) (H.rng _ (at_mem hu))
  have hpl := predsL_len g
  have hrow : ∀ b, b < o.length → ∀ x ∈ rd_L1 (predsL g) (at_ o b), 0 ≤ x ∧ x < (g.length : Int) := fun b hb x hx => by
    have := eB_iff.1 ((hpr b hb x).1 hx)
    exact ⟨this.1, this.2.1⟩
  have hlen : ∀ b, b < o.length → (rd_L1 (predsL g) (at_ o b)).length ≤ 1000000 := fun b hb => by
    have hr := H.rng _ (at_mem hb)
    have e : rd_L1 (predsL g) (at_ o b) = (predsL g)[(at_ o b).toNat]'(by omega) := by
      unfold rd_L1
      rw [List.getD_eq_getElem?_getD, List.getElem?_eq_getElem (by omega)]
      rfl
    rw [e]
    exact (okG_len (okG_preds g hn2)).2 _ (List.getElem_mem _)
  have hO : Ot o g.length 1 (fun _ => 0) (List.replicate g.length (-1)) := by
    have hrep : ∀ x, 0 ≤ x → x < (g.length : Int) → rd (List.replicate g.length (-1)) x = -1 := fun x h0 h1 => by
      unfold rd
      rw [List.getD_eq_getElem?_getD, List.getElem?_replicate, if_pos (by omega)]
      rfl
    exact ⟨by simp, fun j h0 h1 => by omega, hrep 0 (Int.le_refl 0) (by omega), fun j _ hj => hrep _ (H.rng _ (at_mem hj)).1 (H.rng _ (at_mem hj)).2, fun x h0 h1 _ => hrep x h0 h1⟩
  -- the numbers that are given: one list
  have hnum : ∃ num, Nm o g.length num := by
    refine ⟨(List.range g.length).map (fun (x : Nat) => if (x : Int) ∈ o then ((o.idxOf (x : Int) : Nat) : Int) else -1), by simp, fun i hi => ?_, fun x h0 h1 hm => ?_⟩
    · have hr := H.rng _ (at_mem hi)
      unfold rd
      rw [List.getD_eq_getElem?_getD, List.getElem?_map, List.getElem?_range (by omega)]
      have e : (((at_ o i).toNat : Nat) : Int) = at_ o i := by omega
      simp only [Option.map_some, Option.getD_some, e, if_pos (at_mem hi)]
      have h1 : o.idxOf (at_ o i) < o.length := List.idxOf_lt_length_of_mem (at_mem hi)
      have hix : ∀ x ∈ o, at_ o (o.idxOf x) = x := fun x hx => by
        have h1 : o.idxOf x < o.length := List.idxOf_lt_length_of_mem hx
        unfold at_
        rw [List.getD_eq_getElem?_getD, List.getElem?_eq_getElem h1]
        exact List.getElem_idxOf h1
      have h2 := hix _ (at_mem hi)
      have := at_inj H.nodup h1 hi h2
      omega
    · unfold rd
      rw [List.getD_eq_getElem?_getD, List.getElem?_map, List.getElem?_range (by omega)]
      have e : ((x.toNat : Nat) : Int) = x := by omega
      simp only [Option.map_some, Option.getD_some, e, if_neg hm]
  have huniq : ∀ a b, Nm o g.length a → Nm o g.length b → a = b := by
    intro a b ha hb
    refine List.ext_getElem (ha.len.trans hb.len.symm) (fun i h1 h2 => ?_)
    have hg1 : ∀ l : List Int, (h : i < l.length) → rd l (i : Int) = l[i] := fun l h => by simp [rd, h]
    rw [← hg1 a h1, ← hg1 b h2]
    have hlt : i < g.length := by have := ha.len; omega
    by_cases hm : ((i : Nat) : Int) ∈ o
    · obtain ⟨j, hj, e⟩ := mem_at hm
      rw [← e, ha.on j hj, hb.on j hj]
    · rw [ha.off _ (by omega) (by omega) hm, hb.off _ (by omega) (by omega) hm]
  obtain ⟨num, hN⟩ := hnum
  have G := gr_of H hN hpr
  obtain ⟨k, r, hk, hR⟩ := chk_all H hN hpl G hrow hlen (by omega) hO
  obtain ⟨par, hd, hOt, hdom⟩ := rest_dom H hN hpr (fun x y he hx => H.closed x hx y he) hR
  obtain ⟨k1, hk1⟩ := idom_l1 g hok H (List.replicate g.length (-1)) r (fun num' hN' => by rw [huniq num' num hN' hN]; exact ⟨k, hk⟩) o.length 0 (List.replicate g.length (-1)) (by omega) (by simp) (fun j hj => by omega) (fun x h0 h1 _ => by
    unfold rd
    rw [List.getD_eq_getElem?_getD, List.getElem?_replicate, if_pos (by omega)]
    rfl)
  obtain ⟨k0, hk0⟩ := idom_l0 g hok o r ⟨k1, hk1⟩ g.length 0 (List.replicate g.length 0) (List.replicate g.length 0) (by omega) (by simp) (by simp)
  obtain ⟨k3, hk3⟩ := ho
  refine ⟨k3 + k0, r, par, ?_, ⟨H, hd, hOt, hdom⟩⟩
  have e1 := up (f := fun k => graph_Order.f k g) (fun k => graph_Order.mono _ _) (m := k3 + k0) (by omega) hk3
  have e2 := up (f := fun k => graph_Idom.l0 k g o (List.replicate g.length 0) (List.replicate g.length 0) g.length ((0 : Nat) : Int)) (fun k => (graph_Idom.mono_l k).1 _ _ _ _ _ _) (m := k3 + k0) (by omega) hk0
  unfold graph_Idom.f
  rw [e1, Option.bind_some, if_pos (by omega), if_pos (by omega), Int.toNat_natCast]
  exact e2
/-- Come to from block 0. -/
def Rch (E : Int → Int → Prop) (x : Int) : Prop := RAv E (-1) x
/-- a dominates b. -/
def Dmb (E : Int → Int → Prop) (a b : Int) : Prop := Rch E a ∧ Rch E b ∧ (a = b ∨ ¬ RAv E a b)
theorem reach_iff {E : Int → Int → Prop} {n : Nat} {o : List Int} (H : Ordd E n o) (x : Int) : x ∈ o ↔ Rch E x := by
  constructor
  · intro hx
    have key : ∀ (k i : Nat), i ≤ k → i < o.length → Rch E (at_ o i) := by
      intro k
      induction k with
      | zero =>
        intro i hi hl
        obtain rfl : i = 0 := by omega
        rw [H.head]
        exact .start (by omega)
      | succ k ih =>
        intro i hi hl
        rcases Nat.eq_zero_or_pos i with rfl | h0
        · exact ih 0 (by omega) hl
        · obtain ⟨j, hj, he⟩ := H.fwd i h0 hl
          have := (H.rng _ (at_mem hl)).1
          exact .step (ih j (by omega) (by omega)) he (by omega)
    obtain ⟨i, hi, rfl⟩ := mem_at hx
    exact key i i (Nat.le_refl _) hi
  · intro h
    induction h with
    | start => rw [← H.head]; exact at_mem H.pos
    | step _ he _ ih => exact H.closed _ ih _ he
theorem Rch.step {E : Int → Int → Prop} {x y : Int} (hE : ∀ x y, E x y → 0 ≤ y) (h : Rch E x) (he : E x y) : Rch E y := RAv.step h he (by have := hE _ _ he; omega)
theorem Eg_in {g : List (List Int)} {x y : Int} (h : Eg g x y) : 0 ≤ x ∧ x < g.length ∧ 0 ≤ y ∧ y < g.length := by
  have := eB_iff.1 h
  exact ⟨this.1, this.2.1, this.2.2.1, this.2.2.2.1⟩
theorem Eg_nn (g : List (List Int)) (x y : Int) (h : Eg g x y) : 0 ≤ y := (Eg_in h).2.2.1
theorem Rch.rng {g : List (List Int)} (hn : 0 < g.length) {x : Int} (h : Rch (Eg g) x) : 0 ≤ x ∧ x < g.length := by
  cases h with
  | start => omega
  | step _ he _ => have := Eg_in he; omega
theorem RAv.rng {g : List (List Int)} (hn : 0 < g.length) {z x : Int} (h : RAv (Eg g) z x) : 0 ≤ x ∧ x < g.length := by
  cases h with
  | start => omega
  | step _ he _ => have := Eg_in he; omega
section
variable {g : List (List Int)} {o r : List Int} {par : Nat → Nat}
theorem isB_iff (R : IdomR g o r par) (x : Int) : isB r x = true ↔ 0 ≤ x ∧ x < g.length := by
  unfold isB
  rw [R.lst.len, Bool.and_eq_true, decide_eq_true_eq, decide_eq_true_eq]
theorem loop_in (R : IdomR g o r par) (a : Int) (ha : 0 ≤ a) : ∀ (k u : Nat), u < k → u < o.length → (domLoop r a k (at_ o u) = true ↔ ∃ d, d < o.length ∧ a = at_ o d ∧ An par d u) := by
  intro k
  induction k with
  | zero => intro u h; omega
  | succ k ih =>
    intro u hk hu
    rw [domLoop]
    by_cases h : a = at_ o u
    · rw [if_pos h]
      exact ⟨fun _ => ⟨u, hu, h, .refl⟩, fun _ => rfl⟩
    · rw [if_neg h, if_pos ((isB_iff R _).2 (R.ord.rng _ (at_mem hu)))]
      rcases Nat.eq_zero_or_pos u with rfl | h0
      · rw [R.ord.head, R.lst.root]
        constructor
        · intro hh
          cases k with
          | zero => cases hh
          | succ k =>
            rw [domLoop, if_neg (by omega), if_neg (by rw [isB_iff R]; omega)] at hh
            cases hh
        · rintro ⟨d, hd, rfl, hA⟩
          have := hA.of_zero R.dn
          subst this
          exact absurd rfl h
      · have h2 := R.dn u h0
        rw [R.lst.on u h0 hu, ih (par u) (by omega) (by omega)]
        constructor
        · rintro ⟨d, hd, rfl, hA⟩
          exact ⟨d, hd, rfl, .up h0 hA⟩
        · rintro ⟨d, hd, rfl, hA⟩
          rcases hA.inv with rfl | ⟨_, hA⟩
          · exact absurd rfl h
          · exact ⟨d, hd, rfl, hA⟩
theorem loop_off (R : IdomR g o r par) (a b : Int) (ha : 0 ≤ a) (hb : 0 ≤ b ∧ b < g.length) (hm : b ∉ o) (k : Nat) : domLoop r a (k + 1) b = true ↔ a = b := by
  rw [domLoop]
  by_cases h : a = b
  · rw [if_pos h]; exact ⟨fun _ => h, fun _ => rfl⟩
  · rw [if_neg h, if_pos ((isB_iff R _).2 hb), R.lst.off b hb.1 hb.2 hm]
    refine ⟨fun hh => ?_, fun hh => absurd hh h⟩
    cases k with
    | zero => cases hh
    | succ k =>
      rw [domLoop, if_neg (by omega), if_neg (by rw [isB_iff R]; omega)] at hh
      cases hh
/-- What graph.Dominates tells by graph.Idom's list. -/
theorem domL_iff (R : IdomR g o r par) (a b : Int) : domL r a b = true ↔ (0 ≤ a ∧ a < g.length) ∧ (0 ≤ b ∧ b < g.length) ∧ (a = b ∨ Dmb (Eg g) a b) := by
  unfold domL
  rw [Bool.and_eq_true, Bool.and_eq_true, isB_iff R, isB_iff R, and_congr_right_iff]
  intro ha
  rw [and_congr_right_iff]
  intro hb
  by_cases hm : b ∈ o
  · obtain ⟨u, hu, rfl⟩ := mem_at hm
    have hol := ordd_len R.ord
    rw [loop_in R a ha.1 _ u (by rw [R.lst.len]; omega) hu]
    constructor
    · rintro ⟨d, hd, rfl, hA⟩
      refine .inr ⟨(reach_iff R.ord _).1 (at_mem hd), (reach_iff R.ord _).1 hm, ?_⟩
      rcases ((R.dom u hu d).1 hA).2.2 with h | h
      · exact .inl (by rw [h])
      · exact .inr h
    · rintro (rfl | ⟨h1, h2, h3⟩)
      · exact ⟨u, hu, rfl, .refl⟩
      · obtain ⟨d, hd, rfl⟩ := mem_at ((reach_iff R.ord _).2 h1)
        refine ⟨d, hd, rfl, (R.dom u hu d).2 ⟨hd, hu, ?_⟩⟩
        rcases h3 with h | h
        · exact .inl (at_inj R.ord.nodup hd hu h)
        · exact .inr h
  · rw [loop_off R a b ha.1 hb hm]
    constructor
    · exact .inl
    · rintro (h | ⟨_, h2, _⟩)
      · exact h
      · exact absurd ((reach_iff R.ord b).2 h2) hm
/-- Which edges go back. -/
theorem backL_iff (R : IdomR g o r par) (a b : Int) (ha : 0 ≤ a ∧ a < g.length) (hb : 0 ≤ b ∧ b < g.length) : backL r a b = true ↔ Dmb (Eg g) b a := by
  unfold backL
  rw [Bool.and_eq_true, Bool.or_eq_true, beq_iff_eq, decide_eq_true_eq, domL_iff R]
  have hr : (a = 0 ∨ 0 ≤ rd r a) ↔ Rch (Eg g) a := by
    rw [← reach_iff R.ord]
    constructor
    · rintro (rfl | h)
      · rw [← R.ord.head]; exact at_mem R.ord.pos
      · by_cases hm : a ∈ o
        · exact hm
        · rw [R.lst.off a ha.1 ha.2 hm] at h; omega
    · intro hm
      obtain ⟨u, hu, rfl⟩ := mem_at hm
      rcases Nat.eq_zero_or_pos u with rfl | h0
      · exact .inl R.ord.head
      · refine .inr ?_
        rw [R.lst.on u h0 hu]
        exact (R.ord.rng _ (at_mem (by have := R.dn u h0; omega))).1
  rw [hr]
  constructor
  · rintro ⟨h1, _, _, rfl | h⟩
    · exact ⟨h1, h1, .inl rfl⟩
    · exact h
  · intro h
    exact ⟨h.2.1, hb, ha, .inr h⟩
end
/-- Some rounds suffice, and what comes out is Q. -/
def Ends {α : Type} (f : Nat → Option α) (Q : α → Prop) : Prop := ∃ k r, f k = some r ∧ Q r
theorem Ends.mono {α : Type} {f : Nat → Option α} {Q R : α → Prop} (h : Ends f Q) (hqr : ∀ r, Q r → R r) : Ends f R := by
  obtain ⟨k, r, hk, hq⟩ := h
  exact ⟨k, r, hk, hqr r hq⟩
theorem Ends.step {α : Type} {f g : Nat → Option α} {Q : α → Prop} (h : Ends g Q) (e : ∀ k, f (k + 1) = g k) : Ends f Q := by
  obtain ⟨k, r, hk, hq⟩ := h
  exact ⟨k + 1, r, (e k).trans hk, hq⟩
theorem Ends.same {α : Type} {f g : Nat → Option α} {Q : α → Prop} (h : Ends g Q) (e : ∀ k, f k = g k) : Ends f Q := by
  obtain ⟨k, r, hk, hq⟩ := h
  exact ⟨k, r, (e k).trans hk, hq⟩
/-- From some rounds on. -/
theorem Ends.late {α : Type} {f g : Nat → Option α} {Q : α → Prop} (m : Nat) (hg : ∀ k, LeO (g k) (g (k + 1))) (h : Ends g Q) (e : ∀ k, m ≤ k → f (k + 1) = g k) : Ends f Q := by
  obtain ⟨k, r, hk, hq⟩ := h
  exact ⟨k + m + 1, r, (e (k + m) (by omega)).trans (up hg (by omega) hk), hq⟩
theorem Ends.bind {α β : Type} {f : Nat → Option α} {g : Nat → α → Option β} {P : α → Prop} {Q : β → Prop} (hf : ∀ k, LeO (f k) (f (k + 1))) (hg : ∀ a k, LeO (g k a) (g (k + 1) a)) (h : Ends f P) (h2 : ∀ a, P a → Ends (fun k => g k a) Q) : Ends (fun k => (f k).bind (g k)) Q := by
  obtain ⟨k, a, hk, hp⟩ := h
  obtain ⟨m, r, hm, hq⟩ := h2 a hp
  refine ⟨k + m, r, ?_, hq⟩
  show (f (k + m)).bind (g (k + m)) = some r
  rw [up hf (m := k + m) (by omega) hk, Option.bind_some]
  exact up (f := fun k => g k a) (hg a) (by omega) hm

/-- The numbers from i on, d of them, that P holds of. -/
def upto (P : Int → Bool) : Nat → Int → List Int
  | 0, _ => []
  | d + 1, i => if P i = true then i :: upto P d (i + 1) else upto P d (i + 1)
theorem mem_upto (P : Int → Bool) : ∀ (d : Nat) (i x : Int), x ∈ upto P d i ↔ (i ≤ x ∧ x < i + d) ∧ P x = true
  | 0, i, x => by simp [upto]; omega
  | d + 1, i, x => by
    rw [upto]
    by_cases h : P i = true
    · rw [if_pos h, List.mem_cons, mem_upto P d (i + 1) x]
      constructor
      · rintro (rfl | ⟨h1, h2⟩)
        · exact ⟨by omega, h⟩
        · exact ⟨by omega, h2⟩
      · rintro ⟨h1, h2⟩
        by_cases e : x = i
        · exact .inl e
        · exact .inr ⟨by omega, h2⟩
    · rw [if_neg h, mem_upto P d (i + 1) x]
      constructor
      · rintro ⟨h1, h2⟩; exact ⟨by omega, h2⟩
      · rintro ⟨h1, h2⟩
        by_cases e : x = i
        · subst e; exact absurd h2 h
        · exact ⟨by omega, h2⟩
theorem upto_sorted (P : Int → Bool) : ∀ (d : Nat) (i : Int), (upto P d i).Pairwise (· < ·)
  | 0, _ => List.Pairwise.nil
  | d + 1, i => by
    rw [upto]
    split
    · exact List.pairwise_cons.2 ⟨fun x hx => by have := ((mem_upto P d (i + 1) x).1 hx).1; omega, upto_sorted P d (i + 1)⟩
    · exact upto_sorted P d (i + 1)
/-- Rising rows of the same numbers are the same. -/
theorem sorted_eq {l m : List Int} (hl : l.Pairwise (· < ·)) (hm : m.Pairwise (· < ·)) (h : ∀ x, x ∈ l ↔ x ∈ m) : l = m := by
  refine List.Perm.eq_of_pairwise (le := (· < ·)) (fun a b _ _ h1 h2 => by omega) hl hm ?_
  exact (List.perm_ext_iff_of_nodup (hl.imp (fun h e => by omega)) (hm.imp (fun h e => by omega))).2 h
theorem upto_len (P : Int → Bool) : ∀ (d : Nat) (i : Int), (upto P d i).length ≤ d
  | 0, _ => by simp [upto]
  | d + 1, i => by
    have ih := upto_len P d (i + 1)
    rw [upto]
    split
    · simp; omega
    · omega
theorem upto_range (P : Int → Bool) : ∀ (d i : Nat), upto P d i = ((List.range' i d).map (fun (b : Nat) => (b : Int))).filter P
  | 0, _ => rfl
  | d + 1, i => by
    have ih := upto_range P d (i + 1)
    rw [upto, List.range'_succ, List.map_cons, List.filter_cons, ← ih]
    rfl
theorem keptL_upto (row : List Int) (n : Nat) : keptL row n = upto (fun b => row.contains b) n 0 := by
  have := upto_range (fun b => row.contains b) n 0
  rw [← List.range_eq_range'] at this
  unfold keptL
  rw [Int.toNat_natCast]
  exact this.symm

/-- Edges stand in order. -/
theorem edges_sorted : ∀ (rows : List (List Int)) (i : Nat), (∀ r ∈ rows, r.Pairwise (· < ·)) → (edgesFrom i rows).Pairwise (fun e f => e.1 < f.1 ∨ (e.1 = f.1 ∧ e.2 < f.2))
  | [], _, _ => List.Pairwise.nil
  | r :: rows, i, h => by
    rw [edgesFrom, List.pairwise_append]
    refine ⟨?_, edges_sorted rows (i + 1) (fun r hr => h r (List.mem_cons_of_mem _ hr)), fun e he f hf => ?_⟩
    · rw [List.pairwise_map]
      exact (h r List.mem_cons_self).imp (fun hlt => .inr ⟨rfl, hlt⟩)
    · obtain ⟨b, _, rfl⟩ := List.mem_map.1 he
      obtain ⟨j, _, h1, _⟩ := (mem_edgesFrom rows (i + 1) f).1 hf
      refine .inl ?_
      show (i : Int) < f.1
      omega
theorem clean_sorted (g : List (List Int)) : ∀ r ∈ cleanL g, r.Pairwise (· < ·) := by
  intro r hr
  obtain ⟨row, _, rfl⟩ := List.mem_map.1 hr
  rw [keptL_upto]
  exact upto_sorted _ _ _
theorem preds_upto (g : List (List Int)) (b : Int) (hb : 0 ≤ b ∧ b < (g.length : Int)) : rd_L1 (predsL g) b = upto (fun a => eB g a b) g.length 0 := by
  obtain ⟨j, rfl⟩ := Int.eq_ofNat_of_zero_le hb.1
  refine sorted_eq ?_ (upto_sorted _ _ _) (fun x => ?_)
  · rw [rd_preds g j (by omega), List.pairwise_map]
    refine List.Pairwise.imp_of_mem ?_ ((edges_sorted (cleanL g) 0 (clean_sorted g)).filter _)
    intro e f he hf h
    have h1 : e.2 = (j : Int) := by simpa using (List.mem_filter.1 he).2
    have h2 : f.2 = (j : Int) := by simpa using (List.mem_filter.1 hf).2
    omega
  · rw [mem_preds g x _ hb, mem_upto]
    constructor
    · intro h
      have := Eg_in h
      exact ⟨by omega, h⟩
    · exact fun h => h.2
/-- An edge goes back to h. -/
def HdP (g : List (List Int)) (h : Int) : Prop := ∃ b, Eg g b h ∧ Dmb (Eg g) h b
theorem mem_headL {g : List (List Int)} {o r : List Int} {par : Nat → Nat} (R : IdomR g o r par) (h : Int) : h ∈ headL g r ↔ HdP g h := by
  unfold headL
  rw [mem_keptL, List.mem_map]
  constructor
  · rintro ⟨⟨e, he, rfl⟩, _⟩
    obtain ⟨h1, h2⟩ := List.mem_filter.1 he
    have h3 := (mem_edgesL g e.1 e.2).1 h1
    have h4 := Eg_in h3
    exact ⟨e.1, h3, (backL_iff R e.1 e.2 ⟨h4.1, h4.2.1⟩ ⟨h4.2.2.1, h4.2.2.2⟩).1 h2⟩
  · rintro ⟨b, h1, h2⟩
    have h4 := Eg_in h1
    exact ⟨⟨(b, h), List.mem_filter.2 ⟨(mem_edgesL g b h).2 h1, (backL_iff R b h ⟨h4.1, h4.2.1⟩ ⟨h4.2.2.1, h4.2.2.2⟩).2 h2⟩, rfl⟩, h4.2.2.1, h4.2.2.2⟩
theorem headL_upto (g : List (List Int)) (d : List Int) : headL g d = upto (fun h => (headL g d).contains h) g.length 0 := by
  refine sorted_eq ?_ (upto_sorted _ _ _) (fun x => ?_)
  · unfold headL; rw [keptL_upto]; exact upto_sorted _ _ _
  · rw [mem_upto, List.contains_iff_mem]
    constructor
    · intro h
      have := (mem_keptL _ _ _).1 (show x ∈ keptL _ _ from h)
      exact ⟨by omega, h⟩
    · exact fun h => h.2
/-! ### numbers by places -/
section
variable {g : List (List Int)} {o r : List Int} {par : Nat → Nat}
end
/-- An edge goes back to h from b. -/
def BS (g : List (List Int)) (h b : Int) : Prop := Eg g b h ∧ Dmb (Eg g) h b
/-- h's loop, with what is not reached. -/
inductive Bd (g : List (List Int)) (h : Int) : Int → Prop
  | head : Bd g h h
  | src {b : Int} : BS g h b → Bd g h b
  | step {x y : Int} : Bd g h y → y ≠ h → Eg g x y → Bd g h x
/-! ### graph.Body -/
theorem nodup_len (m : Nat) (l : List Int) (hn : l.Nodup) (h : ∀ x ∈ l, 0 ≤ x ∧ x < (m : Int)) : l.length ≤ m := by
  have h1 : l ⊆ upto (fun _ => true) m 0 := fun x hx => by
    have := h x hx
    exact (mem_upto _ _ _ _).2 ⟨by omega, rfl⟩
  have h2 := hn.length_le_of_subset h1
  have h3 := upto_len (fun _ => true) m 0
  omega
section
variable {g : List (List Int)} {h : Int}
structure BdI (g : List (List Int)) (h : Int) (o s : List Int) : Prop where
  head : h ∈ s
  snd : ∀ x ∈ s, Bd g h x
  ond : ∀ x ∈ o, Bd g h x ∧ 0 ≤ x ∧ x < (g.length : Int)
  closed : ∀ y ∈ s, y ≠ h → ∀ x, Eg g x y → x ∈ s ∨ x ∈ o
  src : ∀ b, BS g h b → b ∈ s ∨ b ∈ o
  nodup : s.Nodup
  rng : ∀ x ∈ s, 0 ≤ x ∧ x < (g.length : Int)
theorem body_loop (hn : g.length ≤ 1000) : ∀ (m : Nat) (o s : List Int), m ≤ 100000000 → BdI g h o s → (g.length + 1 - s.length) * (g.length + 1) + o.length ≤ m → ∃ s', bodyLoop (predsL g) (m + 1) o s = some s' ∧ ∀ x, x ∈ s' ↔ Bd g h x := by
  have hpl := predsL_len g
  intro m
  induction m with
  | zero =>
    intro o s hm0 I hm
    have hsl := nodup_len _ s I.nodup I.rng
    obtain ⟨A, hA⟩ : ∃ A, g.length + 1 - s.length = A + 1 := ⟨g.length - s.length, by omega⟩
    rw [hA, Nat.add_mul] at hm
    omega
  | succ m ih =>
    intro o s hm0 I hm
    have hsl := nodup_len _ s I.nodup I.rng
    rw [bodyLoop]
    rcases List.eq_nil_or_concat o with rfl | ⟨o', a, rfl⟩
    · refine ⟨s, rfl, fun x => ⟨I.snd x, fun hB => ?_⟩⟩
      induction hB with
      | head => exact I.head
      | src hB => exact (I.src _ hB).resolve_right (fun h => by cases h)
      | step _ hne he ihb => exact (I.closed _ ihb hne _ he).resolve_right (fun h => by cases h)
    · rw [List.concat_eq_append] at I hm ⊢
      have hlast : (o' ++ [a]).getLast? = some a := by simp
      have hdl : (o' ++ [a]).dropLast = o' := by simp
      have hoa := I.ond a (by simp)
      rw [hlast, hdl]
      simp only []
      rw [List.length_append, List.length_singleton] at hm
      by_cases hc : s.contains a = true
      · rw [if_pos hc]
        rw [List.contains_iff_mem] at hc
        refine ih o' s (by omega) ⟨I.head, I.snd, fun x hx => I.ond x (by simp [hx]), fun y hy hne x he => ?_, fun b hb => ?_, I.nodup, I.rng⟩ (by omega)
        · rcases I.closed y hy hne x he with h1 | h1
          · exact .inl h1
          · rcases List.mem_append.1 h1 with h1 | h1
            · exact .inr h1
            · rw [List.mem_singleton.1 h1]; exact .inl hc
        · rcases I.src b hb with h1 | h1
          · exact .inl h1
          · rcases List.mem_append.1 h1 with h1 | h1
            · exact .inr h1
            · rw [List.mem_singleton.1 h1]; exact .inl hc
      · rw [if_neg hc]
        have hna : a ∉ s := fun h => hc (List.contains_iff_mem.2 h)
        have hrow : (predsL g).getD a.toNat [] = upto (fun x => eB g x a) g.length 0 := preds_upto g a hoa.2
        have hrl := upto_len (fun x => eB g x a) g.length 0
        have hmr : ∀ x, x ∈ upto (fun x => eB g x a) g.length 0 ↔ Eg g x a := fun x => by
          rw [mem_upto]
          exact ⟨fun h => h.2, fun h => by have := Eg_in h; exact ⟨by omega, h⟩⟩
        have hah : a ≠ h := fun e => hna (e ▸ I.head)
        have hs1 : (a :: s).Nodup := List.nodup_cons.2 ⟨hna, I.nodup⟩
        have hs2 : ∀ x ∈ a :: s, 0 ≤ x ∧ x < (g.length : Int) := fun x hx => by
          rcases List.mem_cons.1 hx with rfl | hx
          · exact hoa.2
          · exact I.rng x hx
        have hsl1 := nodup_len _ _ hs1 hs2
        rw [List.length_cons] at hsl1
        rw [hrow, if_pos ⟨hoa.2.1, by omega, by rw [List.length_append]; omega, by omega⟩]
        obtain ⟨A, hA⟩ : ∃ A, g.length + 1 - s.length = A + 1 := ⟨g.length - s.length, by omega⟩
        rw [hA, Nat.add_mul] at hm
        refine ih _ (a :: s) (by omega) ⟨List.mem_cons_of_mem _ I.head, fun x hx => ?_, fun x hx => ?_, fun y hy hne x he => ?_, fun b hb => ?_, hs1, hs2⟩ ?_
        · rcases List.mem_cons.1 hx with rfl | hx
          · exact hoa.1
          · exact I.snd x hx
        · rcases List.mem_append.1 hx with hx | hx
          · exact I.ond x (by simp [hx])
          · have he := (hmr x).1 hx
            have := Eg_in he
            exact ⟨.step hoa.1 hah he, this.1, this.2.1⟩
        · rcases List.mem_cons.1 hy with rfl | hy
          · exact .inr (List.mem_append_right _ ((hmr x).2 he))
          · rcases I.closed y hy hne x he with h1 | h1
            · exact .inl (List.mem_cons_of_mem _ h1)
            · rcases List.mem_append.1 h1 with h1 | h1
              · exact .inr (List.mem_append_left _ h1)
              · rw [List.mem_singleton.1 h1]; exact .inl List.mem_cons_self
        · rcases I.src b hb with h1 | h1
          · exact .inl (List.mem_cons_of_mem _ h1)
          · rcases List.mem_append.1 h1 with h1 | h1
            · exact .inr (List.mem_append_left _ h1)
            · rw [List.mem_singleton.1 h1]; exact .inl List.mem_cons_self
        · rw [List.length_append, List.length_cons, show g.length + 1 - (s.length + 1) = A from by omega]
          omega
variable {o r : List Int} {par : Nat → Nat}
theorem mem_openL (R : IdomR g o r par) (b : Int) : b ∈ openL g r h ↔ BS g h b := by
  unfold openL
  rw [List.mem_map]
  constructor
  · rintro ⟨e, he, rfl⟩
    obtain ⟨h1, h2⟩ := List.mem_filter.1 he
    rw [Bool.and_eq_true, beq_iff_eq] at h2
    have h3 := (mem_edgesL g e.1 e.2).1 h1
    have h4 := Eg_in h3
    have h5 := (backL_iff R e.1 e.2 ⟨h4.1, h4.2.1⟩ ⟨h4.2.2.1, h4.2.2.2⟩).1 h2.2
    rw [h2.1] at h3 h5
    exact ⟨h3, h5⟩
  · rintro ⟨h1, h2⟩
    have h4 := Eg_in h1
    exact ⟨(b, h), List.mem_filter.2 ⟨(mem_edgesL g b h).2 h1, by rw [Bool.and_eq_true]; exact ⟨by simp, (backL_iff R b h ⟨h4.1, h4.2.1⟩ ⟨h4.2.2.1, h4.2.2.2⟩).2 h2⟩⟩, rfl⟩
/-- What graph.Body tells: the blocks of the loop that are reached, rising. -/
theorem body_some (hg : okG g = true) (hn : 0 < g.length) (hn2 : g.length ≤ 1000) (R : IdomR g o r par) {k0 : Nat} (ho : graph_Order.f k0 g = some o) (hr : graph_Idom.f k0 g = some r) (hh : -1 ≤ h ∧ h ≤ (g.length : Int)) (P : Int → Bool) (hP : ∀ x, 0 ≤ x → x < (g.length : Int) → (P x = true ↔ Rch (Eg g) x ∧ Bd g h x)) :
    ∃ k s, graph_Body.f k g h = some s ∧ ((∃ b, BS g h b) → s = upto P g.length 0) ∧ ((¬ ∃ b, BS g h b) → s = []) := by
  have hol := ordd_len R.ord
  have hel := edgesL_length g
  have hmul : g.length * g.length ≤ 1000 * 1000 := Nat.mul_le_mul hn2 hn2
  have hrl := R.lst.len
  have cond : r.length = g.length ∧ (edgesL g).length ≤ 100000000 ∧ o.length ≤ 1000000 ∧ (∀ b ∈ o, 0 ≤ b ∧ b < (g.length : Int)) ∧ -1 ≤ h ∧ h ≤ (g.length : Int) := ⟨hrl, by omega, by omega, R.ord.rng, hh.1, hh.2⟩
  by_cases hop : openL g r h = []
  · have hno : ¬ ∃ b, BS g h b := fun ⟨b, hb⟩ => by
      have := (mem_openL R b).2 hb
      rw [hop] at this
      cases this
    refine ⟨k0, [], ?_, fun h => absurd h hno, fun _ => rfl⟩
    unfold graph_Body.f
    rw [if_pos hg, hr, Option.bind_some, ho, Option.bind_some, if_pos cond, if_pos hop]
  · have hex : ∃ b, BS g h b := by
      rcases hc : openL g r h with _ | ⟨b, l⟩
      · exact absurd hc hop
      · exact ⟨b, (mem_openL R b).1 (by rw [hc]; exact List.mem_cons_self)⟩
    obtain ⟨b0, hb0⟩ := hex
    have hr0 := Eg_in hb0.1
    have hopl : (openL g r h).length ≤ 1000 * 1000 := by
      unfold openL
      rw [List.length_map]
      have := List.length_filter_le (fun e : Int × Int => e.2 == h && backL r e.1 e.2) (edgesL g)
      omega
    have hm2 : (g.length + 1 - [h].length) * (g.length + 1) ≤ 1000 * 1001 := Nat.mul_le_mul (by simp; omega) (by omega)
    obtain ⟨s', h1, h2⟩ := body_loop (g := g) (h := h) hn2 100000000 (openL g r h) [h] (Nat.le_refl _) ⟨by simp, fun x hx => by rw [List.mem_singleton.1 hx]; exact .head, fun x hx => by
        have hB := (mem_openL R x).1 hx
        have := Eg_in hB.1
        exact ⟨.src hB, this.1, this.2.1⟩, fun y hy hne => absurd (List.mem_singleton.1 hy) hne, fun b hb => .inr ((mem_openL R b).2 hb), by simp, fun x hx => by rw [List.mem_singleton.1 hx]; exact ⟨hr0.2.2.1, hr0.2.2.2⟩⟩ (by omega)
    refine ⟨k0 + 100000001, isort (o.filter fun b => s'.contains b), ?_, fun _ => ?_, fun hno => absurd ⟨b0, hb0⟩ hno⟩
    · have e1 := up (f := fun k => graph_Idom.f k g) (fun k => graph_Idom.mono g k) (m := k0 + 100000001) (by omega) hr
      have e2 := up (f := fun k => graph_Order.f k g) (fun k => graph_Order.mono k g) (m := k0 + 100000001) (by omega) ho
      have e3 := up (f := fun k => bodyLoop (predsL g) k (openL g r h) [h]) (fun k => bodyLoop_mono _ k _ _) (m := k0 + 100000001) (by omega) h1
      unfold graph_Body.f
      rw [if_pos hg, e1, Option.bind_some, e2, Option.bind_some, if_pos cond, if_neg hop, e3]
      rfl
    · have hperm := isort_perm (o.filter fun b => s'.contains b)
      have hnd : (isort (o.filter fun b => s'.contains b)).Nodup := hperm.nodup_iff.2 (R.ord.nodup.filter _)
      refine sorted_eq ?_ (upto_sorted _ _ _) (fun x => ?_)
      · refine List.Pairwise.imp_of_mem ?_ ((isort_sorted _).and hnd)
        intro a b _ _ hab
        have := hab.1
        have := hab.2
        omega
      · rw [hperm.mem_iff, List.mem_filter, List.contains_iff_mem, h2, mem_upto, reach_iff R.ord]
        constructor
        · rintro ⟨h3, h4⟩
          have := RAv.rng hn h3
          exact ⟨by omega, (hP x this.1 this.2).2 ⟨h3, h4⟩⟩
        · rintro ⟨h3, h4⟩
          exact (hP x h3.1 (by omega)).1 h4
end
section
variable {g : List (List Int)} {o r : List Int} {par : Nat → Nat}
theorem headers_some (hg : okG g = true) (hn2 : g.length ≤ 1000) (R : IdomR g o r par) {k : Nat} (hr : graph_Idom.f k g = some r) : graph_Headers.f k g = some (headL g r) := by
  have hel := edgesL_length g
  have hmul : g.length * g.length ≤ 1000 * 1000 := Nat.mul_le_mul hn2 hn2
  unfold graph_Headers.f
  rw [if_pos hg, hr, Option.bind_some, if_pos ⟨R.lst.len, by omega⟩]
end
/-- One look: does p lead to x, which stands in and leads on? -/
def stX (g : List (List Int)) (inn : Int → Bool) (p : Int) (G : Int → Bool) (x : Int) : Int → Bool := fun y => if y = p then (G p || (eB g p x && (inn x && G x))) else G y
def stK (g : List (List Int)) (inn : Int → Bool) (n : Nat) (G : Int → Bool) (p : Int) : Int → Bool := (List.range n).foldl (fun G (x : Nat) => stX g inn p G x) G
def stI (g : List (List Int)) (inn : Int → Bool) (n : Nat) (bd : List Int) (G : Int → Bool) : Int → Bool := bd.foldl (stK g inn n) G
def stA (g : List (List Int)) (inn : Int → Bool) (n : Nat) (bd : List Int) (d : Nat) (G : Int → Bool) : Int → Bool := (List.range d).foldl (fun G _ => stI g inn n bd G) G
section
variable {g : List (List Int)} {inn : Int → Bool} {n : Nat}
theorem stX_le {p x y : Int} {G : Int → Bool} (h : G y = true) : stX g inn p G x y = true := by
  unfold stX
  split
  · rename_i e; subst e; rw [h]; rfl
  · exact h
theorem stX_new {p x : Int} {G : Int → Bool} (he : eB g p x = true) (hi : inn x = true) (hG : G x = true) : stX g inn p G x p = true := by
  unfold stX
  rw [if_pos rfl, he, hi, hG]
  simp
theorem fold_le {α : Type} (f : (Int → Bool) → α → (Int → Bool)) (hf : ∀ G a y, G y = true → f G a y = true) : ∀ (l : List α) (G : Int → Bool) (y : Int), G y = true → l.foldl f G y = true
  | [], _, _, h => h
  | a :: l, G, y, h => by rw [List.foldl_cons]; exact fold_le f hf l _ y (hf G a y h)
theorem stK_le {p y : Int} {G : Int → Bool} (h : G y = true) : stK g inn n G p y = true := fold_le _ (fun G a y h => stX_le h) _ _ _ h
theorem stI_le {bd : List Int} {y : Int} {G : Int → Bool} (h : G y = true) : stI g inn n bd G y = true := fold_le _ (fun G a y h => stK_le h) _ _ _ h
theorem stK_new {p x : Int} {G : Int → Bool} (hx : 0 ≤ x ∧ x < n) (he : eB g p x = true) (hi : inn x = true) (hG : G x = true) : stK g inn n G p p = true := by
  obtain ⟨j, rfl⟩ := Int.eq_ofNat_of_zero_le hx.1
  have hj : j ∈ List.range n := List.mem_range.2 (by omega)
  obtain ⟨l1, l2, e⟩ := List.append_of_mem hj
  unfold stK
  rw [e, List.foldl_append, List.foldl_cons]
  refine fold_le _ (fun G a y h => stX_le h) _ _ _ ?_
  have h1 := fold_le (fun G (x : Nat) => stX g inn p G x) (fun G a y h => stX_le h) l1 G j hG
  exact stX_new he hi h1
theorem stI_new {bd : List Int} {p x : Int} {G : Int → Bool} (hp : p ∈ bd) (hx : 0 ≤ x ∧ x < n) (he : eB g p x = true) (hi : inn x = true) (hG : G x = true) : stI g inn n bd G p = true := by
  obtain ⟨l1, l2, rfl⟩ := List.append_of_mem hp
  unfold stI
  rw [List.foldl_append, List.foldl_cons]
  exact fold_le _ (fun G a y h => stK_le h) _ _ _ (stK_new hx he hi (fold_le _ (fun G a y h => stK_le h) l1 G x hG))
theorem stA_snoc {bd : List Int} (d : Nat) (G : Int → Bool) : stA g inn n bd (d + 1) G = stI g inn n bd (stA g inn n bd d G) := by
  unfold stA
  rw [List.range_succ, List.foldl_append]
  rfl
theorem cnt_eq (P Q : Int → Bool) : ∀ (l : List Int), (∀ x ∈ l, P x = true → Q x = true) → l.countP P ≤ l.countP Q ∧ (l.countP Q ≤ l.countP P → ∀ x ∈ l, Q x = true → P x = true)
  | [], _ => ⟨Nat.le_refl _, fun _ x hx => by cases hx⟩
  | a :: l, h => by
    obtain ⟨h1, h2⟩ := cnt_eq P Q l (fun x hx => h x (List.mem_cons_of_mem _ hx))
    have ha := h a List.mem_cons_self
    rw [List.countP_cons, List.countP_cons]
    cases hP : P a <;> cases hQ : Q a
    · refine ⟨by simp; exact h1, fun hc x hx hq => ?_⟩
      rcases List.mem_cons.1 hx with rfl | hx
      · rw [hQ] at hq; cases hq
      · exact h2 (by simpa using hc) x hx hq
    · refine ⟨by simp; omega, fun hc => ?_⟩
      simp at hc; omega
    · rw [hP, hQ] at ha; exact absurd (ha rfl) (by decide)
    · refine ⟨by simp; exact h1, fun hc x hx hq => ?_⟩
      rcases List.mem_cons.1 hx with rfl | hx
      · exact hP
      · exact h2 (by simpa using hc) x hx hq
end
section
variable {g : List (List Int)} {h : Int}
theorem bd_dom (hb : ∃ b, BS g h b) {x : Int} (hB : Bd g h x) (hr : Rch (Eg g) x) : Dmb (Eg g) h x := by
  obtain ⟨b, hb⟩ := hb
  induction hB with
  | head => exact ⟨hr, hr, .inl rfl⟩
  | src hS => exact hS.2
  | @step x y _ hne he ih =>
    have hy := Rch.step (Eg_nn g) hr he
    have hd := ih hy
    refine ⟨hd.1, hr, ?_⟩
    by_cases e : h = x
    · exact .inl e
    · refine .inr (fun hav => ?_)
      rcases hd.2.2 with e2 | e2
      · exact hne e2.symm
      · exact e2 (.step hav he hne)
/-- All of the loop leads to its header within. -/
theorem bd_goes (P : Int → Bool) (hP : ∀ x, 0 ≤ x → x < (g.length : Int) → (P x = true ↔ Rch (Eg g) x ∧ Bd g h x)) (hb : ∃ b, BS g h b) (bd : List Int) (hbd : bd = upto P g.length 0) (x : Int) (hx : x ∈ bd) :
    stA g (fun y => bd.contains y) g.length bd bd.length (fun y => decide (y = h)) x = true := by
  obtain ⟨b, hb⟩ := hb
  have hr := Eg_in hb.1
  have mem : ∀ y, y ∈ bd ↔ Rch (Eg g) y ∧ Bd g h y := fun y => by
    rw [hbd, mem_upto]
    constructor
    · rintro ⟨h1, h2⟩; exact (hP y h1.1 (by omega)).1 h2
    · intro h2
      have := RAv.rng (by omega) h2.1
      exact ⟨by omega, (hP y this.1 this.2).2 h2⟩
  have hh : h ∈ bd := (mem h).2 ⟨hb.2.1, .head⟩
  have key : ∀ d, (∀ y ∈ bd, stA g (fun y => bd.contains y) g.length bd d (fun y => decide (y = h)) y = true) ∨ d + 1 ≤ bd.countP (stA g (fun y => bd.contains y) g.length bd d (fun y => decide (y = h))) := by
    intro d
    have h0 : ∀ d, stA g (fun y => bd.contains y) g.length bd d (fun y => decide (y = h)) h = true := fun d => by
      unfold stA
      exact fold_le _ (fun G a y h => stI_le h) _ _ _ (by simp)
    induction d with
    | zero =>
      refine .inr ?_
      have := List.countP_pos_iff (p := stA g (fun y => bd.contains y) g.length bd 0 (fun y => decide (y = h))).2 ⟨h, hh, h0 0⟩
      omega
    | succ d ih =>
      rw [stA_snoc]
      obtain ⟨G, hG⟩ : ∃ G, stA g (fun y => bd.contains y) g.length bd d (fun y => decide (y = h)) = G := ⟨_, rfl⟩
      have h0d := h0 d
      rw [hG] at ih h0d ⊢
      rcases ih with ih | ih
      · exact .inl (fun y hy => stI_le (ih y hy))
      · obtain ⟨c1, c2⟩ := cnt_eq G (stI g (fun y => bd.contains y) g.length bd G) bd (fun y _ hy => stI_le hy)
        by_cases hc : bd.countP (stI g (fun y => bd.contains y) g.length bd G) ≤ bd.countP G
        · refine .inl (fun y hy => stI_le ?_)
          have same := c2 hc
          have all : ∀ y, Bd g h y → Rch (Eg g) y → G y = true := by
            intro y hB
            induction hB with
            | head => intro _; exact h0d
            | @src b2 hS =>
              intro hrb
              have hr2 := Eg_in hS.1
              exact same b2 ((mem b2).2 ⟨hrb, .src hS⟩) (stI_new ((mem b2).2 ⟨hrb, .src hS⟩) ⟨hr2.2.2.1, hr2.2.2.2⟩ hS.1 (List.contains_iff_mem.2 hh) h0d)
            | @step x2 y2 hB2 hne he ih2 =>
              intro hrx
              have hr2 := Eg_in he
              have hy2 := Rch.step (Eg_nn g) hrx he
              have hx2 := (mem x2).2 ⟨hrx, .step hB2 hne he⟩
              exact same x2 hx2 (stI_new hx2 ⟨hr2.2.2.1, hr2.2.2.2⟩ he (List.contains_iff_mem.2 ((mem y2).2 ⟨hy2, hB2⟩)) (ih2 hy2))
          have := (mem y).1 hy
          exact all y this.2 this.1
        · exact .inr (by omega)
  rcases key bd.length with h1 | h1
  · exact h1 x hx
  · have := List.countP_le_length (p := stA g (fun y => bd.contains y) g.length bd bd.length (fun y => decide (y = h))) (l := bd)
    omega
/-- It is come into by its header alone. -/
theorem bd_into {a y : Int} (hB : Bd g h y) (he : Eg g a y) (hne : y ≠ h) (hr : Rch (Eg g) a) : Bd g h a := .step hB hne he
end
/-- What the law's walk is told of a graph. -/
structure LbT (k : Nat) (l0 : List Int) (a1 : Int) (g : List (List Int)) (hl : List Int) (j h : Int) (bd : List Int) (all : List Bool) : Prop where
  made : jacquardref02_Made.f k l0 = some g
  gl : g.length ≤ 10
  head : graph_Headers.f k g = some hl
  hll : hl.length ≤ 10
  rest : jacquardlaw02_rest.f a1 hl.length = some j
  j0 : 0 ≤ j
  j1 : j < hl.length
  hh : rd hl j = h
  h0 : 0 ≤ h
  h1 : h < g.length
  body : graph_Body.f k g h = some bd
  bl : bd.length ≤ 10
  br : ∀ x ∈ bd, 0 ≤ x ∧ x < g.length
  wo : jacquardref02_Without.f k g (-1) = some all
  al : all.length = g.length
  dom : ∀ x ∈ bd, jacquardref02_Dom.f k g h x = some true
  edge : ∀ a b : Int, jacquardref02_Edge.f k g a b = some (eB g a b)
  goes : ∀ x ∈ bd, stA g (fun y => bd.contains y) g.length bd bd.length (fun y => decide (y = h)) x = true
  fin : ∀ a, 0 ≤ a → a < (g.length : Int) → ∀ y ∈ bd, eB g a y = true → rdOf false all a = true → bd.contains a = false → y = h
  hin : bd.contains h = true
/-- Memory while the law goes round: both maps, and what was before. -/
structure GoI (w W : World) (M1 M2 : Nat) (f G : Int → Bool) (N : Nat) : Prop where
  m1 : ∃ n, MB W M1 n f
  m2 : ∃ n, n ≤ N ∧ MB W M2 n G
  below : Below w.heap.size w W
  b1 : w.heap.size ≤ M1
  b2 : M1 < M2
theorem GoI.drew {w W : World} {M1 M2 N : Nat} {f G : Int → Bool} (H : GoI w W M1 M2 f G N) (n : Nat) : GoI w (W.drewN n) M1 M2 f G N := by
  have hb : Below W.heap.size W (W.drewN n) := pw_below_drewN (Below.refl _ _) n
  obtain ⟨n1, h1⟩ := H.m1
  obtain ⟨n2, h2, h3⟩ := H.m2
  exact ⟨⟨n1, h1.below hb⟩, ⟨n2, h2, h3.below hb⟩, H.below.trans (hb.mono H.below.size), H.b1, H.b2⟩
theorem GoI.drew1 {w W : World} {M1 M2 N : Nat} {f G : Int → Bool} (H : GoI w W M1 M2 f G N) : GoI w W.drew M1 M2 f G N := by
  have hb : Below W.heap.size W W.drew := below_drew1 (Below.refl _ _)
  obtain ⟨n1, h1⟩ := H.m1
  obtain ⟨n2, h2, h3⟩ := H.m2
  exact ⟨⟨n1, h1.below hb⟩, ⟨n2, h2, h3.below hb⟩, H.below.trans (hb.mono H.below.size), H.b1, H.b2⟩
theorem GoI.put {w W : World} {M1 M2 N : Nat} {f G : Int → Bool} (H : GoI w W M1 M2 f G N) {x : Int} (v : Bool) (hx : wf64 x) (hN : N < maxLen) : ∃ W', (Instr.mapUpdate 55 (.map (some M2)) (.int .i64 x) (.bool v)).run Try.prog W = .ok () W' ∧ GoI w W' M1 M2 f (fun y => if y = x then v else G y) (N + 1) := by
  obtain ⟨n1, h1⟩ := H.m1
  obtain ⟨n2, h2, h3⟩ := H.m2
  have hb1 := H.b1
  have hb2 := H.b2
  obtain ⟨W', hr, hM, hg⟩ := h3.put (x := x) v hx (by omega)
  exact ⟨W', hr, ⟨⟨n1, h1.kept hg (by intro e; injection e with e; omega)⟩, ⟨n2 + 1, by omega, hM⟩, H.below.grown hg H.below.size (fun k e => by injection e with e; omega), hb1, hb2⟩⟩
theorem GoI.more {w W : World} {M1 M2 N N' : Nat} {f G : Int → Bool} (H : GoI w W M1 M2 f G N) (h : N ≤ N') : GoI w W M1 M2 f G N' :=
  ⟨H.m1, H.m2.imp (fun n h2 => ⟨by omega, h2.2⟩), H.below, H.b1, H.b2⟩
theorem take_fold {α : Type} (f : α → Int → α) (bd : List Int) (i : Nat) (hi : i < bd.length) (G : α) : (bd.take (i + 1)).foldl f G = f ((bd.take i).foldl f G) (rd bd i) := by
  have e : rd bd i = bd[i] := by simp [rd, hi]
  rw [List.take_succ_eq_append_getElem hi, List.foldl_append, e]
  rfl
theorem range_fold {α : Type} (f : α → Nat → α) (x : Nat) (G : α) : (List.range (x + 1)).foldl f G = f ((List.range x).foldl f G) x := by
  rw [List.range_succ, List.foldl_append]
  rfl
theorem take_contains (bd : List Int) (i : Nat) (hi : i < bd.length) : (fun y => if y = rd bd i then true else (bd.take i).contains y) = fun x => (bd.take (i + 1)).contains x := by
  funext y
  have e : rd bd i = bd[i] := by simp [rd, hi]
  rw [List.take_succ_eq_append_getElem hi, ← e, Bool.eq_iff_iff, List.contains_iff_mem, List.mem_append, List.mem_singleton]
  by_cases h : y = rd bd i
  · rw [if_pos h]; exact ⟨fun _ => .inr h, fun _ => rfl⟩
  · rw [if_neg h, List.contains_iff_mem]; exact ⟨.inl, fun hh => hh.resolve_right h⟩
set_option maxHeartbeats 8000000 in
set_option maxRecDepth 100000 in
theorem lbody_true (k : Nat) (A0 : Option Addr) (c0 : Nat) (l0 : List Int) (a1 : Int) (w : World) (hr0 : Kd.C (Kd.int .i64) w A0 l0.length l0) (hc0 : l0.length ≤ c0)
    {g : List (List Int)} {hl : List Int} {j h : Int} {bd : List Int} {all : List Bool} (T : LbT k l0 a1 g hl j h bd all) :
    Calls Try.prog 8 #[.slice A0 l0.length c0, .int .i64 a1] w fun e w' => e = .returned (.bool true) ∧ Below w.heap.size w w' := by
  have HT := Aside0.mk T
  have HR0 := Aside0.mk hr0
  have HC0 := Aside0.mk hc0
  clear T hr0 hc0
  go_enter Try.func8, Try.ntmps8
  go_wp2_with fail
  refine (jacquardlaw02_awake.calls true _ rfl).mono ?_
  rintro e W1 ⟨rfl, hb1⟩
  have HB1 := Aside0.mk hb1
  clear hb1
  go_wp2_with fail
  refine (jacquardref02_Made.calls k _ _ l0 g _ (Kd.C_below HR0.out HB1.out) HC0.out HT.out.made).mono ?_
  rintro e W2 ⟨v, rfl, ho, hb⟩
  obtain ⟨A6, c6, rfl, hl6, hC6⟩ := Kd.S_reads ho
  have HB2 := Aside0.mk (HB1.out.trans (hb.mono HB1.out.size))
  have HL6 := Aside0.mk hl6
  have HG2 := Aside0.mk hC6
  clear ho hb hl6 hC6 HB1
  go_wp2_with fail
  refine (graph_Headers.calls k _ _ g hl _ HG2.out HL6.out HT.out.head).mono ?_
  rintro e W3 ⟨v, rfl, ho, hb⟩
  obtain ⟨A7, c7, rfl, hl7, hC7⟩ := Kd.R_reads ho
  obtain ⟨ad7, e7, hx7⟩ := Kd.at_int hC7 j HT.out.j0 HT.out.j1
  subst e7
  rw [HT.out.hh] at hx7
  have HB3 := Aside0.mk (HB2.out.trans (hb.mono HB2.out.size))
  have HG3 := Aside0.mk (Kd.C_below HG2.out hb)
  have hz7 : ((hl.length : Int) == 0) = false := beq_eq_false_iff_ne.2 (by have := HT.out.j0; have := HT.out.j1; omega)
  have p7 := eq_true HT.out.j0
  have q7 := eq_true HT.out.j1
  clear ho hb hl7 hC7 HB2 HG2
  go_wp2_with fail
  refine (jacquardlaw02_rest.calls a1 _ j _ HT.out.rest).mono ?_
  rintro e W4 ⟨rfl, ⟨nd, rfl⟩⟩
  go_wp2_with fail
  clear hz7 p7 q7 hx7
  refine (graph_Body.calls k _ _ g h bd _ (Kd.C_drewN HG3.out _) HL6.out HT.out.body).mono ?_
  rintro e W5 ⟨v, rfl, ho, hb⟩
  obtain ⟨A9, c9, rfl, hl9, hC9⟩ := Kd.R_reads ho
  have hb3 : Below w.heap.size w (W3.drewN nd) := pw_below_drewN HB3.out nd
  have HB5 := Aside0.mk (hb3.trans (hb.mono hb3.size))
  have HG5 := Aside0.mk (Kd.C_below (Kd.C_drewN HG3.out nd) hb)
  have HL9 := Aside0.mk hl9
  have HD5 := Aside0.mk hC9
  clear ho hb hl9 hC9 hb3 HB3 HG3
  go_wp2_with fail
  refine (jacquardref02_Without.calls k _ _ g (-1) all _ HG5.out HL6.out HT.out.wo).mono ?_
  rintro e W6 ⟨v, rfl, ho, hb⟩
  obtain ⟨A10, c10, rfl, hl10, hC10⟩ := Kd.R_reads ho
  have HB6 := Aside0.mk (HB5.out.trans (hb.mono HB5.out.size))
  have HG6 := Aside0.mk (Kd.C_below HG5.out hb)
  have HD6 := Aside0.mk (Kd.C_below HD5.out hb)
  have HL10 := Aside0.mk hl10
  have HA6 := Aside0.mk hC10
  clear ho hb hl10 hC10 HB5 HG5 HD5
  have hmm := @run_makeMap Try.prog
  go_wp2
  clear hmm
  obtain ⟨M1, hM1⟩ : ∃ M1, W6.heap.size = M1 := ⟨_, rfl⟩
  have hM0 := MB.made W6
  have hB0 : Below W6.heap.size W6 (W6.alloc (.map #[] 0)) := below_alloc (Below.refl _ _) _
  rw [hM1] at hM0
  rw [hM1]
  have HM1 := Aside0.mk hM1
  have HM0 := Aside0.mk (show ∃ n, n ≤ 0 ∧ MB (W6.alloc (.map #[] 0)) M1 n (fun x => (bd.take 0).contains x) from ⟨0, Nat.le_refl _, hM0⟩)
  have HB0 := Aside0.mk hB0
  clear hM0 hB0 hM1
  go_loopg [12] bd.length (fun kq v12 W' => ∃ i : Nat, v12 = .int .i64 i ∧ Aside0 (kq + i = bd.length) ∧ Aside0 (∃ n, n ≤ i ∧ MB W' M1 n (fun x => (bd.take i).contains x)) ∧ Aside0 (Below W6.heap.size W6 W'))
  case atStart => exact ⟨0, rfl, ⟨rfl⟩, HM0, HB0⟩
  case round =>
    clear HM0 HB0
    obtain ⟨i, rfl, HJ, HM, HB⟩ := hrel
    cases gk with
    | zero =>
      have hi : i = bd.length := by have := HJ.out; omega
      subst hi
      obtain ⟨n1, hn1, hM1w⟩ := HM.out
      rw [List.take_length] at hM1w
      have HMA := Aside0.mk hM1w
      have hmm := @run_makeMap Try.prog
      have hM2 := MB.made wr
      have hB2 : Below W6.heap.size W6 (wr.alloc (.map #[] 0)) := below_alloc HB.out _
      have hM1b := hM1w.below (below_alloc (Below.refl _ wr) (.map #[] 0))
      have hlt := hM1w.lt
      obtain ⟨W9, hrun9, hM9, hg9⟩ := hM2.put (x := h) true (wf64_of (by have := HT.out.h0; omega) (by have := HT.out.h1; have := HT.out.gl; omega)) (by unfold maxLen; omega)
      go_wp2
      have hG0 : (fun y => if y = h then true else false) = fun y => decide (y = h) := by
        funext y
        by_cases e : y = h <;> simp [e]
      rw [hG0] at hM9
      obtain ⟨M2, hM2e⟩ : ∃ M2, wr.heap.size = M2 := ⟨_, rfl⟩
      rw [hM2e] at hM9 hg9 hlt ⊢
      have HGO := Aside0.mk (show GoI W6 W9 M1 M2 (fun x => bd.contains x) (stA g (fun y => bd.contains y) g.length bd 0 (fun y => decide (y = h))) 1 from ⟨⟨n1, hM1b.kept hg9 (by intro e; injection e with e; omega)⟩, ⟨0 + 1, Nat.le_refl _, hM9⟩, hB2.grown hg9 hB2.size (fun k e => by injection e with e; have := HM1.out; omega), by have := HM1.out; omega, hlt⟩)
      clear hmm hM2 hB2 hM1b hlt hrun9 hM9 hg9 hG0 hM1w HMA HM hn1 hM2e HB HJ
      go_loopg [15] bd.length (fun kq v15 W' => ∃ i : Nat, v15 = .int .i64 i ∧ Aside0 (kq + i = bd.length) ∧ Aside0 (GoI W6 W' M1 M2 (fun x => bd.contains x) (stA g (fun y => bd.contains y) g.length bd i (fun y => decide (y = h))) (1 + i * 100000)))
      case atStart => exact ⟨0, rfl, ⟨rfl⟩, HGO⟩
      case round =>
        clear HGO
        obtain ⟨i, rfl, HJ, HGO⟩ := hrel
        cases gk with
        | zero =>
          have hi : i = bd.length := by have := HJ.out; omega
          subst hi
          obtain ⟨GG, hGG⟩ : ∃ GG, stA g (fun y => bd.contains y) g.length bd bd.length (fun y => decide (y = h)) = GG := ⟨_, rfl⟩
          have HGG := Aside0.mk (show ∀ y ∈ bd, GG y = true by rw [← hGG]; exact HT.out.goes)
          rw [hGG] at HGO
          clear hGG HJ
          have hbl := HT.out.bl
          go_wp2
          clear hbl
          go_loopg [19] g.length (fun kq v19 W' => ∃ a : Nat, v19 = .int .i64 a ∧ Aside0 (kq + a = g.length) ∧ Aside0 (GoI W6 W' M1 M2 (fun x => bd.contains x) GG (1 + bd.length * 100000)))
          case atStart => exact ⟨0, rfl, ⟨rfl⟩, HGO⟩
          case round =>
            clear HGO
            obtain ⟨a, rfl, HJ, HGO⟩ := hrel
            cases gk with
            | zero =>
              have ha : a = g.length := by have := HJ.out; omega
              subst ha
              obtain ⟨na, hMa⟩ := HGO.out.m1
              have k1 := hMa.look (x := h) (wf64_of (by have := HT.out.h0; omega) (by have := HT.out.h1; have := HT.out.gl; omega))
              simp only [HT.out.hin] at k1
              have HBF := Aside0.mk (HB6.out.trans (HGO.out.below.mono HB6.out.size))
              clear hMa
              go_wp2
              go_ret
              exact ⟨rfl, HBF.out⟩
            | succ k1 =>
              have ha : a < g.length := by have := HJ.out; omega
              have hgl := HT.out.gl
              have HA := Aside0.mk ha
              go_wp2
              clear ha hgl
              go_loopg [20] bd.length (fun kq v20 W' => ∃ kk : Nat, v20 = .int .i64 kk ∧ Aside0 (kq + kk = bd.length) ∧ Aside0 (GoI W6 W' M1 M2 (fun x => bd.contains x) GG (1 + bd.length * 100000)))
              case atStart => exact ⟨0, rfl, ⟨rfl⟩, HGO⟩
              case round =>
                clear HGO
                obtain ⟨kk, rfl, HJ2, HGO⟩ := hrel
                cases gk with
                | zero =>
                  have hk : kk = bd.length := by have := HJ2.out; omega
                  subst hk
                  have hgl := HT.out.gl
                  have ha := HA.out
                  go_wp2
                  go_roundg k1
                  case measure => omega
                  case rel => exact ⟨a + 1, by go_num, ⟨by have := HJ.out; omega⟩, HGO⟩
                | succ k2 =>
                  have hk : kk < bd.length := by have := HJ2.out; omega
                  have HK := Aside0.mk hk
                  have hbl := HT.out.bl
                  obtain ⟨p, hp⟩ : ∃ p, rd bd kk = p := ⟨_, rfl⟩
                  have hpm : p ∈ bd := by
                    rw [← hp]
                    have e : rd bd kk = bd[kk] := by simp [rd, hk]
                    rw [e]; exact List.getElem_mem _
                  have HPM := Aside0.mk hpm
                  obtain ⟨ad, eA, hc⟩ := Kd.at_int HD6.out (kk : Int) (by omega) (by omega)
                  subst eA
                  rw [hp] at hc
                  simp only [Int.toNat_natCast] at hc
                  replace hc := (HGO.out.below.cell (World.block_lt_of_cell? _ _ hc)).trans hc
                  clear hp hpm
                  go_wp2_with fail
                  refine (jacquardref02_Edge.calls k _ _ g (a : Int) p (eB g a p) _ (Kd.C_below HG6.out HGO.out.below) HL6.out (HT.out.edge a p)).mono ?_
                  rintro e W10 ⟨rfl, ⟨nd, rfl⟩⟩
                  have ha := HA.out
                  have hal := HT.out.al
                  have hgl := HT.out.gl
                  have hpr := HT.out.br p HPM.out
                  obtain ⟨ad2, eA2, hc2⟩ := Kd.at_bool HA6.out (a : Int) (by omega) (by omega)
                  subst eA2
                  simp only [Int.toNat_natCast] at hc2
                  replace hc2 := (HGO.out.below.cell (World.block_lt_of_cell? _ _ hc2)).trans hc2
                  have HGO2 := Aside0.mk (HGO.out.drew nd)
                  obtain ⟨na, hMa⟩ := HGO2.out.m1
                  obtain ⟨nb, _, hMb⟩ := HGO2.out.m2
                  have j1 := hMb.look (x := p) (wf64_of (by omega) (by omega))
                  have j2 := hMa.look (x := (a : Int)) (wf64_of (by omega) (by omega))
                  simp only [HGG.out p HPM.out] at j1
                  have hfin := HT.out.fin (a : Int) (by omega) (by omega) p HPM.out
                  have HFIN := Aside0.mk hfin
                  have ha2 : a < all.length := by omega
                  clear hMa hMb hpr hfin hal HGO
                  cases hE : eB g (a : Int) p with
                  | false =>
                    clear hE j2 hc2
                    go_wp2
                    go_roundg k2
                    case measure => omega
                    case rel => exact ⟨kk + 1, by go_num, ⟨by have := HJ2.out; omega⟩, HGO2⟩
                  | true =>
                    have HE := Aside0.mk hE
                    clear hE
                    cases hAl : rdOf false all (a : Int) with
                    | false =>
                      rw [hAl] at hc2
                      clear hAl j2
                      go_wp2
                      go_roundg k2
                      case measure => omega
                      case rel => exact ⟨kk + 1, by go_num, ⟨by have := HJ2.out; omega⟩, HGO2⟩
                    | true =>
                      rw [hAl] at hc2
                      have HAl := Aside0.mk hAl
                      clear hAl
                      cases hN : bd.contains (a : Int) with
                      | true =>
                        simp only [hN] at j2
                        clear hN
                        go_wp2
                        go_roundg k2
                        case measure => omega
                        case rel => exact ⟨kk + 1, by go_num, ⟨by have := HJ2.out; omega⟩, HGO2⟩
                      | false =>
                        simp only [hN] at j2
                        obtain rfl : p = h := HFIN.out HE.out HAl.out hN
                        clear hN
                        go_wp2
                        go_roundg k2
                        case measure => omega
                        case rel => exact ⟨kk + 1, by go_num, ⟨by have := HJ2.out; omega⟩, HGO2⟩
        | succ k1 =>
          have hi : i < bd.length := by have := HJ.out; omega
          have hbl := HT.out.bl
          have HI := Aside0.mk hi
          go_wp2
          clear hi hbl
          go_loopg [16] bd.length (fun kq v16 W' => ∃ kk : Nat, v16 = .int .i64 kk ∧ Aside0 (kq + kk = bd.length) ∧ Aside0 (GoI W6 W' M1 M2 (fun x => bd.contains x) ((bd.take kk).foldl (stK g (fun y => bd.contains y) g.length) (stA g (fun y => bd.contains y) g.length bd i (fun y => decide (y = h)))) (1 + i * 100000 + kk * 1000)))
          case atStart => exact ⟨0, rfl, ⟨rfl⟩, HGO⟩
          case round =>
            clear HGO
            obtain ⟨kk, rfl, HJ2, HGO⟩ := hrel
            cases gk with
            | zero =>
              have hk : kk = bd.length := by have := HJ2.out; omega
              subst hk
              have hbl := HT.out.bl
              have hi := HI.out
              have HS := Aside0.mk (stA_snoc (g := g) (inn := fun y => bd.contains y) (n := g.length) (bd := bd) i (fun y => decide (y = h)))
              go_wp2
              go_roundg k1
              case measure => omega
              case rel => exact ⟨i + 1, by go_num, ⟨by have := HJ.out; omega⟩, ⟨by
                rw [HS.out]
                have := HGO.out
                rw [List.take_length] at this
                exact this.more (by omega)⟩⟩
            | succ k2 =>
              have hk : kk < bd.length := by have := HJ2.out; omega
              have hbl := HT.out.bl
              have HK := Aside0.mk hk
              obtain ⟨p, hp⟩ : ∃ p, rd bd kk = p := ⟨_, rfl⟩
              have HP := Aside0.mk hp
              obtain ⟨GK, hGK⟩ : ∃ GK, (bd.take kk).foldl (stK g (fun y => bd.contains y) g.length) (stA g (fun y => bd.contains y) g.length bd i (fun y => decide (y = h))) = GK := ⟨_, rfl⟩
              have HGK := Aside0.mk hGK
              rw [hGK] at HGO
              clear hGK hp
              go_wp2
              clear hk hbl
              go_loopg [17] g.length (fun kq v17 W' => ∃ x : Nat, v17 = .int .i64 x ∧ Aside0 (kq + x = g.length) ∧ Aside0 (GoI W6 W' M1 M2 (fun x => bd.contains x) ((List.range x).foldl (fun G (x : Nat) => stX g (fun y => bd.contains y) p G x) GK) (1 + i * 100000 + kk * 1000 + x)))
              case atStart => exact ⟨0, rfl, ⟨rfl⟩, HGO⟩
              case round =>
                clear HGO
                obtain ⟨x, rfl, HJ3, HGO⟩ := hrel
                cases gk with
                | zero =>
                  have hx : x = g.length := by have := HJ3.out; omega
                  subst hx
                  have hgl := HT.out.gl
                  have hbl := HT.out.bl
                  have hk := HK.out
                  go_wp2
                  go_roundg k2
                  case measure => omega
                  case rel => exact ⟨kk + 1, by go_num, ⟨by have := HJ2.out; omega⟩, ⟨by
                    rw [take_fold _ bd kk HK.out, HGK.out, HP.out]
                    exact HGO.out.more (by omega)⟩⟩
                | succ k3 =>
                  have hx : x < g.length := by have := HJ3.out; omega
                  have HX := Aside0.mk hx
                  have hgl := HT.out.gl
                  have hbl := HT.out.bl
                  have hk := HK.out
                  obtain ⟨ad, eA, hc⟩ := Kd.at_int HD6.out (kk : Int) (by omega) (by omega)
                  subst eA
                  rw [HP.out] at hc
                  simp only [Int.toNat_natCast] at hc
                  replace hc := (HGO.out.below.cell (World.block_lt_of_cell? _ _ hc)).trans hc
                  go_wp2_with fail
                  refine (jacquardref02_Edge.calls k _ _ g p (x : Int) (eB g p x) _ (Kd.C_below HG6.out HGO.out.below) HL6.out (HT.out.edge p x)).mono ?_
                  rintro e W10 ⟨rfl, ⟨nd, rfl⟩⟩
                  go_wp2
                  obtain ⟨G, hG⟩ : ∃ G, (List.range x).foldl (fun G (x : Nat) => stX g (fun y => bd.contains y) p G x) GK = G := ⟨_, rfl⟩
                  have HGE := Aside0.mk hG
                  rw [hG] at HGO
                  obtain ⟨W11, hW11⟩ : ∃ W11, wr.drewN nd = W11 := ⟨_, rfl⟩
                  have HGO2 := Aside0.mk ((HGO.out.drew nd).drew1)
                  replace hc : (wr.drewN nd).drew.cell? (ad.add kk) = some (.int .i64 p) := hc
                  rw [hW11] at hc HGO2 ⊢
                  clear hW11 hG HGO
                  have hpr : 0 ≤ p ∧ p < g.length := HT.out.br p (by
                    rw [← HP.out]
                    have e : rd bd kk = bd[kk]'HK.out := by simp [rd, HK.out]
                    rw [e]; exact List.getElem_mem _)
                  obtain ⟨na, hMa⟩ := HGO2.out.m1
                  obtain ⟨nb, _, hMb⟩ := HGO2.out.m2
                  have k1 := hMb.look (x := p) (wf64_of (by omega) (by omega))
                  have k2 := hMa.look (x := (x : Int)) (wf64_of (by omega) (by omega))
                  have k3' := hMb.look (x := (x : Int)) (wf64_of (by omega) (by omega))
                  cases hGp : G p with
                  | true =>
                    rw [hGp] at k1
                    obtain ⟨W13, hrun, hGO3⟩ := HGO2.out.put (x := p) true (wf64_of (by omega) (by omega)) (by unfold maxLen; have := HI.out; omega)
                    have hfun : (fun y => if y = p then true else G y) = stX g (fun y => bd.contains y) p G (x : Int) := by
                      funext y
                      unfold stX
                      rw [hGp]
                      simp
                    rw [hfun] at hGO3
                    have HGO3 := Aside0.mk (hGO3.more (show _ ≤ 1 + i * 100000 + kk * 1000 + (x + 1) by omega))
                    clear hGO3 hfun hMa hMb hpr hx hgl hbl HGO2
                    refine start_ (n := 25) (S := fun w' => w'.cell? (ad.add kk) = some (.int .i64 p) ∧ (Instr.lookup 55 (.map (some M2)) (.int .i64 p) false).run Try.prog w' = .ok (.bool true) w' ∧ (Instr.lookup 55 (.map (some M1)) (.int .i64 (x : Int)) false).run Try.prog w' = .ok (.bool (bd.contains (x : Int))) w' ∧ (Instr.lookup 55 (.map (some M2)) (.int .i64 (x : Int)) false).run Try.prog w' = .ok (.bool (G (x : Int))) w') (ds := [24]) #[false, false, false, false, false, false, false, false, false, false, false, false, false, false, false, false, false, false, false, false, false, false, false, false, false] (by kernel_rfl) rfl rfl ⟨hc, k1, k2, k3'⟩ (fun hHeld => ?_)
                    clear hc k1 k2 k3'
                    generalize W11.drew = Wd at hHeld hrun ⊢
                    refine pure_ (i := 0) (N := some 92) (v := ?_) (a' := ?_) #[true, false, false, false, false, false, false, false, false, false, false, false, false, false, false, false, false, false, false, false, false, false, false, false, false] rfl rfl (by kernel_rfl) (fun _ _ _ h => h) (Or.inl ⟨by rfl, ?_⟩) ?_ ?_
                    rotate_left
                    · intro w'
                      go_simp
                      with_reducible rfl
                    rotate_left
                    · simp only [Act.put, List.setIfInBounds_toArray, List.set_cons_zero, List.set_cons_succ, i64_w, i32_w]
                      rfl
                    refine pure_ (i := 1) (N := some 93) (v := ?_) (a' := ?_) #[true, true, false, false, false, false, false, false, false, false, false, false, false, false, false, false, false, false, false, false, false, false, false, false, false] rfl rfl (by kernel_rfl) (fun _ _ _ h => h) (Or.inl ⟨by rfl, ?_⟩) ?_ ?_
                    rotate_left
                    · intro w'
                      go_simp
                      with_reducible rfl
                    rotate_left
                    · simp only [Act.put, List.setIfInBounds_toArray, List.set_cons_zero, List.set_cons_succ, i64_w, i32_w]
                      rfl
                    refine pure_ (i := 2) (N := some 94) (v := ?_) (a' := ?_) #[true, true, true, false, false, false, false, false, false, false, false, false, false, false, false, false, false, false, false, false, false, false, false, false, false] rfl rfl (by kernel_rfl) (fun _ _ _ h => h) (Or.inl ⟨by rfl, ?_⟩) ?_ ?_
                    rotate_left
                    · intro w'
                      go_simp
                      with_reducible rfl
                    rotate_left
                    · simp only [Act.put, List.setIfInBounds_toArray, List.set_cons_zero, List.set_cons_succ, i64_w, i32_w]
                      rfl
                    refine pure_ (i := 3) (N := some 95) (v := ?_) (a' := ?_) #[true, true, true, true, false, false, false, false, false, false, false, false, false, false, false, false, false, false, false, false, false, false, false, false, false] rfl rfl (by kernel_rfl) (fun _ _ _ h => h) (Or.inl ⟨by rfl, ?_⟩) ?_ ?_
                    rotate_left
                    · intro w'
                      go_simp
                      with_reducible rfl
                    rotate_left
                    · simp only [Act.put, List.setIfInBounds_toArray, List.set_cons_zero, List.set_cons_succ, i64_w, i32_w]
                      rfl
                    refine take_ (i := 4) (N := some 96) (v := ?_) (a' := ?_) #[true, true, true, true, true, false, false, false, false, false, false, false, false, false, false, false, false, false, false, false, false, false, false, false, false] rfl rfl (by kernel_rfl) (fun _ _ _ h => h) (Or.inl ⟨by rfl, ?_⟩) hHeld ?_ ?_
                    rotate_left
                    · rintro w' ⟨s0, s1, s2, s3⟩
                      go_simp
                      with_reducible rfl
                    rotate_left
                    · simp only [Act.put, List.setIfInBounds_toArray, List.set_cons_zero, List.set_cons_succ, i64_w, i32_w]
                      rfl
                    refine pure_ (i := 5) (N := some 97) (v := ?_) (a' := ?_) #[true, true, true, true, true, true, false, false, false, false, false, false, false, false, false, false, false, false, false, false, false, false, false, false, false] rfl rfl (by kernel_rfl) (fun _ _ _ h => h) (Or.inl ⟨by rfl, ?_⟩) ?_ ?_
                    rotate_left
                    · intro w'
                      go_simp
                      with_reducible rfl
                    rotate_left
                    · simp only [Act.put, List.setIfInBounds_toArray, List.set_cons_zero, List.set_cons_succ, i64_w, i32_w]
                      rfl
                    refine pure_ (i := 6) (N := some 98) (v := ?_) (a' := ?_) #[true, true, true, true, true, true, true, false, false, false, false, false, false, false, false, false, false, false, false, false, false, false, false, false, false] rfl rfl (by kernel_rfl) (fun _ _ _ h => h) (Or.inl ⟨by rfl, ?_⟩) ?_ ?_
                    rotate_left
                    · intro w'
                      go_simp
                      with_reducible rfl
                    rotate_left
                    · simp only [Act.put, List.setIfInBounds_toArray, List.set_cons_zero, List.set_cons_succ, i64_w, i32_w]
                      rfl
                    refine pure_ (i := 7) (N := some 99) (v := ?_) (a' := ?_) #[true, true, true, true, true, true, true, true, false, false, false, false, false, false, false, false, false, false, false, false, false, false, false, false, false] rfl rfl (by kernel_rfl) (fun _ _ _ h => h) (Or.inl ⟨by rfl, ?_⟩) ?_ ?_
                    rotate_left
                    · intro w'
                      go_simp
                      with_reducible rfl
                    rotate_left
                    · simp only [Act.put, List.setIfInBounds_toArray, List.set_cons_zero, List.set_cons_succ, i64_w, i32_w]
                      rfl
                    refine pure_ (i := 8) (N := some 100) (v := ?_) (a' := ?_) #[true, true, true, true, true, true, true, true, true, false, false, false, false, false, false, false, false, false, false, false, false, false, false, false, false] rfl rfl (by kernel_rfl) (fun _ _ _ h => h) (Or.inl ⟨by rfl, ?_⟩) ?_ ?_
                    rotate_left
                    · intro w'
                      go_simp
                      with_reducible rfl
                    rotate_left
                    · simp only [Act.put, List.setIfInBounds_toArray, List.set_cons_zero, List.set_cons_succ, i64_w, i32_w]
                      rfl
                    refine take_ (i := 9) (N := some 101) (v := ?_) (a' := ?_) #[true, true, true, true, true, true, true, true, true, true, false, false, false, false, false, false, false, false, false, false, false, false, false, false, false] rfl rfl (by kernel_rfl) (fun _ _ _ h => h) (Or.inl ⟨by rfl, ?_⟩) hHeld ?_ ?_
                    rotate_left
                    · rintro w' ⟨s0, s1, s2, s3⟩
                      go_simp
                      with_reducible rfl
                    rotate_left
                    · simp only [Act.put, List.setIfInBounds_toArray, List.set_cons_zero, List.set_cons_succ, i64_w, i32_w]
                      rfl
                    refine take_ (i := 10) (N := some 102) (v := ?_) (a' := ?_) #[true, true, true, true, true, true, true, true, true, true, true, false, false, false, false, false, false, false, false, false, false, false, false, false, false] rfl rfl (by kernel_rfl) (fun _ _ _ h => h) (Or.inl ⟨by rfl, ?_⟩) hHeld ?_ ?_
                    rotate_left
                    · rintro w' ⟨s0, s1, s2, s3⟩
                      go_simp
                      with_reducible rfl
                    rotate_left
                    · simp only [Act.put, List.setIfInBounds_toArray, List.set_cons_zero, List.set_cons_succ, i64_w, i32_w]
                      rfl
                    refine pure_ (i := 11) (N := some 103) (v := ?_) (a' := ?_) #[true, true, true, true, true, true, true, true, true, true, true, true, false, false, false, false, false, false, false, false, false, false, false, false, false] rfl rfl (by kernel_rfl) (fun _ _ _ h => h) (Or.inl ⟨by rfl, ?_⟩) ?_ ?_
                    rotate_left
                    · intro w'
                      go_simp
                      with_reducible rfl
                    rotate_left
                    · simp only [Act.put, List.setIfInBounds_toArray, List.set_cons_zero, List.set_cons_succ, i64_w, i32_w]
                      rfl
                    refine pure_ (i := 12) (N := some 104) (v := undef) (a' := ?_) #[true, true, true, true, true, true, true, true, true, true, true, true, true, false, false, false, false, false, false, false, false, false, false, false, false] rfl rfl (by kernel_rfl) (fun _ _ _ h => h) (Or.inr ⟨by rfl, rfl⟩) ?_ ?_
                    rotate_left
                    · simp only [Act.put, List.setIfInBounds_toArray, List.set_cons_zero, List.set_cons_succ, i64_w, i32_w]
                      rfl
                    refine pure_ (i := 13) (N := some 105) (v := undef) (a' := ?_) #[true, true, true, true, true, true, true, true, true, true, true, true, true, true, false, false, false, false, false, false, false, false, false, false, false] rfl rfl (by kernel_rfl) (fun _ _ _ h => h) (Or.inr ⟨by rfl, rfl⟩) ?_ ?_
                    rotate_left
                    · simp only [Act.put, List.setIfInBounds_toArray, List.set_cons_zero, List.set_cons_succ, i64_w, i32_w]
                      rfl
                    refine pure_ (i := 14) (N := some 106) (v := undef) (a' := ?_) #[true, true, true, true, true, true, true, true, true, true, true, true, true, true, true, false, false, false, false, false, false, false, false, false, false] rfl rfl (by kernel_rfl) (fun _ _ _ h => h) (Or.inr ⟨by rfl, rfl⟩) ?_ ?_
                    rotate_left
                    · simp only [Act.put, List.setIfInBounds_toArray, List.set_cons_zero, List.set_cons_succ, i64_w, i32_w]
                      rfl
                    refine pure_ (i := 15) (N := some 107) (v := undef) (a' := ?_) #[true, true, true, true, true, true, true, true, true, true, true, true, true, true, true, true, false, false, false, false, false, false, false, false, false] rfl rfl (by kernel_rfl) (fun _ _ _ h => h) (Or.inr ⟨by rfl, rfl⟩) ?_ ?_
                    rotate_left
                    · simp only [Act.put, List.setIfInBounds_toArray, List.set_cons_zero, List.set_cons_succ, i64_w, i32_w]
                      rfl
                    refine pure_ (i := 16) (N := some 108) (v := undef) (a' := ?_) #[true, true, true, true, true, true, true, true, true, true, true, true, true, true, true, true, true, false, false, false, false, false, false, false, false] rfl rfl (by kernel_rfl) (fun _ _ _ h => h) (Or.inr ⟨by rfl, rfl⟩) ?_ ?_
                    rotate_left
                    · simp only [Act.put, List.setIfInBounds_toArray, List.set_cons_zero, List.set_cons_succ, i64_w, i32_w]
                      rfl
                    refine pure_ (i := 17) (N := some 109) (v := undef) (a' := ?_) #[true, true, true, true, true, true, true, true, true, true, true, true, true, true, true, true, true, true, false, false, false, false, false, false, false] rfl rfl (by kernel_rfl) (fun _ _ _ h => h) (Or.inr ⟨by rfl, rfl⟩) ?_ ?_
                    rotate_left
                    · simp only [Act.put, List.setIfInBounds_toArray, List.set_cons_zero, List.set_cons_succ, i64_w, i32_w]
                      rfl
                    refine pure_ (i := 18) (N := some 110) (v := undef) (a' := ?_) #[true, true, true, true, true, true, true, true, true, true, true, true, true, true, true, true, true, true, true, false, false, false, false, false, false] rfl rfl (by kernel_rfl) (fun _ _ _ h => h) (Or.inr ⟨by rfl, rfl⟩) ?_ ?_
                    rotate_left
                    · simp only [Act.put, List.setIfInBounds_toArray, List.set_cons_zero, List.set_cons_succ, i64_w, i32_w]
                      rfl
                    refine pure_ (i := 19) (N := some 111) (v := undef) (a' := ?_) #[true, true, true, true, true, true, true, true, true, true, true, true, true, true, true, true, true, true, true, true, false, false, false, false, false] rfl rfl (by kernel_rfl) (fun _ _ _ h => h) (Or.inr ⟨by rfl, rfl⟩) ?_ ?_
                    rotate_left
                    · simp only [Act.put, List.setIfInBounds_toArray, List.set_cons_zero, List.set_cons_succ, i64_w, i32_w]
                      rfl
                    refine pure_ (i := 20) (N := some 112) (v := undef) (a' := ?_) #[true, true, true, true, true, true, true, true, true, true, true, true, true, true, true, true, true, true, true, true, true, false, false, false, false] rfl rfl (by kernel_rfl) (fun _ _ _ h => h) (Or.inr ⟨by rfl, rfl⟩) ?_ ?_
                    rotate_left
                    · simp only [Act.put, List.setIfInBounds_toArray, List.set_cons_zero, List.set_cons_succ, i64_w, i32_w]
                      rfl
                    refine pure_ (i := 21) (N := some 113) (v := undef) (a' := ?_) #[true, true, true, true, true, true, true, true, true, true, true, true, true, true, true, true, true, true, true, true, true, true, false, false, false] rfl rfl (by kernel_rfl) (fun _ _ _ h => h) (Or.inr ⟨by rfl, rfl⟩) ?_ ?_
                    rotate_left
                    · simp only [Act.put, List.setIfInBounds_toArray, List.set_cons_zero, List.set_cons_succ, i64_w, i32_w]
                      rfl
                    refine pure_ (i := 22) (N := some 114) (v := undef) (a' := ?_) #[true, true, true, true, true, true, true, true, true, true, true, true, true, true, true, true, true, true, true, true, true, true, true, false, false] rfl rfl (by kernel_rfl) (fun _ _ _ h => h) (Or.inr ⟨by rfl, rfl⟩) ?_ ?_
                    rotate_left
                    · simp only [Act.put, List.setIfInBounds_toArray, List.set_cons_zero, List.set_cons_succ, i64_w, i32_w]
                      rfl
                    refine pure_ (i := 23) (N := some 115) (v := ?_) (a' := ?_) #[true, true, true, true, true, true, true, true, true, true, true, true, true, true, true, true, true, true, true, true, true, true, true, true, false] rfl rfl (by kernel_rfl) (fun _ _ _ h => h) (Or.inl ⟨by rfl, ?_⟩) ?_ ?_
                    rotate_left
                    · intro w'
                      go_simp
                      with_reducible rfl
                    rotate_left
                    · simp only [Act.put, List.setIfInBounds_toArray, List.set_cons_zero, List.set_cons_succ, i64_w, i32_w]
                      rfl
                    refine last_ (i := 24) (N := none) #[true, true, true, true, true, true, true, true, true, true, true, true, true, true, true, true, true, true, true, true, true, true, true, true, true] rfl rfl (by kernel_rfl) (by decide) (fun K hK => ?_)
                    refine skip_ (w1 := W13) (by rfl) rfl ?_ ?_
                    · go_simp
                    · refine hK.out _ _ ?_
                      refine done_ (by kernel_rfl) ?_
                      clear hK K hrun
                      have hgl := HT.out.gl
                      have hx := HX.out
                      go_wp2
                      go_roundg k3
                      case measure => omega
                      case rel => exact ⟨x + 1, by go_num, ⟨by have := HJ3.out; omega⟩, ⟨by rw [range_fold, HGE.out]; exact HGO3.out⟩⟩
                  | false =>
                    rw [hGp] at k1
                    cases hE : eB g p (x : Int) with
                    | false =>
                      obtain ⟨W13, hrun, hGO3⟩ := HGO2.out.put (x := p) false (wf64_of (by omega) (by omega)) (by unfold maxLen; have := HI.out; omega)
                      have hfun : (fun y => if y = p then false else G y) = stX g (fun y => bd.contains y) p G (x : Int) := by
                        funext y
                        unfold stX
                        rw [hGp, hE]
                        simp
                      rw [hfun] at hGO3
                      have HGO3 := Aside0.mk (hGO3.more (show _ ≤ 1 + i * 100000 + kk * 1000 + (x + 1) by omega))
                      clear hGO3 hfun hMa hMb hpr hx hgl hbl HGO2
                      refine start_ (n := 25) (S := fun w' => w'.cell? (ad.add kk) = some (.int .i64 p) ∧ (Instr.lookup 55 (.map (some M2)) (.int .i64 p) false).run Try.prog w' = .ok (.bool false) w' ∧ (Instr.lookup 55 (.map (some M1)) (.int .i64 (x : Int)) false).run Try.prog w' = .ok (.bool (bd.contains (x : Int))) w' ∧ (Instr.lookup 55 (.map (some M2)) (.int .i64 (x : Int)) false).run Try.prog w' = .ok (.bool (G (x : Int))) w') (ds := [24]) #[false, false, false, false, false, false, false, false, false, false, false, false, false, false, false, false, false, false, false, false, false, false, false, false, false] (by kernel_rfl) rfl rfl ⟨hc, k1, k2, k3'⟩ (fun hHeld => ?_)
                      clear hc k1 k2 k3'
                      generalize W11.drew = Wd at hHeld hrun ⊢
                      refine pure_ (i := 0) (N := some 92) (v := ?_) (a' := ?_) #[true, false, false, false, false, false, false, false, false, false, false, false, false, false, false, false, false, false, false, false, false, false, false, false, false] rfl rfl (by kernel_rfl) (fun _ _ _ h => h) (Or.inl ⟨by rfl, ?_⟩) ?_ ?_
                      rotate_left
                      · intro w'
                        go_simp
                        with_reducible rfl
                      rotate_left
                      · simp only [Act.put, List.setIfInBounds_toArray, List.set_cons_zero, List.set_cons_succ, i64_w, i32_w]
                        rfl
                      refine pure_ (i := 1) (N := some 93) (v := ?_) (a' := ?_) #[true, true, false, false, false, false, false, false, false, false, false, false, false, false, false, false, false, false, false, false, false, false, false, false, false] rfl rfl (by kernel_rfl) (fun _ _ _ h => h) (Or.inl ⟨by rfl, ?_⟩) ?_ ?_
                      rotate_left
                      · intro w'
                        go_simp
                        with_reducible rfl
                      rotate_left
                      · simp only [Act.put, List.setIfInBounds_toArray, List.set_cons_zero, List.set_cons_succ, i64_w, i32_w]
                        rfl
                      refine pure_ (i := 2) (N := some 94) (v := ?_) (a' := ?_) #[true, true, true, false, false, false, false, false, false, false, false, false, false, false, false, false, false, false, false, false, false, false, false, false, false] rfl rfl (by kernel_rfl) (fun _ _ _ h => h) (Or.inl ⟨by rfl, ?_⟩) ?_ ?_
                      rotate_left
                      · intro w'
                        go_simp
                        with_reducible rfl
                      rotate_left
                      · simp only [Act.put, List.setIfInBounds_toArray, List.set_cons_zero, List.set_cons_succ, i64_w, i32_w]
                        rfl
                      refine pure_ (i := 3) (N := some 95) (v := ?_) (a' := ?_) #[true, true, true, true, false, false, false, false, false, false, false, false, false, false, false, false, false, false, false, false, false, false, false, false, false] rfl rfl (by kernel_rfl) (fun _ _ _ h => h) (Or.inl ⟨by rfl, ?_⟩) ?_ ?_
                      rotate_left
                      · intro w'
                        go_simp
                        with_reducible rfl
                      rotate_left
                      · simp only [Act.put, List.setIfInBounds_toArray, List.set_cons_zero, List.set_cons_succ, i64_w, i32_w]
                        rfl
                      refine take_ (i := 4) (N := some 96) (v := ?_) (a' := ?_) #[true, true, true, true, true, false, false, false, false, false, false, false, false, false, false, false, false, false, false, false, false, false, false, false, false] rfl rfl (by kernel_rfl) (fun _ _ _ h => h) (Or.inl ⟨by rfl, ?_⟩) hHeld ?_ ?_
                      rotate_left
                      · rintro w' ⟨s0, s1, s2, s3⟩
                        go_simp
                        with_reducible rfl
                      rotate_left
                      · simp only [Act.put, List.setIfInBounds_toArray, List.set_cons_zero, List.set_cons_succ, i64_w, i32_w]
                        rfl
                      refine pure_ (i := 5) (N := some 97) (v := ?_) (a' := ?_) #[true, true, true, true, true, true, false, false, false, false, false, false, false, false, false, false, false, false, false, false, false, false, false, false, false] rfl rfl (by kernel_rfl) (fun _ _ _ h => h) (Or.inl ⟨by rfl, ?_⟩) ?_ ?_
                      rotate_left
                      · intro w'
                        go_simp
                        with_reducible rfl
                      rotate_left
                      · simp only [Act.put, List.setIfInBounds_toArray, List.set_cons_zero, List.set_cons_succ, i64_w, i32_w]
                        rfl
                      refine pure_ (i := 6) (N := some 98) (v := ?_) (a' := ?_) #[true, true, true, true, true, true, true, false, false, false, false, false, false, false, false, false, false, false, false, false, false, false, false, false, false] rfl rfl (by kernel_rfl) (fun _ _ _ h => h) (Or.inl ⟨by rfl, ?_⟩) ?_ ?_
                      rotate_left
                      · intro w'
                        go_simp
                        with_reducible rfl
                      rotate_left
                      · simp only [Act.put, List.setIfInBounds_toArray, List.set_cons_zero, List.set_cons_succ, i64_w, i32_w]
                        rfl
                      refine pure_ (i := 7) (N := some 99) (v := ?_) (a' := ?_) #[true, true, true, true, true, true, true, true, false, false, false, false, false, false, false, false, false, false, false, false, false, false, false, false, false] rfl rfl (by kernel_rfl) (fun _ _ _ h => h) (Or.inl ⟨by rfl, ?_⟩) ?_ ?_
                      rotate_left
                      · intro w'
                        go_simp
                        with_reducible rfl
                      rotate_left
                      · simp only [Act.put, List.setIfInBounds_toArray, List.set_cons_zero, List.set_cons_succ, i64_w, i32_w]
                        rfl
                      refine pure_ (i := 8) (N := some 100) (v := ?_) (a' := ?_) #[true, true, true, true, true, true, true, true, true, false, false, false, false, false, false, false, false, false, false, false, false, false, false, false, false] rfl rfl (by kernel_rfl) (fun _ _ _ h => h) (Or.inl ⟨by rfl, ?_⟩) ?_ ?_
                      rotate_left
                      · intro w'
                        go_simp
                        with_reducible rfl
                      rotate_left
                      · simp only [Act.put, List.setIfInBounds_toArray, List.set_cons_zero, List.set_cons_succ, i64_w, i32_w]
                        rfl
                      refine take_ (i := 9) (N := some 101) (v := ?_) (a' := ?_) #[true, true, true, true, true, true, true, true, true, true, false, false, false, false, false, false, false, false, false, false, false, false, false, false, false] rfl rfl (by kernel_rfl) (fun _ _ _ h => h) (Or.inl ⟨by rfl, ?_⟩) hHeld ?_ ?_
                      rotate_left
                      · rintro w' ⟨s0, s1, s2, s3⟩
                        go_simp
                        with_reducible rfl
                      rotate_left
                      · simp only [Act.put, List.setIfInBounds_toArray, List.set_cons_zero, List.set_cons_succ, i64_w, i32_w]
                        rfl
                      refine take_ (i := 10) (N := some 102) (v := ?_) (a' := ?_) #[true, true, true, true, true, true, true, true, true, true, true, false, false, false, false, false, false, false, false, false, false, false, false, false, false] rfl rfl (by kernel_rfl) (fun _ _ _ h => h) (Or.inl ⟨by rfl, ?_⟩) hHeld ?_ ?_
                      rotate_left
                      · rintro w' ⟨s0, s1, s2, s3⟩
                        go_simp
                        with_reducible rfl
                      rotate_left
                      · simp only [Act.put, List.setIfInBounds_toArray, List.set_cons_zero, List.set_cons_succ, i64_w, i32_w]
                        rfl
                      refine pure_ (i := 11) (N := some 103) (v := ?_) (a' := ?_) #[true, true, true, true, true, true, true, true, true, true, true, true, false, false, false, false, false, false, false, false, false, false, false, false, false] rfl rfl (by kernel_rfl) (fun _ _ _ h => h) (Or.inl ⟨by rfl, ?_⟩) ?_ ?_
                      rotate_left
                      · intro w'
                        go_simp
                        with_reducible rfl
                      rotate_left
                      · simp only [Act.put, List.setIfInBounds_toArray, List.set_cons_zero, List.set_cons_succ, i64_w, i32_w]
                        rfl
                      refine pure_ (i := 12) (N := some 104) (v := ?_) (a' := ?_) #[true, true, true, true, true, true, true, true, true, true, true, true, true, false, false, false, false, false, false, false, false, false, false, false, false] rfl rfl (by kernel_rfl) (fun _ _ _ h => h) (Or.inl ⟨by rfl, ?_⟩) ?_ ?_
                      rotate_left
                      · intro w'
                        go_simp
                        with_reducible rfl
                      rotate_left
                      · simp only [Act.put, List.setIfInBounds_toArray, List.set_cons_zero, List.set_cons_succ, i64_w, i32_w]
                        rfl
                      refine pure_ (i := 13) (N := some 105) (v := ?_) (a' := ?_) #[true, true, true, true, true, true, true, true, true, true, true, true, true, true, false, false, false, false, false, false, false, false, false, false, false] rfl rfl (by kernel_rfl) (fun _ _ _ h => h) (Or.inl ⟨by rfl, ?_⟩) ?_ ?_
                      rotate_left
                      · intro w'
                        go_simp
                        with_reducible rfl
                      rotate_left
                      · simp only [Act.put, List.setIfInBounds_toArray, List.set_cons_zero, List.set_cons_succ, i64_w, i32_w]
                        rfl
                      refine pure_ (i := 14) (N := some 106) (v := undef) (a' := ?_) #[true, true, true, true, true, true, true, true, true, true, true, true, true, true, true, false, false, false, false, false, false, false, false, false, false] rfl rfl (by kernel_rfl) (fun _ _ _ h => h) (Or.inr ⟨by rfl, rfl⟩) ?_ ?_
                      rotate_left
                      · simp only [Act.put, List.setIfInBounds_toArray, List.set_cons_zero, List.set_cons_succ, i64_w, i32_w]
                        rfl
                      refine pure_ (i := 15) (N := some 107) (v := undef) (a' := ?_) #[true, true, true, true, true, true, true, true, true, true, true, true, true, true, true, true, false, false, false, false, false, false, false, false, false] rfl rfl (by kernel_rfl) (fun _ _ _ h => h) (Or.inr ⟨by rfl, rfl⟩) ?_ ?_
                      rotate_left
                      · simp only [Act.put, List.setIfInBounds_toArray, List.set_cons_zero, List.set_cons_succ, i64_w, i32_w]
                        rfl
                      refine pure_ (i := 16) (N := some 108) (v := undef) (a' := ?_) #[true, true, true, true, true, true, true, true, true, true, true, true, true, true, true, true, true, false, false, false, false, false, false, false, false] rfl rfl (by kernel_rfl) (fun _ _ _ h => h) (Or.inr ⟨by rfl, rfl⟩) ?_ ?_
                      rotate_left
                      · simp only [Act.put, List.setIfInBounds_toArray, List.set_cons_zero, List.set_cons_succ, i64_w, i32_w]
                        rfl
                      refine pure_ (i := 17) (N := some 109) (v := ?_) (a' := ?_) #[true, true, true, true, true, true, true, true, true, true, true, true, true, true, true, true, true, true, false, false, false, false, false, false, false] rfl rfl (by kernel_rfl) (fun _ _ _ h => h) (Or.inl ⟨by rfl, ?_⟩) ?_ ?_
                      rotate_left
                      · intro w'
                        go_simp
                        with_reducible rfl
                      rotate_left
                      · simp only [Act.put, List.setIfInBounds_toArray, List.set_cons_zero, List.set_cons_succ, i64_w, i32_w]
                        rfl
                      refine pure_ (i := 18) (N := some 110) (v := ?_) (a' := ?_) #[true, true, true, true, true, true, true, true, true, true, true, true, true, true, true, true, true, true, true, false, false, false, false, false, false] rfl rfl (by kernel_rfl) (fun _ _ _ h => h) (Or.inl ⟨by rfl, ?_⟩) ?_ ?_
                      rotate_left
                      · intro w'
                        go_simp
                        with_reducible rfl
                      rotate_left
                      · simp only [Act.put, List.setIfInBounds_toArray, List.set_cons_zero, List.set_cons_succ, i64_w, i32_w]
                        rfl
                      refine pure_ (i := 19) (N := some 111) (v := undef) (a' := ?_) #[true, true, true, true, true, true, true, true, true, true, true, true, true, true, true, true, true, true, true, true, false, false, false, false, false] rfl rfl (by kernel_rfl) (fun _ _ _ h => h) (Or.inr ⟨by rfl, rfl⟩) ?_ ?_
                      rotate_left
                      · simp only [Act.put, List.setIfInBounds_toArray, List.set_cons_zero, List.set_cons_succ, i64_w, i32_w]
                        rfl
                      refine pure_ (i := 20) (N := some 112) (v := undef) (a' := ?_) #[true, true, true, true, true, true, true, true, true, true, true, true, true, true, true, true, true, true, true, true, true, false, false, false, false] rfl rfl (by kernel_rfl) (fun _ _ _ h => h) (Or.inr ⟨by rfl, rfl⟩) ?_ ?_
                      rotate_left
                      · simp only [Act.put, List.setIfInBounds_toArray, List.set_cons_zero, List.set_cons_succ, i64_w, i32_w]
                        rfl
                      refine pure_ (i := 21) (N := some 113) (v := undef) (a' := ?_) #[true, true, true, true, true, true, true, true, true, true, true, true, true, true, true, true, true, true, true, true, true, true, false, false, false] rfl rfl (by kernel_rfl) (fun _ _ _ h => h) (Or.inr ⟨by rfl, rfl⟩) ?_ ?_
                      rotate_left
                      · simp only [Act.put, List.setIfInBounds_toArray, List.set_cons_zero, List.set_cons_succ, i64_w, i32_w]
                        rfl
                      refine pure_ (i := 22) (N := some 114) (v := ?_) (a' := ?_) #[true, true, true, true, true, true, true, true, true, true, true, true, true, true, true, true, true, true, true, true, true, true, true, false, false] rfl rfl (by kernel_rfl) (fun _ _ _ h => h) (Or.inl ⟨by rfl, ?_⟩) ?_ ?_
                      rotate_left
                      · intro w'
                        go_simp
                        with_reducible rfl
                      rotate_left
                      · simp only [Act.put, List.setIfInBounds_toArray, List.set_cons_zero, List.set_cons_succ, i64_w, i32_w]
                        rfl
                      refine pure_ (i := 23) (N := some 115) (v := ?_) (a' := ?_) #[true, true, true, true, true, true, true, true, true, true, true, true, true, true, true, true, true, true, true, true, true, true, true, true, false] rfl rfl (by kernel_rfl) (fun _ _ _ h => h) (Or.inl ⟨by rfl, ?_⟩) ?_ ?_
                      rotate_left
                      · intro w'
                        go_simp
                        with_reducible rfl
                      rotate_left
                      · simp only [Act.put, List.setIfInBounds_toArray, List.set_cons_zero, List.set_cons_succ, i64_w, i32_w]
                        rfl
                      refine last_ (i := 24) (N := none) #[true, true, true, true, true, true, true, true, true, true, true, true, true, true, true, true, true, true, true, true, true, true, true, true, true] rfl rfl (by kernel_rfl) (by decide) (fun K hK => ?_)
                      refine skip_ (w1 := W13) (by rfl) rfl ?_ ?_
                      · go_simp
                      · refine hK.out _ _ ?_
                        refine done_ (by kernel_rfl) ?_
                        clear hK K hrun
                        have hgl := HT.out.gl
                        have hx := HX.out
                        go_wp2
                        go_roundg k3
                        case measure => omega
                        case rel => exact ⟨x + 1, by go_num, ⟨by have := HJ3.out; omega⟩, ⟨by rw [range_fold, HGE.out]; exact HGO3.out⟩⟩
                    | true =>
                      cases hN : bd.contains (x : Int) with
                      | false =>
                        rw [hN] at k2
                        obtain ⟨W13, hrun, hGO3⟩ := HGO2.out.put (x := p) false (wf64_of (by omega) (by omega)) (by unfold maxLen; have := HI.out; omega)
                        have hfun : (fun y => if y = p then false else G y) = stX g (fun y => bd.contains y) p G (x : Int) := by
                          funext y
                          unfold stX
                          rw [hGp, hE]
                          simp only [hN]
                          simp
                        rw [hfun] at hGO3
                        have HGO3 := Aside0.mk (hGO3.more (show _ ≤ 1 + i * 100000 + kk * 1000 + (x + 1) by omega))
                        clear hGO3 hfun hMa hMb hpr hx hgl hbl HGO2
                        refine start_ (n := 25) (S := fun w' => w'.cell? (ad.add kk) = some (.int .i64 p) ∧ (Instr.lookup 55 (.map (some M2)) (.int .i64 p) false).run Try.prog w' = .ok (.bool false) w' ∧ (Instr.lookup 55 (.map (some M1)) (.int .i64 (x : Int)) false).run Try.prog w' = .ok (.bool false) w' ∧ (Instr.lookup 55 (.map (some M2)) (.int .i64 (x : Int)) false).run Try.prog w' = .ok (.bool (G (x : Int))) w') (ds := [24]) #[false, false, false, false, false, false, false, false, false, false, false, false, false, false, false, false, false, false, false, false, false, false, false, false, false] (by kernel_rfl) rfl rfl ⟨hc, k1, k2, k3'⟩ (fun hHeld => ?_)
                        clear hc k1 k2 k3'
                        generalize W11.drew = Wd at hHeld hrun ⊢
                        refine pure_ (i := 0) (N := some 92) (v := ?_) (a' := ?_) #[true, false, false, false, false, false, false, false, false, false, false, false, false, false, false, false, false, false, false, false, false, false, false, false, false] rfl rfl (by kernel_rfl) (fun _ _ _ h => h) (Or.inl ⟨by rfl, ?_⟩) ?_ ?_
                        rotate_left
                        · intro w'
                          go_simp
                          with_reducible rfl
                        rotate_left
                        · simp only [Act.put, List.setIfInBounds_toArray, List.set_cons_zero, List.set_cons_succ, i64_w, i32_w]
                          rfl
                        refine pure_ (i := 1) (N := some 93) (v := ?_) (a' := ?_) #[true, true, false, false, false, false, false, false, false, false, false, false, false, false, false, false, false, false, false, false, false, false, false, false, false] rfl rfl (by kernel_rfl) (fun _ _ _ h => h) (Or.inl ⟨by rfl, ?_⟩) ?_ ?_
                        rotate_left
                        · intro w'
                          go_simp
                          with_reducible rfl
                        rotate_left
                        · simp only [Act.put, List.setIfInBounds_toArray, List.set_cons_zero, List.set_cons_succ, i64_w, i32_w]
                          rfl
                        refine pure_ (i := 2) (N := some 94) (v := ?_) (a' := ?_) #[true, true, true, false, false, false, false, false, false, false, false, false, false, false, false, false, false, false, false, false, false, false, false, false, false] rfl rfl (by kernel_rfl) (fun _ _ _ h => h) (Or.inl ⟨by rfl, ?_⟩) ?_ ?_
                        rotate_left
                        · intro w'
                          go_simp
                          with_reducible rfl
                        rotate_left
                        · simp only [Act.put, List.setIfInBounds_toArray, List.set_cons_zero, List.set_cons_succ, i64_w, i32_w]
                          rfl
                        refine pure_ (i := 3) (N := some 95) (v := ?_) (a' := ?_) #[true, true, true, true, false, false, false, false, false, false, false, false, false, false, false, false, false, false, false, false, false, false, false, false, false] rfl rfl (by kernel_rfl) (fun _ _ _ h => h) (Or.inl ⟨by rfl, ?_⟩) ?_ ?_
                        rotate_left
                        · intro w'
                          go_simp
                          with_reducible rfl
                        rotate_left
                        · simp only [Act.put, List.setIfInBounds_toArray, List.set_cons_zero, List.set_cons_succ, i64_w, i32_w]
                          rfl
                        refine take_ (i := 4) (N := some 96) (v := ?_) (a' := ?_) #[true, true, true, true, true, false, false, false, false, false, false, false, false, false, false, false, false, false, false, false, false, false, false, false, false] rfl rfl (by kernel_rfl) (fun _ _ _ h => h) (Or.inl ⟨by rfl, ?_⟩) hHeld ?_ ?_
                        rotate_left
                        · rintro w' ⟨s0, s1, s2, s3⟩
                          go_simp
                          with_reducible rfl
                        rotate_left
                        · simp only [Act.put, List.setIfInBounds_toArray, List.set_cons_zero, List.set_cons_succ, i64_w, i32_w]
                          rfl
                        refine pure_ (i := 5) (N := some 97) (v := ?_) (a' := ?_) #[true, true, true, true, true, true, false, false, false, false, false, false, false, false, false, false, false, false, false, false, false, false, false, false, false] rfl rfl (by kernel_rfl) (fun _ _ _ h => h) (Or.inl ⟨by rfl, ?_⟩) ?_ ?_
                        rotate_left
                        · intro w'
                          go_simp
                          with_reducible rfl
                        rotate_left
                        · simp only [Act.put, List.setIfInBounds_toArray, List.set_cons_zero, List.set_cons_succ, i64_w, i32_w]
                          rfl
                        refine pure_ (i := 6) (N := some 98) (v := ?_) (a' := ?_) #[true, true, true, true, true, true, true, false, false, false, false, false, false, false, false, false, false, false, false, false, false, false, false, false, false] rfl rfl (by kernel_rfl) (fun _ _ _ h => h) (Or.inl ⟨by rfl, ?_⟩) ?_ ?_
                        rotate_left
                        · intro w'
                          go_simp
                          with_reducible rfl
                        rotate_left
                        · simp only [Act.put, List.setIfInBounds_toArray, List.set_cons_zero, List.set_cons_succ, i64_w, i32_w]
                          rfl
                        refine pure_ (i := 7) (N := some 99) (v := ?_) (a' := ?_) #[true, true, true, true, true, true, true, true, false, false, false, false, false, false, false, false, false, false, false, false, false, false, false, false, false] rfl rfl (by kernel_rfl) (fun _ _ _ h => h) (Or.inl ⟨by rfl, ?_⟩) ?_ ?_
                        rotate_left
                        · intro w'
                          go_simp
                          with_reducible rfl
                        rotate_left
                        · simp only [Act.put, List.setIfInBounds_toArray, List.set_cons_zero, List.set_cons_succ, i64_w, i32_w]
                          rfl
                        refine pure_ (i := 8) (N := some 100) (v := ?_) (a' := ?_) #[true, true, true, true, true, true, true, true, true, false, false, false, false, false, false, false, false, false, false, false, false, false, false, false, false] rfl rfl (by kernel_rfl) (fun _ _ _ h => h) (Or.inl ⟨by rfl, ?_⟩) ?_ ?_
                        rotate_left
                        · intro w'
                          go_simp
                          with_reducible rfl
                        rotate_left
                        · simp only [Act.put, List.setIfInBounds_toArray, List.set_cons_zero, List.set_cons_succ, i64_w, i32_w]
                          rfl
                        refine take_ (i := 9) (N := some 101) (v := ?_) (a' := ?_) #[true, true, true, true, true, true, true, true, true, true, false, false, false, false, false, false, false, false, false, false, false, false, false, false, false] rfl rfl (by kernel_rfl) (fun _ _ _ h => h) (Or.inl ⟨by rfl, ?_⟩) hHeld ?_ ?_
                        rotate_left
                        · rintro w' ⟨s0, s1, s2, s3⟩
                          go_simp
                          with_reducible rfl
                        rotate_left
                        · simp only [Act.put, List.setIfInBounds_toArray, List.set_cons_zero, List.set_cons_succ, i64_w, i32_w]
                          rfl
                        refine take_ (i := 10) (N := some 102) (v := ?_) (a' := ?_) #[true, true, true, true, true, true, true, true, true, true, true, false, false, false, false, false, false, false, false, false, false, false, false, false, false] rfl rfl (by kernel_rfl) (fun _ _ _ h => h) (Or.inl ⟨by rfl, ?_⟩) hHeld ?_ ?_
                        rotate_left
                        · rintro w' ⟨s0, s1, s2, s3⟩
                          go_simp
                          with_reducible rfl
                        rotate_left
                        · simp only [Act.put, List.setIfInBounds_toArray, List.set_cons_zero, List.set_cons_succ, i64_w, i32_w]
                          rfl
                        refine pure_ (i := 11) (N := some 103) (v := ?_) (a' := ?_) #[true, true, true, true, true, true, true, true, true, true, true, true, false, false, false, false, false, false, false, false, false, false, false, false, false] rfl rfl (by kernel_rfl) (fun _ _ _ h => h) (Or.inl ⟨by rfl, ?_⟩) ?_ ?_
                        rotate_left
                        · intro w'
                          go_simp
                          with_reducible rfl
                        rotate_left
                        · simp only [Act.put, List.setIfInBounds_toArray, List.set_cons_zero, List.set_cons_succ, i64_w, i32_w]
                          rfl
                        refine pure_ (i := 12) (N := some 104) (v := ?_) (a' := ?_) #[true, true, true, true, true, true, true, true, true, true, true, true, true, false, false, false, false, false, false, false, false, false, false, false, false] rfl rfl (by kernel_rfl) (fun _ _ _ h => h) (Or.inl ⟨by rfl, ?_⟩) ?_ ?_
                        rotate_left
                        · intro w'
                          go_simp
                          with_reducible rfl
                        rotate_left
                        · simp only [Act.put, List.setIfInBounds_toArray, List.set_cons_zero, List.set_cons_succ, i64_w, i32_w]
                          rfl
                        refine pure_ (i := 13) (N := some 105) (v := ?_) (a' := ?_) #[true, true, true, true, true, true, true, true, true, true, true, true, true, true, false, false, false, false, false, false, false, false, false, false, false] rfl rfl (by kernel_rfl) (fun _ _ _ h => h) (Or.inl ⟨by rfl, ?_⟩) ?_ ?_
                        rotate_left
                        · intro w'
                          go_simp
                          with_reducible rfl
                        rotate_left
                        · simp only [Act.put, List.setIfInBounds_toArray, List.set_cons_zero, List.set_cons_succ, i64_w, i32_w]
                          rfl
                        refine pure_ (i := 14) (N := some 106) (v := ?_) (a' := ?_) #[true, true, true, true, true, true, true, true, true, true, true, true, true, true, true, false, false, false, false, false, false, false, false, false, false] rfl rfl (by kernel_rfl) (fun _ _ _ h => h) (Or.inl ⟨by rfl, ?_⟩) ?_ ?_
                        rotate_left
                        · intro w'
                          go_simp
                          with_reducible rfl
                        rotate_left
                        · simp only [Act.put, List.setIfInBounds_toArray, List.set_cons_zero, List.set_cons_succ, i64_w, i32_w]
                          rfl
                        refine pure_ (i := 15) (N := some 107) (v := ?_) (a' := ?_) #[true, true, true, true, true, true, true, true, true, true, true, true, true, true, true, true, false, false, false, false, false, false, false, false, false] rfl rfl (by kernel_rfl) (fun _ _ _ h => h) (Or.inl ⟨by rfl, ?_⟩) ?_ ?_
                        rotate_left
                        · intro w'
                          go_simp
                          with_reducible rfl
                        rotate_left
                        · simp only [Act.put, List.setIfInBounds_toArray, List.set_cons_zero, List.set_cons_succ, i64_w, i32_w]
                          rfl
                        refine take_ (i := 16) (N := some 108) (v := ?_) (a' := ?_) #[true, true, true, true, true, true, true, true, true, true, true, true, true, true, true, true, true, false, false, false, false, false, false, false, false] rfl rfl (by kernel_rfl) (fun _ _ _ h => h) (Or.inl ⟨by rfl, ?_⟩) hHeld ?_ ?_
                        rotate_left
                        · rintro w' ⟨s0, s1, s2, s3⟩
                          go_simp
                          with_reducible rfl
                        rotate_left
                        · simp only [Act.put, List.setIfInBounds_toArray, List.set_cons_zero, List.set_cons_succ, i64_w, i32_w]
                          rfl
                        refine pure_ (i := 17) (N := some 109) (v := ?_) (a' := ?_) #[true, true, true, true, true, true, true, true, true, true, true, true, true, true, true, true, true, true, false, false, false, false, false, false, false] rfl rfl (by kernel_rfl) (fun _ _ _ h => h) (Or.inl ⟨by rfl, ?_⟩) ?_ ?_
                        rotate_left
                        · intro w'
                          go_simp
                          with_reducible rfl
                        rotate_left
                        · simp only [Act.put, List.setIfInBounds_toArray, List.set_cons_zero, List.set_cons_succ, i64_w, i32_w]
                          rfl
                        refine pure_ (i := 18) (N := some 110) (v := ?_) (a' := ?_) #[true, true, true, true, true, true, true, true, true, true, true, true, true, true, true, true, true, true, true, false, false, false, false, false, false] rfl rfl (by kernel_rfl) (fun _ _ _ h => h) (Or.inl ⟨by rfl, ?_⟩) ?_ ?_
                        rotate_left
                        · intro w'
                          go_simp
                          with_reducible rfl
                        rotate_left
                        · simp only [Act.put, List.setIfInBounds_toArray, List.set_cons_zero, List.set_cons_succ, i64_w, i32_w]
                          rfl
                        refine pure_ (i := 19) (N := some 111) (v := undef) (a' := ?_) #[true, true, true, true, true, true, true, true, true, true, true, true, true, true, true, true, true, true, true, true, false, false, false, false, false] rfl rfl (by kernel_rfl) (fun _ _ _ h => h) (Or.inr ⟨by rfl, rfl⟩) ?_ ?_
                        rotate_left
                        · simp only [Act.put, List.setIfInBounds_toArray, List.set_cons_zero, List.set_cons_succ, i64_w, i32_w]
                          rfl
                        refine pure_ (i := 20) (N := some 112) (v := undef) (a' := ?_) #[true, true, true, true, true, true, true, true, true, true, true, true, true, true, true, true, true, true, true, true, true, false, false, false, false] rfl rfl (by kernel_rfl) (fun _ _ _ h => h) (Or.inr ⟨by rfl, rfl⟩) ?_ ?_
                        rotate_left
                        · simp only [Act.put, List.setIfInBounds_toArray, List.set_cons_zero, List.set_cons_succ, i64_w, i32_w]
                          rfl
                        refine pure_ (i := 21) (N := some 113) (v := undef) (a' := ?_) #[true, true, true, true, true, true, true, true, true, true, true, true, true, true, true, true, true, true, true, true, true, true, false, false, false] rfl rfl (by kernel_rfl) (fun _ _ _ h => h) (Or.inr ⟨by rfl, rfl⟩) ?_ ?_
                        rotate_left
                        · simp only [Act.put, List.setIfInBounds_toArray, List.set_cons_zero, List.set_cons_succ, i64_w, i32_w]
                          rfl
                        refine pure_ (i := 22) (N := some 114) (v := ?_) (a' := ?_) #[true, true, true, true, true, true, true, true, true, true, true, true, true, true, true, true, true, true, true, true, true, true, true, false, false] rfl rfl (by kernel_rfl) (fun _ _ _ h => h) (Or.inl ⟨by rfl, ?_⟩) ?_ ?_
                        rotate_left
                        · intro w'
                          go_simp
                          with_reducible rfl
                        rotate_left
                        · simp only [Act.put, List.setIfInBounds_toArray, List.set_cons_zero, List.set_cons_succ, i64_w, i32_w]
                          rfl
                        refine pure_ (i := 23) (N := some 115) (v := ?_) (a' := ?_) #[true, true, true, true, true, true, true, true, true, true, true, true, true, true, true, true, true, true, true, true, true, true, true, true, false] rfl rfl (by kernel_rfl) (fun _ _ _ h => h) (Or.inl ⟨by rfl, ?_⟩) ?_ ?_
                        rotate_left
                        · intro w'
                          go_simp
                          with_reducible rfl
                        rotate_left
                        · simp only [Act.put, List.setIfInBounds_toArray, List.set_cons_zero, List.set_cons_succ, i64_w, i32_w]
                          rfl
                        refine last_ (i := 24) (N := none) #[true, true, true, true, true, true, true, true, true, true, true, true, true, true, true, true, true, true, true, true, true, true, true, true, true] rfl rfl (by kernel_rfl) (by decide) (fun K hK => ?_)
                        refine skip_ (w1 := W13) (by rfl) rfl ?_ ?_
                        · go_simp
                        · refine hK.out _ _ ?_
                          refine done_ (by kernel_rfl) ?_
                          clear hK K hrun
                          have hgl := HT.out.gl
                          have hx := HX.out
                          go_wp2
                          go_roundg k3
                          case measure => omega
                          case rel => exact ⟨x + 1, by go_num, ⟨by have := HJ3.out; omega⟩, ⟨by rw [range_fold, HGE.out]; exact HGO3.out⟩⟩
                      | true =>
                        rw [hN] at k2
                        obtain ⟨gx, hgx⟩ : ∃ gx, G (x : Int) = gx := ⟨_, rfl⟩
                        rw [hgx] at k3'
                        obtain ⟨W13, hrun, hGO3⟩ := HGO2.out.put (x := p) gx (wf64_of (by omega) (by omega)) (by unfold maxLen; have := HI.out; omega)
                        have hfun : (fun y => if y = p then gx else G y) = stX g (fun y => bd.contains y) p G (x : Int) := by
                          funext y
                          unfold stX
                          rw [hGp, hE, hgx]
                          simp only [hN]
                          simp
                        rw [hfun] at hGO3
                        have HGO3 := Aside0.mk (hGO3.more (show _ ≤ 1 + i * 100000 + kk * 1000 + (x + 1) by omega))
                        clear hGO3 hfun hMa hMb hpr hx hgl hbl HGO2
                        refine start_ (n := 25) (S := fun w' => w'.cell? (ad.add kk) = some (.int .i64 p) ∧ (Instr.lookup 55 (.map (some M2)) (.int .i64 p) false).run Try.prog w' = .ok (.bool false) w' ∧ (Instr.lookup 55 (.map (some M1)) (.int .i64 (x : Int)) false).run Try.prog w' = .ok (.bool true) w' ∧ (Instr.lookup 55 (.map (some M2)) (.int .i64 (x : Int)) false).run Try.prog w' = .ok (.bool gx) w') (ds := [24]) #[false, false, false, false, false, false, false, false, false, false, false, false, false, false, false, false, false, false, false, false, false, false, false, false, false] (by kernel_rfl) rfl rfl ⟨hc, k1, k2, k3'⟩ (fun hHeld => ?_)
                        clear hc k1 k2 k3'
                        generalize W11.drew = Wd at hHeld hrun ⊢
                        refine pure_ (i := 0) (N := some 92) (v := ?_) (a' := ?_) #[true, false, false, false, false, false, false, false, false, false, false, false, false, false, false, false, false, false, false, false, false, false, false, false, false] rfl rfl (by kernel_rfl) (fun _ _ _ h => h) (Or.inl ⟨by rfl, ?_⟩) ?_ ?_
                        rotate_left
                        · intro w'
                          go_simp
                          with_reducible rfl
                        rotate_left
                        · simp only [Act.put, List.setIfInBounds_toArray, List.set_cons_zero, List.set_cons_succ, i64_w, i32_w]
                          rfl
                        refine pure_ (i := 1) (N := some 93) (v := ?_) (a' := ?_) #[true, true, false, false, false, false, false, false, false, false, false, false, false, false, false, false, false, false, false, false, false, false, false, false, false] rfl rfl (by kernel_rfl) (fun _ _ _ h => h) (Or.inl ⟨by rfl, ?_⟩) ?_ ?_
                        rotate_left
                        · intro w'
                          go_simp
                          with_reducible rfl
                        rotate_left
                        · simp only [Act.put, List.setIfInBounds_toArray, List.set_cons_zero, List.set_cons_succ, i64_w, i32_w]
                          rfl
                        refine pure_ (i := 2) (N := some 94) (v := ?_) (a' := ?_) #[true, true, true, false, false, false, false, false, false, false, false, false, false, false, false, false, false, false, false, false, false, false, false, false, false] rfl rfl (by kernel_rfl) (fun _ _ _ h => h) (Or.inl ⟨by rfl, ?_⟩) ?_ ?_
                        rotate_left
                        · intro w'
                          go_simp
                          with_reducible rfl
                        rotate_left
                        · simp only [Act.put, List.setIfInBounds_toArray, List.set_cons_zero, List.set_cons_succ, i64_w, i32_w]
                          rfl
                        refine pure_ (i := 3) (N := some 95) (v := ?_) (a' := ?_) #[true, true, true, true, false, false, false, false, false, false, false, false, false, false, false, false, false, false, false, false, false, false, false, false, false] rfl rfl (by kernel_rfl) (fun _ _ _ h => h) (Or.inl ⟨by rfl, ?_⟩) ?_ ?_
                        rotate_left
                        · intro w'
                          go_simp
                          with_reducible rfl
                        rotate_left
                        · simp only [Act.put, List.setIfInBounds_toArray, List.set_cons_zero, List.set_cons_succ, i64_w, i32_w]
                          rfl
                        refine take_ (i := 4) (N := some 96) (v := ?_) (a' := ?_) #[true, true, true, true, true, false, false, false, false, false, false, false, false, false, false, false, false, false, false, false, false, false, false, false, false] rfl rfl (by kernel_rfl) (fun _ _ _ h => h) (Or.inl ⟨by rfl, ?_⟩) hHeld ?_ ?_
                        rotate_left
                        · rintro w' ⟨s0, s1, s2, s3⟩
                          go_simp
                          with_reducible rfl
                        rotate_left
                        · simp only [Act.put, List.setIfInBounds_toArray, List.set_cons_zero, List.set_cons_succ, i64_w, i32_w]
                          rfl
                        refine pure_ (i := 5) (N := some 97) (v := ?_) (a' := ?_) #[true, true, true, true, true, true, false, false, false, false, false, false, false, false, false, false, false, false, false, false, false, false, false, false, false] rfl rfl (by kernel_rfl) (fun _ _ _ h => h) (Or.inl ⟨by rfl, ?_⟩) ?_ ?_
                        rotate_left
                        · intro w'
                          go_simp
                          with_reducible rfl
                        rotate_left
                        · simp only [Act.put, List.setIfInBounds_toArray, List.set_cons_zero, List.set_cons_succ, i64_w, i32_w]
                          rfl
                        refine pure_ (i := 6) (N := some 98) (v := ?_) (a' := ?_) #[true, true, true, true, true, true, true, false, false, false, false, false, false, false, false, false, false, false, false, false, false, false, false, false, false] rfl rfl (by kernel_rfl) (fun _ _ _ h => h) (Or.inl ⟨by rfl, ?_⟩) ?_ ?_
                        rotate_left
                        · intro w'
                          go_simp
                          with_reducible rfl
                        rotate_left
                        · simp only [Act.put, List.setIfInBounds_toArray, List.set_cons_zero, List.set_cons_succ, i64_w, i32_w]
                          rfl
                        refine pure_ (i := 7) (N := some 99) (v := ?_) (a' := ?_) #[true, true, true, true, true, true, true, true, false, false, false, false, false, false, false, false, false, false, false, false, false, false, false, false, false] rfl rfl (by kernel_rfl) (fun _ _ _ h => h) (Or.inl ⟨by rfl, ?_⟩) ?_ ?_
                        rotate_left
                        · intro w'
                          go_simp
                          with_reducible rfl
                        rotate_left
                        · simp only [Act.put, List.setIfInBounds_toArray, List.set_cons_zero, List.set_cons_succ, i64_w, i32_w]
                          rfl
                        refine pure_ (i := 8) (N := some 100) (v := ?_) (a' := ?_) #[true, true, true, true, true, true, true, true, true, false, false, false, false, false, false, false, false, false, false, false, false, false, false, false, false] rfl rfl (by kernel_rfl) (fun _ _ _ h => h) (Or.inl ⟨by rfl, ?_⟩) ?_ ?_
                        rotate_left
                        · intro w'
                          go_simp
                          with_reducible rfl
                        rotate_left
                        · simp only [Act.put, List.setIfInBounds_toArray, List.set_cons_zero, List.set_cons_succ, i64_w, i32_w]
                          rfl
                        refine take_ (i := 9) (N := some 101) (v := ?_) (a' := ?_) #[true, true, true, true, true, true, true, true, true, true, false, false, false, false, false, false, false, false, false, false, false, false, false, false, false] rfl rfl (by kernel_rfl) (fun _ _ _ h => h) (Or.inl ⟨by rfl, ?_⟩) hHeld ?_ ?_
                        rotate_left
                        · rintro w' ⟨s0, s1, s2, s3⟩
                          go_simp
                          with_reducible rfl
                        rotate_left
                        · simp only [Act.put, List.setIfInBounds_toArray, List.set_cons_zero, List.set_cons_succ, i64_w, i32_w]
                          rfl
                        refine take_ (i := 10) (N := some 102) (v := ?_) (a' := ?_) #[true, true, true, true, true, true, true, true, true, true, true, false, false, false, false, false, false, false, false, false, false, false, false, false, false] rfl rfl (by kernel_rfl) (fun _ _ _ h => h) (Or.inl ⟨by rfl, ?_⟩) hHeld ?_ ?_
                        rotate_left
                        · rintro w' ⟨s0, s1, s2, s3⟩
                          go_simp
                          with_reducible rfl
                        rotate_left
                        · simp only [Act.put, List.setIfInBounds_toArray, List.set_cons_zero, List.set_cons_succ, i64_w, i32_w]
                          rfl
                        refine pure_ (i := 11) (N := some 103) (v := ?_) (a' := ?_) #[true, true, true, true, true, true, true, true, true, true, true, true, false, false, false, false, false, false, false, false, false, false, false, false, false] rfl rfl (by kernel_rfl) (fun _ _ _ h => h) (Or.inl ⟨by rfl, ?_⟩) ?_ ?_
                        rotate_left
                        · intro w'
                          go_simp
                          with_reducible rfl
                        rotate_left
                        · simp only [Act.put, List.setIfInBounds_toArray, List.set_cons_zero, List.set_cons_succ, i64_w, i32_w]
                          rfl
                        refine pure_ (i := 12) (N := some 104) (v := ?_) (a' := ?_) #[true, true, true, true, true, true, true, true, true, true, true, true, true, false, false, false, false, false, false, false, false, false, false, false, false] rfl rfl (by kernel_rfl) (fun _ _ _ h => h) (Or.inl ⟨by rfl, ?_⟩) ?_ ?_
                        rotate_left
                        · intro w'
                          go_simp
                          with_reducible rfl
                        rotate_left
                        · simp only [Act.put, List.setIfInBounds_toArray, List.set_cons_zero, List.set_cons_succ, i64_w, i32_w]
                          rfl
                        refine pure_ (i := 13) (N := some 105) (v := ?_) (a' := ?_) #[true, true, true, true, true, true, true, true, true, true, true, true, true, true, false, false, false, false, false, false, false, false, false, false, false] rfl rfl (by kernel_rfl) (fun _ _ _ h => h) (Or.inl ⟨by rfl, ?_⟩) ?_ ?_
                        rotate_left
                        · intro w'
                          go_simp
                          with_reducible rfl
                        rotate_left
                        · simp only [Act.put, List.setIfInBounds_toArray, List.set_cons_zero, List.set_cons_succ, i64_w, i32_w]
                          rfl
                        refine pure_ (i := 14) (N := some 106) (v := ?_) (a' := ?_) #[true, true, true, true, true, true, true, true, true, true, true, true, true, true, true, false, false, false, false, false, false, false, false, false, false] rfl rfl (by kernel_rfl) (fun _ _ _ h => h) (Or.inl ⟨by rfl, ?_⟩) ?_ ?_
                        rotate_left
                        · intro w'
                          go_simp
                          with_reducible rfl
                        rotate_left
                        · simp only [Act.put, List.setIfInBounds_toArray, List.set_cons_zero, List.set_cons_succ, i64_w, i32_w]
                          rfl
                        refine pure_ (i := 15) (N := some 107) (v := ?_) (a' := ?_) #[true, true, true, true, true, true, true, true, true, true, true, true, true, true, true, true, false, false, false, false, false, false, false, false, false] rfl rfl (by kernel_rfl) (fun _ _ _ h => h) (Or.inl ⟨by rfl, ?_⟩) ?_ ?_
                        rotate_left
                        · intro w'
                          go_simp
                          with_reducible rfl
                        rotate_left
                        · simp only [Act.put, List.setIfInBounds_toArray, List.set_cons_zero, List.set_cons_succ, i64_w, i32_w]
                          rfl
                        refine take_ (i := 16) (N := some 108) (v := ?_) (a' := ?_) #[true, true, true, true, true, true, true, true, true, true, true, true, true, true, true, true, true, false, false, false, false, false, false, false, false] rfl rfl (by kernel_rfl) (fun _ _ _ h => h) (Or.inl ⟨by rfl, ?_⟩) hHeld ?_ ?_
                        rotate_left
                        · rintro w' ⟨s0, s1, s2, s3⟩
                          go_simp
                          with_reducible rfl
                        rotate_left
                        · simp only [Act.put, List.setIfInBounds_toArray, List.set_cons_zero, List.set_cons_succ, i64_w, i32_w]
                          rfl
                        refine pure_ (i := 17) (N := some 109) (v := ?_) (a' := ?_) #[true, true, true, true, true, true, true, true, true, true, true, true, true, true, true, true, true, true, false, false, false, false, false, false, false] rfl rfl (by kernel_rfl) (fun _ _ _ h => h) (Or.inl ⟨by rfl, ?_⟩) ?_ ?_
                        rotate_left
                        · intro w'
                          go_simp
                          with_reducible rfl
                        rotate_left
                        · simp only [Act.put, List.setIfInBounds_toArray, List.set_cons_zero, List.set_cons_succ, i64_w, i32_w]
                          rfl
                        refine pure_ (i := 18) (N := some 110) (v := ?_) (a' := ?_) #[true, true, true, true, true, true, true, true, true, true, true, true, true, true, true, true, true, true, true, false, false, false, false, false, false] rfl rfl (by kernel_rfl) (fun _ _ _ h => h) (Or.inl ⟨by rfl, ?_⟩) ?_ ?_
                        rotate_left
                        · intro w'
                          go_simp
                          with_reducible rfl
                        rotate_left
                        · simp only [Act.put, List.setIfInBounds_toArray, List.set_cons_zero, List.set_cons_succ, i64_w, i32_w]
                          rfl
                        refine pure_ (i := 19) (N := some 111) (v := ?_) (a' := ?_) #[true, true, true, true, true, true, true, true, true, true, true, true, true, true, true, true, true, true, true, true, false, false, false, false, false] rfl rfl (by kernel_rfl) (fun _ _ _ h => h) (Or.inl ⟨by rfl, ?_⟩) ?_ ?_
                        rotate_left
                        · intro w'
                          go_simp
                          with_reducible rfl
                        rotate_left
                        · simp only [Act.put, List.setIfInBounds_toArray, List.set_cons_zero, List.set_cons_succ, i64_w, i32_w]
                          rfl
                        refine pure_ (i := 20) (N := some 112) (v := ?_) (a' := ?_) #[true, true, true, true, true, true, true, true, true, true, true, true, true, true, true, true, true, true, true, true, true, false, false, false, false] rfl rfl (by kernel_rfl) (fun _ _ _ h => h) (Or.inl ⟨by rfl, ?_⟩) ?_ ?_
                        rotate_left
                        · intro w'
                          go_simp
                          with_reducible rfl
                        rotate_left
                        · simp only [Act.put, List.setIfInBounds_toArray, List.set_cons_zero, List.set_cons_succ, i64_w, i32_w]
                          rfl
                        refine take_ (i := 21) (N := some 113) (v := ?_) (a' := ?_) #[true, true, true, true, true, true, true, true, true, true, true, true, true, true, true, true, true, true, true, true, true, true, false, false, false] rfl rfl (by kernel_rfl) (fun _ _ _ h => h) (Or.inl ⟨by rfl, ?_⟩) hHeld ?_ ?_
                        rotate_left
                        · rintro w' ⟨s0, s1, s2, s3⟩
                          go_simp
                          with_reducible rfl
                        rotate_left
                        · simp only [Act.put, List.setIfInBounds_toArray, List.set_cons_zero, List.set_cons_succ, i64_w, i32_w]
                          rfl
                        refine pure_ (i := 22) (N := some 114) (v := ?_) (a' := ?_) #[true, true, true, true, true, true, true, true, true, true, true, true, true, true, true, true, true, true, true, true, true, true, true, false, false] rfl rfl (by kernel_rfl) (fun _ _ _ h => h) (Or.inl ⟨by rfl, ?_⟩) ?_ ?_
                        rotate_left
                        · intro w'
                          go_simp
                          with_reducible rfl
                        rotate_left
                        · simp only [Act.put, List.setIfInBounds_toArray, List.set_cons_zero, List.set_cons_succ, i64_w, i32_w]
                          rfl
                        refine pure_ (i := 23) (N := some 115) (v := ?_) (a' := ?_) #[true, true, true, true, true, true, true, true, true, true, true, true, true, true, true, true, true, true, true, true, true, true, true, true, false] rfl rfl (by kernel_rfl) (fun _ _ _ h => h) (Or.inl ⟨by rfl, ?_⟩) ?_ ?_
                        rotate_left
                        · intro w'
                          go_simp
                          with_reducible rfl
                        rotate_left
                        · simp only [Act.put, List.setIfInBounds_toArray, List.set_cons_zero, List.set_cons_succ, i64_w, i32_w]
                          rfl
                        refine last_ (i := 24) (N := none) #[true, true, true, true, true, true, true, true, true, true, true, true, true, true, true, true, true, true, true, true, true, true, true, true, true] rfl rfl (by kernel_rfl) (by decide) (fun K hK => ?_)
                        refine skip_ (w1 := W13) (by rfl) rfl ?_ ?_
                        · go_simp
                        · refine hK.out _ _ ?_
                          refine done_ (by kernel_rfl) ?_
                          clear hK K hrun
                          have hgl := HT.out.gl
                          have hx := HX.out
                          go_wp2
                          go_roundg k3
                          case measure => omega
                          case rel => exact ⟨x + 1, by go_num, ⟨by have := HJ3.out; omega⟩, ⟨by rw [range_fold, HGE.out]; exact HGO3.out⟩⟩
    | succ k1 =>
      have hi : i < bd.length := by have := HJ.out; omega
      obtain ⟨ad, eA, hc⟩ := Kd.at_int HD6.out (i : Int) (by omega) (by omega)
      subst eA
      simp only [Int.toNat_natCast] at hc
      replace hc := (HB.out.cell (World.block_lt_of_cell? _ _ hc)).trans hc
      have hmem : rd bd i ∈ bd := by
        have e : rd bd i = bd[i] := by simp [rd, hi]
        rw [e]; exact List.getElem_mem _
      have hbr := HT.out.br _ hmem
      have HMEM := Aside0.mk hmem
      have HBR := Aside0.mk hbr
      have HI := Aside0.mk hi
      clear hmem hbr; clear hi
      have hi := HI.out
      go_wp2_with fail
      refine (jacquardref02_Dom.calls k _ _ g h (rd bd i) true _ (Kd.C_below HG6.out HB.out) HL6.out (HT.out.dom _ HMEM.out)).mono ?_
      rintro e W7 ⟨rfl, hb⟩
      obtain ⟨n7, hn7, hM7⟩ := HM.out
      have hM7 := hM7.below hb
      have hB7 : Below W6.heap.size W6 W7 := HB.out.trans (hb.mono HB.out.size)
      replace hc := (hb.cell (World.block_lt_of_cell? _ _ hc)).trans hc
      have hgl := HT.out.gl
      have hbr := HBR.out
      obtain ⟨W8, hrun, hM8, hg8⟩ := hM7.put (x := rd bd i) true (wf64_of (by omega) (by omega)) (by unfold maxLen; have := HT.out.bl; omega)
      have HB8 := Aside0.mk (hB7.grown hg8 hB7.size (fun k e => by injection e with e; have := HM1.out; omega))
      have HM8 := Aside0.mk (show ∃ n, n ≤ i + 1 ∧ MB W8 M1 n (fun x => (bd.take (i + 1)).contains x) from ⟨n7 + 1, by omega, by
        have e : (fun y => if y = rd bd i then true else (bd.take i).contains y) = fun x => (bd.take (i + 1)).contains x := take_contains bd i HI.out
        rw [← e]; exact hM8⟩)
      clear hM7 hB7 hgl hbr hM8 hg8 hb
      have hbl := HT.out.bl
      go_wp2
      go_roundg k1
      case measure => omega
      case rel => exact ⟨i + 1, by go_num, ⟨by have := HJ.out; omega⟩, HM8, HB8⟩
set_option maxHeartbeats 8000000 in
set_option maxRecDepth 100000 in
/-- Without a header nothing is asked. -/
theorem lbody_nil (k : Nat) (A0 : Option Addr) (c0 : Nat) (l0 : List Int) (a1 : Int) (w : World) (hr0 : Kd.C (Kd.int .i64) w A0 l0.length l0) (hc0 : l0.length ≤ c0) {g : List (List Int)} (hm : jacquardref02_Made.f k l0 = some g) (hh : graph_Headers.f k g = some []) :
    Calls Try.prog 8 #[.slice A0 l0.length c0, .int .i64 a1] w fun e w' => e = .returned (.bool true) ∧ Below w.heap.size w w' := by
  have HR0 := Aside0.mk hr0
  have HC0 := Aside0.mk hc0
  have HM := Aside0.mk hm
  have HH := Aside0.mk hh
  clear hr0 hc0 hm hh
  go_enter Try.func8, Try.ntmps8
  go_wp2_with fail
  refine (jacquardlaw02_awake.calls true _ rfl).mono ?_
  rintro e W1 ⟨rfl, hb1⟩
  have HB1 := Aside0.mk hb1
  clear hb1
  go_wp2_with fail
  refine (jacquardref02_Made.calls k _ _ l0 g _ (Kd.C_below HR0.out HB1.out) HC0.out HM.out).mono ?_
  rintro e W2 ⟨v, rfl, ho, hb⟩
  obtain ⟨A6, c6, rfl, hl6, hC6⟩ := Kd.S_reads ho
  have HB2 := Aside0.mk (HB1.out.trans (hb.mono HB1.out.size))
  have HL6 := Aside0.mk hl6
  have HG2 := Aside0.mk hC6
  clear ho hb hl6 hC6 HB1
  go_wp2_with fail
  refine (graph_Headers.calls k _ _ g [] _ HG2.out HL6.out HH.out).mono ?_
  rintro e W3 ⟨v, rfl, ho, hb⟩
  obtain ⟨A7, c7, rfl, hl7, hC7⟩ := Kd.R_reads ho
  have HB3 := Aside0.mk (HB2.out.trans (hb.mono HB2.out.size))
  clear ho hb hl7 hC7 HB2 HG2
  go_wp2
  go_ret
  exact ⟨rfl, HB3.out⟩
def nextL (g : List (List Int)) (a : Int) : List Int := upto (eB g a) g.length 0
theorem mem_nextL (g : List (List Int)) (a b : Int) : b ∈ nextL g a ↔ Eg g a b := by
  unfold nextL
  rw [mem_upto]
  constructor
  · exact fun h => h.2
  · intro h
    have := Eg_in h
    exact ⟨by omega, h⟩
theorem next_l0 (g : List (List Int)) (hg : okG g = true) (a : Int) : ∀ (d : Nat) (x5 : List Int) (x6 : Int) (k : Nat), 0 ≤ x6 → x6 + d = g.length → (x5.length : Int) ≤ x6 → d + 1000003 ≤ k → jacquardref02_next.l0 (k + 1) g a x5 x6 = some (x5 ++ upto (eB g a) d x6) := by
  have hl := (okG_len hg).1
  intro d
  induction d with
  | zero =>
    intro x5 x6 k h0 hd h5 hk
    rw [jacquardref02_next.l0, if_neg (by omega)]
    simp [upto]
  | succ d ih =>
    intro x5 x6 k h0 hd h5 hk
    obtain ⟨k, rfl⟩ : ∃ m, k = m + 1 := ⟨k - 1, by omega⟩
    rw [jacquardref02_next.l0, if_pos (by omega), edge_some g hg _ _ (by omega), Option.bind_some, w64 (by omega) (by omega), upto]
    by_cases h : eB g a x6 = true
    · rw [if_pos h, if_pos h, if_pos (by omega), ih (x5 ++ [x6]) (x6 + 1) k (by omega) (by omega) (by rw [List.length_append]; simp; omega) (by omega)]
      simp
    · rw [if_neg h, if_neg h, ih x5 (x6 + 1) k (by omega) (by omega) (by omega) (by omega)]
theorem next_some (g : List (List Int)) (hg : okG g = true) (a : Int) {k : Nat} (hk : 2000005 ≤ k) : jacquardref02_next.f k g a = some (nextL g a) := by
  have hl := (okG_len hg).1
  obtain ⟨k, rfl⟩ : ∃ m, k = m + 1 := ⟨k - 1, by omega⟩
  unfold jacquardref02_next.f
  rw [next_l0 g hg a g.length [] 0 k (by omega) (by omega) (by simp) (by omega)]
  rfl

/-! ### Without -/
theorem cf_eq : ∀ (t s : List Bool), t.length = s.length → (∀ i, t.getD i false = true → s.getD i false = true) → cf t ≤ cf s → t = s := by
  unfold cf
  intro t
  induction t with
  | nil => intro s h _ _; exact (List.length_eq_zero_iff.1 h.symm).symm
  | cons x t ih =>
    intro s h hm hc
    cases s with
    | nil => simp at h
    | cons y s =>
      have hm2 : ∀ i, t.getD i false = true → s.getD i false = true := fun i => by have := hm (i + 1); simpa using this
      have h1 := cf_mono t s (by simpa using h) hm2
      have h2 := hm 0
      unfold cf at h1
      simp only [List.getD_cons_zero] at h2
      simp only [List.count_cons] at hc
      have e : x = y := by cases x <;> cases y <;> simp_all <;> omega
      subst e
      rw [ih s (by simpa using h) hm2 (by simpa using hc)]
theorem on_rd {t : List Bool} {y : Int} : rdOf false t y = true ↔ on t y := Iff.rfl
theorem on_setv {t : List Bool} {a y : Int} {v : Bool} (ha : 0 ≤ a ∧ a < t.length) (hy : 0 ≤ y) : on (t.set a.toNat v) y ↔ (y ≠ a ∧ on t y) ∨ (y = a ∧ v = true) := by
  unfold on
  rw [List.getD_eq_getElem?_getD, List.getD_eq_getElem?_getD]
  by_cases h : a.toNat = y.toNat
  · have e : y = a := by omega
    subst e
    rw [List.getElem?_set_self (by omega)]
    simp
  · have e : y ≠ a := fun e => h (by rw [e])
    rw [List.getElem?_set_ne h]
    simp [e]
section
variable {g : List (List Int)} {z : Int} {Q : List Bool → Prop}
theorem wo_l2 (x6 x7 : Int) (l : List Int) (hl : ∀ y ∈ l, 0 ≤ y ∧ y < (g.length : Int)) (hll : l.length ≤ 1000000) : ∀ (d : Nat) (x9 : Nat) (out : List Bool), x9 + d = l.length → out.length = g.length →
    (∀ out' : List Bool, out'.length = g.length → (∀ x, 0 ≤ x → (on out' x ↔ on out x ∨ (x ∈ l.drop x9 ∧ x ≠ z))) → Ends (fun k => jacquardref02_Without.l1 k g z out' x6 (wrap64 (x7 + 1))) Q) →
    Ends (fun k => jacquardref02_Without.l2 k g z out x6 x7 l x9) Q := by
  intro d
  induction d with
  | zero =>
    intro x9 out hd ho hc
    refine (hc out ho (fun x hx => by rw [List.drop_of_length_le (by omega)]; simp)).step (fun k => ?_)
    rw [jacquardref02_Without.l2, if_neg (by omega)]
  | succ d ih =>
    intro x9 out hd ho hc
    have hlt : x9 < l.length := by omega
    have hrd : rd l x9 = l[x9] := by simp [rd, hlt]
    have hy := hl (rd l x9) (by rw [hrd]; exact List.getElem_mem _)
    have hw : wrap64 ((x9 : Int) + 1) = ((x9 + 1 : Nat) : Int) := by rw [w64 (by omega) (by omega)]; omega
    have hdrop : l.drop x9 = rd l x9 :: l.drop (x9 + 1) := by rw [hrd]; exact List.drop_eq_getElem_cons hlt
    by_cases hon : on out (rd l x9)
    · refine (ih (x9 + 1) (out.set (rd l x9).toNat true) (by omega) (by simpa using ho) (fun out' ho' hx => hc out' ho' (fun x h0 => ?_))).step (fun k => ?_)
      · rw [hx x h0, hdrop, on_set (by omega) h0, List.mem_cons]
        constructor
        · rintro ((h | h) | h)
          · exact .inl h
          · subst h; exact .inl hon
          · exact .inr ⟨.inr h.1, h.2⟩
        · rintro (h | ⟨h1 | h1, h2⟩)
          · exact .inl (.inl h)
          · exact .inl (.inr h1)
          · exact .inr ⟨h1, h2⟩
      · rw [jacquardref02_Without.l2, if_pos (by omega), if_pos (by omega), if_pos hy.1, if_pos (by omega), if_pos (on_rd.2 hon), hw]
    · refine (ih (x9 + 1) (out.set (rd l x9).toNat ((rd l x9) != z)) (by omega) (by simpa using ho) (fun out' ho' hx => hc out' ho' (fun x h0 => ?_))).step (fun k => ?_)
      · rw [hx x h0, hdrop, on_setv (by omega) h0, List.mem_cons, bne_iff_ne]
        constructor
        · rintro ((h | h) | h)
          · exact .inl h.2
          · exact .inr ⟨.inl h.1, by rw [h.1]; exact h.2⟩
          · exact .inr ⟨.inr h.1, h.2⟩
        · rintro (h | ⟨h1 | h1, h2⟩)
          · exact .inl (.inl ⟨fun e => hon (e ▸ h), h⟩)
          · exact .inl (.inr ⟨h1, by rw [← h1]; exact h2⟩)
          · exact .inr ⟨h1, h2⟩
      · rw [jacquardref02_Without.l2, if_pos (by omega), if_pos (by omega), if_pos hy.1, if_pos (by omega), if_neg (fun h => hon (on_rd.1 h)), hw]
theorem nextL_in (g : List (List Int)) (a : Int) : ∀ y ∈ nextL g a, 0 ≤ y ∧ y < (g.length : Int) := fun y hy => by
  have := Eg_in ((mem_nextL g a y).1 hy)
  exact ⟨this.2.2.1, this.2.2.2⟩
theorem wo_l1 (hg : okG g = true) (x6 : Int) : ∀ (d : Nat) (x7 : Int) (out : List Bool), 0 ≤ x7 → x7 + d = g.length → out.length = g.length → (∀ x, 0 ≤ x → on out x → RAv (Eg g) z x) →
    (∀ out' : List Bool, out'.length = g.length → (∀ x, 0 ≤ x → on out' x → RAv (Eg g) z x) → (∀ x, 0 ≤ x → on out x → on out' x) → (∀ a, x7 ≤ a → on out a → ∀ b, Eg g a b → b ≠ z → on out' b) → Ends (fun k => jacquardref02_Without.l0 k g z out' (wrap64 (x6 + 1))) Q) →
    Ends (fun k => jacquardref02_Without.l1 k g z out x6 x7) Q := by
  have hn := (okG_len hg).1
  intro d
  induction d with
  | zero =>
    intro x7 out h0 hd ho hs hc
    refine (hc out ho hs (fun x _ h => h) (fun a ha hon b he _ => ?_)).step (fun k => ?_)
    · have := Eg_in he
      omega
    · rw [jacquardref02_Without.l1, if_neg (by omega)]
  | succ d ih =>
    intro x7 out h0 hd ho hs hc
    have hw : wrap64 (x7 + 1) = x7 + 1 := w64 (by omega) (by omega)
    by_cases hon : on out x7
    · have h2 := wo_l2 (g := g) (z := z) (Q := Q) x6 x7 (nextL g x7) (nextL_in g x7) (by have := upto_len (eB g x7) g.length 0; unfold nextL; omega) (nextL g x7).length 0 out (by omega) ho (fun out1 ho1 hx1 => by
        rw [hw]
        have hx1' : ∀ x, 0 ≤ x → (on out1 x ↔ on out x ∨ (Eg g x7 x ∧ x ≠ z)) := fun x hx => by rw [hx1 x hx, List.drop_zero, mem_nextL]
        refine ih (x7 + 1) out1 (by omega) (by omega) ho1 (fun x hx h => ?_) (fun out' ho' hs' hm' hcl' => hc out' ho' hs' (fun x hx h => hm' x hx ((hx1' x hx).2 (.inl h))) (fun a ha hona b he hb => ?_))
        · rcases (hx1' x hx).1 h with h | ⟨h1, h2⟩
          · exact hs x hx h
          · exact .step (hs x7 h0 hon) h1 h2
        · have hr := Eg_in he
          by_cases e : a = x7
          · subst e
            exact hm' b hr.2.2.1 ((hx1' b hr.2.2.1).2 (.inr ⟨he, hb⟩))
          · exact hcl' a (by omega) ((hx1' a (by omega)).2 (.inl hona)) b he hb)
      refine Ends.late 2000005 (fun k => (jacquardref02_Without.mono_l k).2.2.2 _ _ _ _ _ _ _) h2 (fun k hk => ?_)
      rw [jacquardref02_Without.l1, if_pos (by omega), if_pos h0, if_pos (by omega), if_pos (on_rd.2 hon), next_some g hg x7 hk]
      rfl
    · refine (ih (x7 + 1) out (by omega) (by omega) ho hs (fun out' ho' hs' hm' hcl' => hc out' ho' hs' hm' (fun a ha hona => hcl' a (by
        by_cases e : a = x7
        · subst e; exact absurd hona hon
        · omega) hona))).step (fun k => ?_)
      rw [jacquardref02_Without.l1, if_pos (by omega), if_pos h0, if_pos (by omega), if_neg (fun h => hon (on_rd.1 h)), hw]
theorem getD_on {t : List Bool} {i : Nat} : t.getD i false = true ↔ on t (i : Int) := by unfold on; rw [Int.toNat_natCast]
theorem wo_l0 (hg : okG g = true) (hn : 0 < g.length) (hz : z ≠ 0) : ∀ (d : Nat) (x6 : Int) (out : List Bool), 0 ≤ x6 → x6 + d = g.length → out.length = g.length → on out 0 → (∀ x, 0 ≤ x → on out x → RAv (Eg g) z x) →
    ((∀ x, RAv (Eg g) z x → on out x) ∨ cf out ≤ d) → Ends (fun k => jacquardref02_Without.l0 k g z out x6) (fun r => r.length = g.length ∧ ∀ x, 0 ≤ x → (on r x ↔ RAv (Eg g) z x)) := by
  have hl := (okG_len hg).1
  intro d
  induction d with
  | zero =>
    intro x6 out h0 hd ho hon hs hm
    refine ⟨1, out, by show jacquardref02_Without.l0 (0 + 1) g z out x6 = _; rw [jacquardref02_Without.l0, if_neg (by omega)], ho, fun x hx => ⟨hs x hx, fun h => ?_⟩⟩
    rcases hm with hm | hm
    · exact hm x h
    · have hr : 0 ≤ x ∧ x < g.length := by
        cases h with
        | start => omega
        | step _ he _ => have := Eg_in he; omega
      by_cases hx : on out x
      · exact hx
      · have := cf_set out x.toNat (by omega) (by unfold on at hx; simpa using hx)
        omega
  | succ d ih =>
    intro x6 out h0 hd ho hon hs hm
    refine (wo_l1 hg x6 g.length 0 out (by omega) (by omega) ho hs (fun out' ho' hs' hm' hcl' => ?_)).step (fun k => by rw [jacquardref02_Without.l0, if_pos (by omega)])
    rw [w64 (by omega) (by omega)]
    refine ih (x6 + 1) out' (by omega) (by omega) ho' (hm' 0 (by omega) hon) hs' ?_
    have hmm : ∀ i, out.getD i false = true → out'.getD i false = true := fun i h => getD_on.2 (hm' _ (by omega) (getD_on.1 h))
    rcases hm with hm | hm
    · refine .inl (fun x hx => hm' x ?_ (hm x hx))
      cases hx with
      | start => omega
      | step _ he _ => have := Eg_in he; omega
    · by_cases hc : cf out ≤ cf out'
      · have e := cf_eq out out' (ho.trans ho'.symm) hmm hc
        subst e
        refine .inl (fun x hx => ?_)
        induction hx with
        | start => exact hon
        | step hx he hb ihx =>
          have := Eg_in he
          exact hcl' _ this.1 ihx _ he hb
      · exact .inr (by omega)
end
/-- What the reference's Without tells. -/
def WoR (g : List (List Int)) (z : Int) (r : List Bool) : Prop := r.length = g.length ∧ ∀ x, 0 ≤ x → (on r x ↔ RAv (Eg g) z x)
theorem wo_some (g : List (List Int)) (hg : okG g = true) (hn : 0 < g.length) (z : Int) : Ends (fun k => jacquardref02_Without.f k g z) (WoR g z) := by
  have hl := (okG_len hg).1
  by_cases hz : z = 0
  · subst hz
    refine ⟨1, List.replicate g.length false, ?_, by simp, fun x hx => ⟨fun h => ?_, fun h => ?_⟩⟩
    · show jacquardref02_Without.f (0 + 1) g 0 = _
      unfold jacquardref02_Without.f
      rw [if_pos (by omega), if_pos (by omega), Option.bind_some, if_neg (by omega), jacquardref02_Without.j0, if_pos (by rfl), Int.toNat_natCast]
    · unfold on at h
      rw [List.getD_eq_getElem?_getD, List.getElem?_replicate] at h
      split at h <;> cases h
    · have : ∀ y, RAv (Eg g) 0 y → False := by
        intro y hy
        induction hy with
        | start h => exact h rfl
        | step _ _ _ ih => exact ih
      exact (this x h).elim
  · have hrep : (List.replicate g.length false).length = g.length := by simp
    have h := wo_l0 (g := g) (z := z) hg hn hz g.length 0 ((List.replicate g.length false).set (0 : Int).toNat true) (by omega) (by omega) (by simp) ((on_set (by omega) (by omega)).2 (.inr rfl)) (fun x hx h => by
      rw [on_set (by omega) hx] at h
      rcases h with h | h
      · unfold on at h
        rw [List.getD_eq_getElem?_getD, List.getElem?_replicate] at h
        split at h <;> cases h
      · subst h; exact .start hz) (.inr (by
        have := cf_set (List.replicate g.length false) 0 (by omega) (by rw [List.getD_eq_getElem?_getD, List.getElem?_replicate]; split <;> rfl)
        have h2 : cf (List.replicate g.length false) ≤ g.length := by have := List.count_le_length (a := false) (l := List.replicate g.length false); unfold cf; omega
        show cf ((List.replicate g.length false).set 0 true) ≤ g.length
        omega))
    refine h.step (fun k => ?_)
    have hb : (z == 0) = false := by simpa using hz
    unfold jacquardref02_Without.f
    rw [if_pos (by omega), if_pos (by omega), Option.bind_some, if_neg (by omega), hb, jacquardref02_Without.j0, if_neg (by decide), Int.toNat_natCast, if_pos (by rw [hrep]; omega)]
theorem WoR.rd {g : List (List Int)} {z : Int} {r : List Bool} (h : WoR g z r) (x : Int) (hx : 0 ≤ x) : rdOf false r x = true ↔ RAv (Eg g) z x := h.2 x hx
theorem dom_some (g : List (List Int)) (hg : okG g = true) (hn : 0 < g.length) (a b : Int) : Ends (fun k => jacquardref02_Dom.f k g a b) (fun r => r = true ↔ Dmb (Eg g) a b) := by
  refine Ends.bind (f := fun k => jacquardref02_Without.f k g (-1)) (fun k => jacquardref02_Without.mono _ _ k) (fun all k => ?_) (wo_some g hg hn (-1)) (fun all hall => ?_)
  · refine LeO.ite (LeO.refl _) (LeO.ite (LeO.refl _) (LeO.ite (LeO.refl _) (LeO.ite (LeO.refl _) (LeO.ite (LeO.ite (LeO.ite (LeO.ite (LeO.ite (LeO.ite (LeO.ite (LeO.refl _) ?_) (LeO.refl _)) (LeO.refl _)) (LeO.refl _)) (LeO.refl _)) (LeO.refl _)) (LeO.refl _)))))
    exact LeO.bind (jacquardref02_Without.mono _ _ _) (fun _ => LeO.refl _)
  · have hl := hall.1
    have no : (¬ Dmb (Eg g) a b) → ((false : Bool) = true ↔ Dmb (Eg g) a b) := fun h => ⟨fun h2 => (nomatch h2), fun h2 => absurd h2 h⟩
    by_cases h1 : a < 0
    · exact ⟨0, false, by simp only [if_pos h1], no (fun h => by have := RAv.rng hn h.1; omega)⟩
    by_cases h2 : a ≥ (g.length : Int)
    · exact ⟨0, false, by simp only [if_neg h1, if_pos h2], no (fun h => by have := RAv.rng hn h.1; omega)⟩
    by_cases h3 : b < 0
    · exact ⟨0, false, by simp only [if_neg h1, if_neg h2, if_pos h3], no (fun h => by have := RAv.rng hn h.2.1; omega)⟩
    by_cases h4 : b ≥ (g.length : Int)
    · exact ⟨0, false, by simp only [if_neg h1, if_neg h2, if_neg h3, if_pos h4], no (fun h => by have := RAv.rng hn h.2.1; omega)⟩
    have e1 : 0 ≤ a := by omega
    have e2 : a < (all.length : Int) := by omega
    have e3 : 0 ≤ b := by omega
    have e4 : b < (all.length : Int) := by omega
    by_cases h5 : rdOf false all a = true
    · by_cases h6 : rdOf false all b = true
      · have ra := (hall.rd a e1).1 h5
        have rb := (hall.rd b e3).1 h6
        by_cases h7 : a = b
        · exact ⟨0, true, by simp only [if_neg h1, if_neg h2, if_neg h3, if_neg h4, if_pos e1, if_pos e2, if_pos h5, if_pos e3, if_pos e4, if_pos h6, if_pos h7], ⟨fun _ => ⟨ra, rb, .inl h7⟩, fun _ => rfl⟩⟩
        · obtain ⟨k, r, hk, hr⟩ := wo_some g hg hn a
          have e5 : b < (r.length : Int) := by have := hr.1; omega
          refine ⟨k, !(rdOf false r b), ?_, ?_⟩
          · replace hk : jacquardref02_Without.f k g a = some r := hk
            simp only [if_neg h1, if_neg h2, if_neg h3, if_neg h4, if_pos e1, if_pos e2, if_pos h5, if_pos e3, if_pos e4, if_pos h6, if_neg h7]
            rw [hk, Option.bind_some, if_pos e5]
          · show (!(rdOf false r b)) = true ↔ Dmb (Eg g) a b
            rw [Bool.not_eq_true', ← Bool.not_eq_true, hr.rd b e3]
            exact ⟨fun h => ⟨ra, rb, .inr h⟩, fun h => h.2.2.resolve_left h7⟩
      · exact ⟨0, false, by simp only [if_neg h1, if_neg h2, if_neg h3, if_neg h4, if_pos e1, if_pos e2, if_pos h5, if_pos e3, if_pos e4, if_neg h6], no (fun h => h6 ((hall.rd b e3).2 h.2.1))⟩
    · exact ⟨0, false, by simp only [if_neg h1, if_neg h2, if_neg h3, if_neg h4, if_pos e1, if_pos e2, if_neg h5], no (fun h => h5 ((hall.rd a e1).2 h.1))⟩

theorem rest_some (a n : Int) (h0 : 0 < n) (h1 : n ≤ 1000000) : ∃ x, jacquardlaw02_rest.f a n = some x ∧ 0 ≤ x ∧ x < n := by
  have hm1 := Int.tmod_lt_of_pos a h0
  have hm2 := Int.lt_tmod_of_pos a h0
  have e4 : wrap64 (Int.tmod a n + n) = Int.tmod a n + n := w64 (by omega) (by omega)
  refine ⟨_, by unfold jacquardlaw02_rest.f; rw [if_neg (by omega)], ?_, ?_⟩
  · rw [e4]; exact Int.tmod_nonneg _ (by omega)
  · exact Int.tmod_lt_of_pos _ h0
/-- Orders and dominators of a graph. -/
theorem get_idom (g : List (List Int)) (hok : okG g = true) (hn : 0 < g.length) (hn2 : g.length ≤ 1000) : ∃ k o r par, graph_Order.f k g = some o ∧ graph_Idom.f k g = some r ∧ IdomR g o r par := by
  obtain ⟨o, h1, H⟩ := order_some g hok hn g.length (Nat.le_refl _)
  obtain ⟨k, r, par, h2, R⟩ := idom_some g hok hn hn2 o ⟨_, h1⟩ H
  refine ⟨k + g.length, o, r, par, ?_, ?_, R⟩
  · exact up (f := fun k => graph_Order.f k g) (fun k => graph_Order.mono k g) (by omega) h1
  · exact up (f := fun k => graph_Idom.f k g) (fun k => graph_Idom.mono g k) (by omega) h2
end Go.Proofs.Ytnmeomdjhjgnfaa.X
end
section
set_option linter.unusedSimpArgs false
set_option linter.unusedVariables false
namespace Go.Proofs.Ytnmeomdjhjgnfaa.Pure
open Go.RowKit Go.Proofs.Ytnmeomdjhjgnfaa.X Go.Proofs.YtnmeomdjhjgnfaaW.PrintWords Go.Proofs.YtnmeomdjhjgnfaaW.PrintLast

theorem dom_many (g : List (List Int)) (hg : okG g = true) (hn : 0 < g.length) (h : Int) : ∀ (l : List Int), (∀ x ∈ l, Dmb (Eg g) h x) → ∃ K, ∀ x ∈ l, jacquardref02_Dom.f K g h x = some true
  | [], _ => ⟨0, fun x hx => by cases hx⟩
  | a :: l, hd => by
    obtain ⟨K1, h1⟩ := dom_many g hg hn h l (fun x hx => hd x (List.mem_cons_of_mem _ hx))
    obtain ⟨K2, b, hb, hb2⟩ := dom_some g hg hn h a
    replace hb : jacquardref02_Dom.f K2 g h a = some b := hb
    have hbt : b = true := hb2.2 (hd a List.mem_cons_self)
    subst hbt
    refine ⟨K1 + K2, fun x hx => ?_⟩
    rcases List.mem_cons.1 hx with rfl | hx
    · exact up (f := fun k => jacquardref02_Dom.f k g h x) (fun k => jacquardref02_Dom.mono _ _ _ k) (by omega) hb
    · exact up (f := fun k => jacquardref02_Dom.f k g h x) (fun k => jacquardref02_Dom.mono _ _ _ k) (by omega) (h1 x hx)
/-- GraphBody: whatever numbers. -/
theorem body_all (A0 : Option Addr) (c0 : Nat) (l0 : List Int) (a1 : Int) (w : World) (hr0 : Kd.C (Kd.int .i64) w A0 l0.length l0) (hc0 : l0.length ≤ c0) (hs : l0.length * 8 ≤ 140737488351232) :
    Calls Try.prog 8 #[.slice A0 l0.length c0, .int .i64 a1] w fun e w' => e = .returned (.bool true) ∧ Below w.heap.size w w' := by
  obtain ⟨k1, g, hk1, hG⟩ := made_some l0 hs
  have hf := hG.few
  have hp := hG.pos
  obtain ⟨k2, o, r, par, ho, hr, R⟩ := get_idom g hG.ok (by omega) (by omega)
  have hhd := headers_some hG.ok (by omega) R hr
  by_cases hz : headL g r = []
  · rw [hz] at hhd
    exact lbody_nil (k1 + k2) A0 c0 l0 a1 w hr0 hc0 (up (f := fun k => jacquardref02_Made.f k l0) (fun k => jacquardref02_Made.mono _ k) (by omega) hk1) (up (f := fun k => graph_Headers.f k g) (fun k => graph_Headers.mono k _) (by omega) hhd)
  · have hpos : 0 < (headL g r).length := List.length_pos_iff.2 hz
    have hhl : (headL g r).length ≤ g.length := by
      rw [headL_upto]
      exact upto_len _ _ _
    obtain ⟨j, hj, hj0, hj1⟩ := rest_some a1 (headL g r).length (by omega) (by omega)
    obtain ⟨h, hh⟩ : ∃ h, rd (headL g r) j = h := ⟨_, rfl⟩
    have hm : h ∈ headL g r := by
      rw [← hh]
      unfold rd
      rw [List.getD_eq_getElem?_getD, List.getElem?_eq_getElem (by omega)]
      exact List.getElem_mem _
    obtain ⟨b, hb1, hb2⟩ := (mem_headL R h).1 hm
    have hex : ∃ b, BS g h b := ⟨b, hb1, hb2⟩
    have hr2 := Eg_in hb1
    have hdec : ∃ P : Int → Bool, ∀ x, 0 ≤ x → x < (g.length : Int) → (P x = true ↔ Rch (Eg g) x ∧ Bd g h x) := by
      have : ∀ x, ∃ b : Bool, b = true ↔ Rch (Eg g) x ∧ Bd g h x := fun x => by
        by_cases h : Rch (Eg g) x ∧ Bd g h x
        · exact ⟨true, ⟨fun _ => h, fun _ => rfl⟩⟩
        · exact ⟨false, ⟨fun h2 => (nomatch h2), fun h2 => absurd h2 h⟩⟩
      exact ⟨fun x => (this x).choose, fun x _ _ => (this x).choose_spec⟩
    obtain ⟨P, hP⟩ := hdec
    obtain ⟨k3, s, hs3, hs1, _⟩ := body_some (h := h) hG.ok (by omega) (by omega) R ho hr ⟨by omega, by omega⟩ P hP
    have hbd := hs1 hex
    have mem : ∀ y, y ∈ s ↔ Rch (Eg g) y ∧ Bd g h y := fun y => by
      rw [hbd, mem_upto]
      constructor
      · rintro ⟨h1, h2⟩; exact (hP y h1.1 (by omega)).1 h2
      · intro h2
        have := RAv.rng (by omega) h2.1
        exact ⟨by omega, (hP y this.1 this.2).2 h2⟩
    obtain ⟨k4, all, hk4, hall⟩ := wo_some g hG.ok (by omega) (-1)
    replace hk4 : jacquardref02_Without.f k4 g (-1) = some all := hk4
    obtain ⟨k5, hk5⟩ := dom_many g hG.ok (by omega) h s (fun x hx => bd_dom hex ((mem x).1 hx).2 ((mem x).1 hx).1)
    have hsl : s.length ≤ g.length := by rw [hbd]; exact upto_len _ _ _
    obtain ⟨m, hmm⟩ : ∃ m, m = k1 + k2 + k3 + k4 + k5 + 1000003 := ⟨_, rfl⟩
    refine lbody_true m A0 c0 l0 a1 w hr0 hc0 (g := g) (hl := headL g r) (j := j) (h := h) (bd := s) (all := all) ⟨?_, hf, ?_, by omega, hj, hj0, hj1, hh, by omega, by omega, ?_, by omega, fun x hx => RAv.rng (by omega) ((mem x).1 hx).1, ?_, hall.1, fun x hx => ?_, fun a b => edge_some g hG.ok a b (by omega), fun x hx => bd_goes P hP hex s hbd x hx, fun a h0 h1 y hy he ha hn => ?_, List.contains_iff_mem.2 ((mem h).2 ⟨hb2.1, .head⟩)⟩
    · exact up (f := fun k => jacquardref02_Made.f k l0) (fun k => jacquardref02_Made.mono _ k) (by omega) hk1
    · exact up (f := fun k => graph_Headers.f k g) (fun k => graph_Headers.mono k _) (by omega) hhd
    · exact up (f := fun k => graph_Body.f k g h) (fun k => graph_Body.mono k _ _) (by omega) hs3
    · exact up (f := fun k => jacquardref02_Without.f k g (-1)) (fun k => jacquardref02_Without.mono _ _ k) (by omega) hk4
    · exact up (f := fun k => jacquardref02_Dom.f k g h x) (fun k => jacquardref02_Dom.mono _ _ _ k) (by omega) (hk5 x hx)
    · refine Classical.byContradiction (fun hne => ?_)
      have hra := (hall.rd a h0).1 ha
      have hin : a ∈ s := (mem a).2 ⟨hra, bd_into ((mem y).1 hy).2 he hne hra⟩
      rw [List.contains_iff_mem.2 hin] at hn
      cases hn
end Go.Proofs.Ytnmeomdjhjgnfaa.Pure
end
