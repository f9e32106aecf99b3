/- Parts of the proof of GraphIdom: Gbody, Gpairs, X3, Gawake, X21, Pdfs, Pord, Pidom, Pedge, Pchk, Pdomn, Pidf, Pdm, Plaw, Pwo, Pdom, PureGraphIdom. -/
import Derived.Test.YtnmeomdjhjgnfaaB2
import Derived.Test.YtnmeomdjhjgnfaaB1
section
/-! graph.Body, by hand. -/
set_option linter.unusedSimpArgs false
namespace Go.Proofs.Ytnmeomdjhjgnfaa.X
open Go.RowKit Go.Shelf Go.Proofs.YtnmeomdjhjgnfaaW.PrintWords Go.Proofs.YtnmeomdjhjgnfaaW.PrintLast Go.Proofs.YtnmeomdjhjgnfaaW.PrintMore
set_option linter.unusedVariables false
attribute [local go_sem] Oper.semAt_some

def opL (d : List Int) (h : Int) (es : List (Int × Int)) : List Int := (es.filter fun e => e.2 == h && backL d e.1 e.2).map (·.1)
theorem opL_snoc (d : List Int) (h : Int) (es : List (Int × Int)) (a b : Int) : opL d h (es ++ [(a, b)]) = if (b == h && backL d a b) = true then opL d h es ++ [a] else opL d h es := by
  unfold opL
  rw [List.filter_append, List.map_append]
  simp only [List.filter_cons, List.filter_nil]
  split <;> simp
theorem opL_length (d : List Int) (h : Int) (es : List (Int × Int)) : (opL d h es).length ≤ es.length := by
  unfold opL; rw [List.length_map]; exact List.length_filter_le _ _

/-- The code's end is a return. -/
def onlyRet (Q : Exit → Act → World → Prop) : Exit → Act → World → Prop
  | .ret, a, w => Q .ret a w
  | _, _, _ => False
theorem wpIn_onlyRet {F : Fence} {n : Nat} {P : Program} {c : Code} {Q : Exit → Act → World → Prop} {a : Act} {w : World} (h : c.wpIn F n P (onlyRet Q) a w) : c.wpIn F n P Q a w :=
  wpIn_mono h (fun e a w h => by cases e <;> first | exact h | exact h.elim)
theorem preds_in_fold (n : Nat) (es : List (Int × Int)) : ∀ rows : List (List Int), (∀ r ∈ rows, ∀ x ∈ r, 0 ≤ x ∧ x < (n : Int)) → (∀ e ∈ es, 0 ≤ e.1 ∧ e.1 < n) → ∀ r ∈ es.foldl predStep rows, ∀ x ∈ r, 0 ≤ x ∧ x < n := by
  induction es with
  | nil => intro rows h _; exact h
  | cons e es ih =>
    intro rows h he
    refine ih _ (fun r hr x hx => ?_) (fun e' h' => he e' (List.mem_cons_of_mem _ h'))
    rcases List.mem_or_eq_of_mem_set hr with hr | rfl
    · exact h r hr x hx
    · rcases List.mem_append.1 hx with hx | hx
      · rcases getD_mem rows e.2.toNat with h2 | h2
        · rw [h2] at hx; cases hx
        · exact h _ h2 x hx
      · rw [List.mem_singleton.1 hx]; exact he e List.mem_cons_self
theorem predsL_in (g : List (List Int)) : ∀ r ∈ predsL g, ∀ x ∈ r, 0 ≤ x ∧ x < g.length :=
  preds_in_fold g.length (edgesL g) _ (fun r hr x hx => by rw [List.eq_of_mem_replicate hr] at hx; cases hx) (fun e he => (edgesL_in g e he).1)
theorem getD_mem' (l : List (List Int)) (i : Nat) : ∀ x ∈ l.getD i [], l.getD i [] ∈ l := by
  intro x hx
  rcases getD_mem l i with h | h
  · rw [h] at hx; cases hx
  · exact h
theorem MB.same {w w' : World} {b n : Nat} {f : Int → Bool} (h : MB w b n f) (he : w'.heap[b]? = w.heap[b]?) : MB w' b n f := by
  obtain ⟨D, ⟨es, clock, hb', F, hs, hD⟩, hf⟩ := h.own
  exact ⟨D, ⟨es, clock, he.trans hb', F, hs, hD⟩, hf⟩
/-- Memory while the loop's blocks are gathered. -/
structure BdIn (w wL : World) (b9 bm D : Nat) (o s : List Int) (W : World) : Prop where
  box : ∃ v, W.heap[b9]? = some (.cells #[v] 23 (0, 0)) ∧ (Kd.int .i64).R 3 W wL.heap.size (fun _ => True) v o
  map : MB W bm s.length (fun x => s.contains x)
  stay : ∀ k, k < b9 → k ≠ bm → W.heap[k]? = wL.heap[k]?
  below : Below w.heap.size w W
  defer : W.heap[D]? = some (.deferred (some []))
  far : wL.heap.size ≤ W.heap.size
theorem bd_store {w wL W : World} {b9 bm D : Nat} {o' s : List Int} {v v' : Value} (hv : W.heap[b9]? = some (.cells #[v] 23 (0, 0))) (hmap : MB W bm s.length (fun x => s.contains x)) (hstay : ∀ k, k < b9 → k ≠ bm → W.heap[k]? = wL.heap[k]?) (hbelow : Below w.heap.size w W)
    (hdefer : W.heap[D]? = some (.deferred (some []))) (hf : wL.heap.size ≤ W.heap.size) (hw : w.heap.size ≤ bm) (h1 : bm < b9) (h2 : b9 < wL.heap.size) (h3 : wL.heap.size ≤ D) (hR : (Kd.int .i64).R 3 W wL.heap.size (fun _ => True) v' o') :
    BdIn w wL b9 bm D o' s (W.setCell ⟨b9, 0, none⟩ v') := by
  have hg := grownBy_setCell_b W b9 0 v'
  have hne : ∀ k, k < W.heap.size → k ≠ b9 → (W.setCell ⟨b9, 0, none⟩ v').heap[k]? = W.heap[k]? := fun k hk hn => hg.block k hk (by intro e; injection e with e; exact hn e)
  refine ⟨⟨v', heap_box hv _, Kd.R_mono (Kd.R_step (Kd.R_bound hR) (fun k hk hlt => hne k hlt (by have := hk.2.1; omega))) (fun _ _ => trivial)⟩, hmap.same (hne bm (by omega) (by omega)), fun k hk hn => (hne k (by omega) (by omega)).trans (hstay k hk hn),
    hbelow.grown hg hbelow.size (fun k e => by injection e with e; omega), (hne D (Array.getElem?_eq_some_iff.1 hdefer).1 (by omega)).trans hdefer, Nat.le_trans hf hg.size⟩
theorem BdIn.pop {w wL W : World} {b9 bm D : Nat} {o o' s : List Int} {v' : Value} (h : BdIn w wL b9 bm D o s W) (hw : w.heap.size ≤ bm) (h1 : bm < b9) (h2 : b9 < wL.heap.size) (h3 : wL.heap.size ≤ D) (hR : (Kd.int .i64).R 3 W wL.heap.size (fun _ => True) v' o') :
    BdIn w wL b9 bm D o' s (W.setCell ⟨b9, 0, none⟩ v') := by
  obtain ⟨v, hv, _⟩ := h.box
  exact bd_store hv h.map h.stay h.below h.defer h.far hw h1 h2 h3 hR
theorem BdIn.put {w wL W W' : World} {b9 bm D : Nat} {o s s' : List Int} (h : BdIn w wL b9 bm D o s W) (hw : w.heap.size ≤ bm) (h1 : bm < b9) (h2 : b9 < wL.heap.size) (h3 : wL.heap.size ≤ D) (hg : W.grownBy W' (some bm)) (hM : MB W' bm s'.length (fun x => s'.contains x)) :
    BdIn w wL b9 bm D o s' W' := by
  obtain ⟨v, hv, hR⟩ := h.box
  have hne : ∀ k, k < W.heap.size → k ≠ bm → W'.heap[k]? = W.heap[k]? := fun k hk hn => hg.block k hk (by intro e; injection e with e; exact hn e)
  have hf := h.far
  refine ⟨⟨v, (hne b9 (by omega) (by omega)).trans hv, Kd.R_mono (Kd.R_step (Kd.R_bound hR) (fun k hk hlt => hne k hlt (by have := hk.2.1; omega))) (fun _ _ => trivial)⟩, hM, fun k hk hn => (hne k (by omega) hn).trans (h.stay k hk hn),
    h.below.grown hg h.below.size (fun k e => by injection e with e; omega), (hne D (Array.getElem?_eq_some_iff.1 h.defer).1 (by omega)).trans h.defer, Nat.le_trans h.far hg.size⟩
theorem BdIn.grow {w wL W W' : World} {b9 bm D : Nat} {o s : List Int} {v : Value} (h : BdIn w wL b9 bm D o s W) (h1 : bm < b9) (h2 : b9 < wL.heap.size) (hw : w.heap.size ≤ wL.heap.size)
    (hv : W.heap[b9]? = some (.cells #[v] 23 (0, 0))) (hR : (Kd.int .i64).R 3 W wL.heap.size (fun _ => True) v o) (hg : W.grownBy W' v.ownBlock) :
    W'.heap[b9]? = some (.cells #[v] 23 (0, 0)) ∧ MB W' bm s.length (fun x => s.contains x) ∧ (∀ k, k < b9 → k ≠ bm → W'.heap[k]? = wL.heap[k]?) ∧ Below w.heap.size w W' ∧ W'.heap[D]? = some (.deferred (some [])) ∧ wL.heap.size ≤ W'.heap.size := by
  have hb := Kd.R_base hR
  have hf := h.far
  have hne : ∀ k, k < wL.heap.size → W'.heap[k]? = W.heap[k]? := fun k hk => hg.block k (by omega) (fun e => by have := hb k e.symm; omega)
  refine ⟨(hne b9 h2).trans hv, h.map.same (hne bm (by omega)), fun k hk hn => (hne k (by omega)).trans (h.stay k hk hn), h.below.grown hg h.below.size (fun k e => by have := hb k e; omega), ?_, Nat.le_trans hf hg.size⟩
  refine (hg.block D (Array.getElem?_eq_some_iff.1 h.defer).1 (fun e => ?_)).trans h.defer
  obtain ⟨c, hc⟩ := Kd.R_typed hR D e.symm
  have := h.defer
  rw [hc] at this
  cases this
theorem BdIn.app {w wL W W' : World} {b9 bm D : Nat} {o o' s : List Int} {v v' : Value} (h : BdIn w wL b9 bm D o s W) (hw : w.heap.size ≤ bm) (h1 : bm < b9) (h2 : b9 < wL.heap.size) (h3 : wL.heap.size ≤ D)
    (hv : W.heap[b9]? = some (.cells #[v] 23 (0, 0))) (hR : (Kd.int .i64).R 3 W wL.heap.size (fun _ => True) v o) (hg : W.grownBy W' v.ownBlock) (hR' : (Kd.int .i64).R 3 W' wL.heap.size (fun _ => True) v' o') :
    BdIn w wL b9 bm D o' s (W'.setCell ⟨b9, 0, none⟩ v') := by
  obtain ⟨k1, k2, k3, k4, k5, k6⟩ := h.grow h1 h2 (by omega) hv hR hg
  exact bd_store k1 k2 k3 k4 k5 k6 hw h1 h2 h3 hR'
set_option maxHeartbeats 8000000 in
set_option maxRecDepth 100000 in
theorem graph_Body.calls (k : Nat) (A0 : Option Addr) (c0 : Nat) (l0 : List (List Int)) (a1 : Int) (r : List Int) (w : World) (hr0 : Kd.C (Kd.slice 3 (Kd.int .i64)) w A0 l0.length l0) (hc0 : l0.length ≤ c0) (h : graph_Body.f k l0 a1 = some r) :
    Calls Try.prog 39 #[.slice A0 l0.length c0, .int .i64 a1] w fun e w' => ∃ v0_ : Value, e = .returned (v0_) ∧ Kd.R (Kd.int .i64) 3 w' w.heap.size (fun _ => True) v0_ r ∧ Below w.heap.size w w' := by
  unfold graph_Body.f at h
  split at h
  case isFalse => cases h
  rename_i hok
  obtain ⟨d, hd, h⟩ := Option.bind_eq_some_iff.1 h
  obtain ⟨o, ho, h⟩ := Option.bind_eq_some_iff.1 h
  split at h
  case isFalse => cases h
  rename_i hdl
  obtain ⟨hdl, hel, hol, hob, ha0, ha1⟩ := hdl
  have hlen := (okG_len hok).1
  have HR := Aside0.mk hr0
  have HC0 := Aside0.mk hc0
  have HOK := Aside0.mk hok
  have HE := Aside0.mk h
  have HD := Aside0.mk hd
  have HO := Aside0.mk ho
  have HDL := Aside0.mk hdl
  have HEL := Aside0.mk hel
  have HOL := Aside0.mk hol
  have HOB := Aside0.mk hob
  clear hr0 hc0 hok h hd ho hdl hol hob hel
  have hmm := @run_makeMap Try.prog
  refine (callsIn_wide (n := 6)).1 ?_
  refine callsIn_of_wp_marks Try.func39 rfl trivial ?_ rfl
  simp only [Try.ntmps39, List.size_toArray, List.length_cons, List.length_nil, Nat.reduceAdd, Nat.reduceSub, Array.replicate_succ, Array.replicate_zero, List.push_toArray, List.append_toArray, List.nil_append, List.cons_append]
  refine wpIn_seq (wpIn_wide.2 ?_)
  go_wp2
  have hb0 : Below w.heap.size w (w.alloc (.cells #[.int .i64 a1] 3)) := below_alloc (Below.refl _ _) _
  have hcr := cell_new_c' w (.int .i64 a1) 3
  obtain ⟨W1, hW1⟩ : ∃ W1, w.alloc (.cells #[.int .i64 a1] 3) = W1 := ⟨_, rfl⟩
  have hs1 : W1.heap.size = w.heap.size + 1 := by rw [← hW1]; simp
  rw [hW1] at hb0 hcr ⊢
  have HCR := Aside0.mk hcr.1
  have HB1 := Aside0.mk hb0
  have HS1 := Aside0.mk hs1
  clear hb0 hcr hs1 hW1
  refine wpIn_seq (wpIn_wide.2 ?_)
  go_wp2_with fail
  refine (back_calls k A0 c0 l0 d _ (Kd.C_below HR.out HB1.out) HC0.out HD.out).mono ?_
  rintro e W2 ⟨bk, Ad, cd, rfl, hbk, hbx, hRd, hB2⟩
  have HBX := Aside0.mk hbx
  have HRd := Aside0.mk (Kd.R_reads' hRd)
  have HB2 := Aside0.mk (HB1.out.trans (hB2.mono HB1.out.size))
  have HCR2 := Aside0.mk ((hB2.cell (World.block_lt_of_cell? _ _ HCR.out)).trans HCR.out)
  have hbk2 := blk_lt hbx
  clear hbx hRd hB2 HCR HB1 HS1
  go_wp2
  have hb3 : Below W2.heap.size W2 (W2.alloc (.cells #[.func (.func 103) #[] #[.pointer (some ⟨bk, 0, none⟩)]] 53)) := below_alloc (Below.refl _ _) _
  have hc3 := cell_new_c' W2 (.func (.func 103) #[] #[.pointer (some ⟨bk, 0, none⟩)]) 53
  obtain ⟨W3, hW3⟩ : ∃ W3, W2.alloc (.cells #[.func (.func 103) #[] #[.pointer (some ⟨bk, 0, none⟩)]] 53) = W3 := ⟨_, rfl⟩
  have hs3 : W3.heap.size = W2.heap.size + 1 := by rw [← hW3]; simp
  rw [hW3] at hb3 hc3 ⊢
  have HC3 := Aside0.mk hc3.1
  have HB3 := Aside0.mk hb3
  have HS3 := Aside0.mk hs3
  have HB03 := Aside0.mk (HB2.out.trans (hb3.mono HB2.out.size))
  clear hb3 hc3 hs3 hW3
  refine wpIn_seq (wpIn_wide.2 ?_)
  go_wp2_with fail
  refine (graph_Preds.calls A0 c0 l0 (predsL l0) _ (Kd.C_below HR.out HB03.out) HC0.out (by unfold graph_Preds.f; rw [if_pos HOK.out])).mono ?_
  rintro e W4 ⟨v17, rfl, hS17, hB4⟩
  obtain ⟨Ap, cp, rfl, _, _⟩ := Kd.S_reads hS17
  rw [predsL_length] at hS17 ⊢
  have HP4 := Aside0.mk hS17
  have HB4 := Aside0.mk hB4
  clear hS17 hB4
  go_wp2
  refine wpIn_seq (wpIn_wide.2 ?_)
  go_wp2_with fail
  refine (graph_Order.calls k A0 c0 l0 o _ (Kd.C_below HR.out (HB03.out.trans (HB4.out.mono HB03.out.size))) HC0.out HO.out).mono ?_
  rintro e W5 ⟨v21, rfl, hRo, hB5⟩
  obtain ⟨Ao, co, rfl⟩ := Kd.R_slice hRo
  have HO5 := Aside0.mk (Kd.R_reads' hRo)
  have HB35 := Aside0.mk (HB4.out.trans (hB5.mono HB4.out.size))
  have HP5 := Aside0.mk (Kd.S_mono (ok' := fun k => k < W4.heap.size) (Kd.S_bound (Kd.S_below (Kd.S_mono (ok' := fun k => k < W4.heap.size) (Kd.S_bound HP4.out) (fun k hk => hk.2.2.1)) hB5)) (fun k hk => hk.1))
  have hs45 := hB5.size
  clear hRo hB5 HP4
  go_wp2
  have hHM := World.alloc_heap_new W5 (.map #[] 0)
  obtain ⟨W6, hrun6, hM6, hg6⟩ := (MB.made W5).put (x := a1) true (wf64_of (by omega) (by omega)) (by unfold maxLen; omega)
  have hc6 : (W5.alloc (.map #[] 0)).cell? ⟨w.heap.size, 0, none⟩ = some (.int .i64 a1) := cell_alloc' _ ((HB35.out.cell (World.block_lt_of_cell? _ _ ((HB3.out.cell (World.block_lt_of_cell? _ _ HCR2.out)).trans HCR2.out))).trans ((HB3.out.cell (World.block_lt_of_cell? _ _ HCR2.out)).trans HCR2.out))
  have hs56 : W5.heap.size + 1 ≤ W6.heap.size := by have := hg6.size; simpa using this
  have HB56 : Aside0 (Below W5.heap.size W5 W6) := ⟨(below_alloc (Below.refl _ _) _).grown hg6 (by simp) (fun k e => by injection e with e; omega)⟩
  have HM6 := Aside0.mk hM6
  clear hM6 hg6 hHM
  refine wpIn_seq (wpIn_wide.2 ?_)
  go_wp2
  have hM6 := HM6.out.below (below_alloc (Below.refl _ W6) (.cells #[.slice none 0 0] 23))
  have k9 := World.alloc_heap_new W6 (.cells #[.slice none 0 0] 23)
  have hB67 : Below W6.heap.size W6 (W6.alloc (.cells #[.slice none 0 0] 23)) := below_alloc (Below.refl _ _) _
  refine wpIn_seq (wpIn_wide.2 ?_)
  go_wp2
  obtain ⟨W7, hW7⟩ : ∃ W7, W6.alloc (.cells #[.slice none 0 0] 23) = W7 := ⟨_, rfl⟩
  have hs67 : W7.heap.size = W6.heap.size + 1 := by rw [← hW7]; simp
  rw [hW7] at hM6 k9 hB67 ⊢
  have hfn : (fun y : Int => if y = a1 then true else false) = fun y => [a1].contains y := by
    funext y
    by_cases hy : y = a1 <;> simp [hy]
  rw [hfn] at hM6
  have hB57 : Below W5.heap.size W5 W7 := HB56.out.trans (hB67.mono (by omega))
  have hB37 : Below W3.heap.size W3 W7 := HB35.out.trans (hB57.mono (by have := HB35.out.size; omega))
  have hB27 : Below W2.heap.size W2 W7 := HB3.out.trans (hB37.mono (by have := HB3.out.size; omega))
  have hB07 : Below w.heap.size w W7 := HB2.out.trans (hB27.mono (by have := HB2.out.size; omega))
  have K1 := Aside0.mk ((hB27.cell (World.block_lt_of_cell? _ _ HCR2.out)).trans HCR2.out)
  have K3 := Aside0.mk ((hB37.cell (World.block_lt_of_cell? _ _ HC3.out)).trans HC3.out)
  have KX := Aside0.mk ((hB27.block bk hbk2).trans HBX.out)
  have KD := Aside0.mk HRd.out.2.2
  have HB27 := Aside0.mk hB27
  have KDc := Aside0.mk HRd.out.2.1
  have KP := HP5
  have KO := Aside0.mk HO5.out.2.2
  have HB57 := Aside0.mk hB57
  have KOc := Aside0.mk HO5.out.2.1
  have KM := Aside0.mk hM6
  have K9 := Aside0.mk k9
  have HB7 := Aside0.mk hB07
  have HW := Aside0.mk (show w.heap.size ≤ W2.heap.size ∧ W2.heap.size < W3.heap.size ∧ W3.heap.size ≤ W4.heap.size ∧ W4.heap.size ≤ W5.heap.size ∧ W5.heap.size < W6.heap.size ∧ W7.heap.size = W6.heap.size + 1 from ⟨HB2.out.size, by have := HS3.out; omega, HB4.out.size, hs45, hs56, hs67⟩)
  clear hM6 k9 hB67 hW7 hs67 hfn hB57 hB37 hB27 hB07 HM6 HB56 hs56 hc6 hrun6 HO5 hs45 HP5 HB35 HB4 HB03 HS3 HB3 HC3 HCR2 HB2 HBX HRd hmm
  refine wpIn_seq (wpIn_seq ?_)
  gi_wp2
  refine ⟨trivial, ?_⟩
  refine (callsIn_wide.2 (edges_calls A0 l0.length c0 _)).mono ?_
  rintro e w' ⟨rfl, rfl⟩
  gi_wp2
  have c10 := cell_new_c' W7 (.slice A0 l0.length c0) 22
  have hBL : Below W7.heap.size W7 (W7.alloc (.cells #[.slice A0 l0.length c0] 22)) := below_alloc (Below.refl _ _) _
  have hsL : (W7.alloc (.cells #[.slice A0 l0.length c0] 22)).heap.size = W7.heap.size + 1 := by simp
  obtain ⟨wL, hwL⟩ : ∃ wL, W7.alloc (.cells #[.slice A0 l0.length c0] 22) = wL := ⟨_, rfl⟩
  rw [hwL] at c10 hBL hsL ⊢
  have k9L : wL.heap[W6.heap.size]? = some (.cells #[.slice none 0 0] 23 (0, 0)) := (hBL.block _ (blk_lt K9.out)).trans K9.out
  have HI0 := Aside0.mk (OutIn.start (d := Kd.int .i64) (e := 3) k9L)
  have hMW := HI0.out.names
  have hbL : W6.heap.size < wL.heap.size := by have := HW.out.2.2.2.2.2; omega
  have hMd : Told wL.heap.size (BxM W6.heap.size) := BxM.told hbL
  have HBL := Aside0.mk hBL
  have HSL := Aside0.mk hsL
  clear hBL hsL hwL k9L
  refine wpIn_rangeFunc_ownG rfl (by omega) (gf := 104) (lb := #[.pointer (some ⟨W7.heap.size, 0, none⟩)]) rfl trivial (enters_of Try.func104 (by kernel_rfl) rfl)
    (edges_stops 5 (by omega) W7.heap.size A0 c0 l0 HOK.out (BxM W6.heap.size) wL hMd hMW (Kd.C_below HR.out (HB7.out.trans (HBL.out.mono HB7.out.size))) HC0.out c10.1) EdKp.trans (EdKp.put hMd) (Below.refl _ _) (fun _ => rfl)
    (fun pre W => OutIn wL W6.heap.size (Kd.int .i64) 3 23 (opL d a1 (pre.map Subtype.val)) W)
    (fun _ _ _ => False)
    (fun s A B row hs hg hr => hs.kept hg hr (by omega))
    (fun _ _ _ _ _ hs _ _ => hs)
    HI0.out
    (fun x => { tmps := #[Value.slice A0 l0.length c0, Value.int IntKind.i64 a1, undef,
          Value.pointer (some { block := w.heap.size, off := 0 }), Value.slice none 0 0,
          Value.pointer (some { block := W2.heap.size, off := 0 }), Value.slice Ap l0.length cp,
          Value.slice Ao o.length co, Value.map (some W5.heap.size),
          Value.pointer (some { block := W6.heap.size, off := 0 }), .int .i64 x.1.1, .int .i64 x.1.2, undef, undef, undef, undef,
          Value.slice A0 l0.length c0, Value.func (Fn.func 103) #[] #[Value.pointer (some { block := bk, off := 0 })],
          Value.slice A0 l0.length c0, Value.slice Ap l0.length cp, Value.slice A0 l0.length c0,
          Value.slice Ao o.length co, Value.map (some W5.heap.size), Value.int IntKind.i64 a1,
          Value.map (some W5.heap.size), Value.slice A0 l0.length c0,
          Value.func (Fn.func 104) #[] #[Value.pointer (some { block := W7.heap.size, off := 0 })], .int .i64 x.1.1, .int .i64 x.1.2, undef, undef, undef, undef, undef, undef, undef, undef, undef, undef, undef, undef, undef, undef, undef, undef, undef, undef, undef, undef, undef, undef, undef, undef, undef, undef, undef, undef, undef, undef, undef, undef, undef, undef, undef, undef, undef, undef, undef, undef, undef, undef, undef, undef, undef, undef, undef, undef, undef, undef, undef, undef, undef, undef, undef, undef, undef, undef, undef], defers := [] }) ?assign ?body ?done ?stop
  case assign =>
    intro l x W K hK
    simp only [edEnc]
    gi_wp2
    exact hK
  case body =>
    rintro l pre ⟨⟨a, b⟩, hq0, hq1, hb0, hb1⟩ W hI hlt
    clear hMd hMW c10 HI0
    simp only at hq0 hq1 hb0 hb1
    obtain ⟨out, hout⟩ : ∃ out, opL d a1 (pre.map Subtype.val) = out := ⟨_, rfl⟩
    rw [hout] at hI
    have HOL : Aside0 (out.length ≤ 1000000000000) := ⟨by
      have h1 := opL_length d a1 (pre.map Subtype.val)
      rw [hout, List.length_map] at h1
      have h2 := HEL.out
      omega⟩
    have hsnoc : opL d a1 ((pre ++ [(⟨(a, b), by omega⟩ : Ed l0.length)]).map Subtype.val) = if (b == a1 && backL d a b) = true then out ++ [a] else out := by
      rw [List.map_append, ← hout]
      exact opL_snoc _ _ _ _ _
    have HSN := Aside0.mk hsnoc
    have HIN := Aside0.mk hI
    clear hsnoc hout
    have hf := hI.far
    have hstay : Below W6.heap.size W7 W := (HBL.out.mono (by have := HW.out.2.2.2.2.2; omega)).trans hI.stay
    have hc1 : W.cell? ⟨w.heap.size, 0, none⟩ = some (.int .i64 a1) := (hstay.cell (p := ⟨w.heap.size, 0, none⟩) (by have := HW.out; simp only; omega)).trans K1.out
    have hc3 : W.cell? ⟨W2.heap.size, 0, none⟩ = some (.func (.func 103) #[] #[.pointer (some ⟨bk, 0, none⟩)]) := (hstay.cell (p := ⟨W2.heap.size, 0, none⟩) (by have := HW.out; simp only; omega)).trans K3.out
    have hcon := back1_calls bk Ad cd d a b W ((hstay.cell (p := ⟨bk, 0, none⟩) (by have := HW.out; simp only; omega)).trans (cell_of_box' KX.out).1) (Kd.C_below KD.out (HB27.out.trans (hstay.mono (by have := HW.out; omega)))) KDc.out (by have := HDL.out; omega) hq0 (by have := HDL.out; omega)
    have HCON := Aside0.mk hcon
    clear hcon hI hstay
    by_cases hba : b = a1
    · have kba : (b == a1) = true := by simpa using hba
      cases hback : backL d a b with
      | false =>
        have HSN2 := HSN.out
        rw [hback, kba] at HSN2
        rw [hback] at HCON
        have HSN3 := Aside0.mk HSN2
        clear HSN2 hba
        gi_wp2
        refine ⟨trivial, ?_⟩
        refine (CallsIn.inRound l (callsIn_wide.2 HCON.out)).mono ?_
        rintro e W' ⟨rfl, hB⟩
        gi_wp2
        have hr := HIN.out.call hB (by omega)
        refine ⟨hr.1, hr.2.1, ?_⟩
        show OutIn _ _ _ _ _ (opL d a1 _) _
        rw [HSN3.out]
        exact hr.2.2
      | true =>
        have HSN2 := HSN.out
        rw [hback, kba] at HSN2
        rw [hback] at HCON
        have HSN3 := Aside0.mk HSN2
        clear HSN2 hba
        refine wpIn_block ?_
        refine wpIn_seq ?_
        refine wpIn_mono (Q := Exit.then (fun a' w' => Below W.heap.size W w' ∧ a' = { tmps := #[Value.slice A0 l0.length c0, Value.int IntKind.i64 a1, undef,
          Value.pointer (some { block := w.heap.size, off := 0 }), Value.slice none 0 0,
          Value.pointer (some { block := W2.heap.size, off := 0 }), Value.slice Ap l0.length cp,
          Value.slice Ao o.length co, Value.map (some W5.heap.size),
          Value.pointer (some { block := W6.heap.size, off := 0 }), .int .i64 a, .int .i64 b, undef, undef, undef, undef,
          Value.slice A0 l0.length c0, Value.func (Fn.func 103) #[] #[Value.pointer (some { block := bk, off := 0 })],
          Value.slice A0 l0.length c0, Value.slice Ap l0.length cp, Value.slice A0 l0.length c0,
          Value.slice Ao o.length co, Value.map (some W5.heap.size), Value.int IntKind.i64 a1,
          Value.map (some W5.heap.size), Value.slice A0 l0.length c0,
          Value.func (Fn.func 104) #[] #[Value.pointer (some { block := W7.heap.size, off := 0 })], .int .i64 a, .int .i64 b, .int .i64 b, .int .i64 a1, .bool true, .bool true, .func (.func 103) #[] #[.pointer (some ⟨bk, 0, none⟩)], .int .i64 a, .int .i64 b, .bool true, .bool true, undef, undef, undef, undef, undef, undef, undef, undef, undef, undef, undef, undef, undef, undef, undef, undef, undef, undef, undef, undef, undef, undef, undef, undef, undef, undef, undef, undef, undef, undef, undef, undef, undef, undef, undef, undef, undef, undef, undef, undef, undef, undef, undef, undef, undef, undef, undef, undef, undef, undef], defers := [] }) (fun _ _ _ => False)) ?first ?rest
        case first =>
          gi_wp2
          refine ⟨trivial, ?_⟩
          refine (CallsIn.inRound l (callsIn_wide.2 HCON.out)).mono ?_
          rintro e W' ⟨rfl, hB⟩
          gi_wp2
          exact ⟨hB, trivial⟩
        case rest =>
          intro e a' W' h'
          cases e <;> first | exact h'.elim | skip
          obtain ⟨hB, rfl⟩ := h'
          obtain ⟨hk1, hk2, hI2⟩ := HIN.out.call hB (by omega)
          obtain ⟨v, h5, hRv⟩ := hI2.box
          obtain ⟨hc5, hf5⟩ := cell_of_box' h5
          obtain ⟨Av, cv, rfl⟩ := Kd.R_slice hRv
          have HRv := Aside0.mk hRv
          have H5 := Aside0.mk h5
          have HK := Aside0.mk (And.intro hk1 hk2)
          have HI2 := Aside0.mk hI2
          have hf2 := hI2.far
          clear hRv h5 hk1 hk2 hI2
          refine wpIn_cond_true rfl ?_
          refine wpIn_list_plain (by kernel_rfl) (fun ⟨_, _, h'⟩ => h') ?_
          go_wp2_with (first | ((with_reducible refine gate_builtin (b := .append) (xs := #[.tmp 38, .tmp 40]) rfl ?_); at_builtin; refine Kd.R_append (Kd.int .i64) (w0 := W') (W := W') wL.heap.size rfl (.tmp 38) (.tmp 40) 23 3 (.int .i64 0) 8 rfl Try.underlying23 info3 rfl (by decide) (by omega) (.slice Av out.length cv) out a [.int .i64 a] (fun _ => True) (fun _ => False) rfl rfl ?aP (fun _ hk => hk.elim) ?aF ?aO ?aB ?aS ?aL ?_; (case aP => rfl); (case aF => exact fun _ _ => trivial); (case aO => exact HRv.out); (case aB => exact Below.refl _ _); (case aS => exact hf2); (case aL => have := HOL.out; omega); intro v20 W7' ho hb hg hat; obtain ⟨A20, n20, c20, rfl⟩ : ∃ A n c, v20 = .slice A n c := ⟨_, _, _, (Kd.R_slice ho).choose_spec.choose_spec⟩; obtain ⟨hc57, hf57⟩ := cell_of_box' ((hg.block W6.heap.size (blk_lt H5.out) (fun h => by have := Kd.R_base HRv.out _ h.symm; omega)).trans H5.out)) | fail)
          obtain ⟨hr1, hr2, hr3⟩ := HI2.out.append (by omega) H5.out HRv.out ho hg hat
          refine ⟨HK.out.1.trans hr1, HK.out.2.trans hr2, ?_⟩
          show OutIn _ _ _ _ _ (opL d a1 _) _
          rw [HSN3.out]
          exact hr3
    · have kba : (b == a1) = false := by simpa using hba
      have HSN2 := HSN.out
      rw [kba] at HSN2
      have HSN3 := Aside0.mk HSN2
      clear HSN2 hba
      gi_wp2
      refine ⟨fun f h => (by cases h), ?_⟩
      gi_wp2
      refine ⟨KeepsFrom.refl _ _, EdKp.refl _ _ _, ?_⟩
      show OutIn _ _ _ _ _ (opL d a1 _) _
      rw [HSN3.out]
      exact HIN.out
  case done =>
    rintro D ys W hD hys hI hK
    clear hMd hMW c10 HI0
    obtain ⟨op, hop⟩ : ∃ op, opL d a1 (ys.map Subtype.val) = op := ⟨_, rfl⟩
    have hop2 : openL l0 d a1 = op := by rw [← hop, hys]; rfl
    have HOPL : Aside0 (op.length ≤ 100000000) := ⟨by
      have h1 := opL_length d a1 (ys.map Subtype.val)
      rw [hop, hys] at h1
      have h2 := HEL.out
      omega⟩
    rw [hop] at hI
    have hE := HE.out
    rw [hop2] at hE
    have hbW : Below w.heap.size w W := HB7.out.trans ((HBL.out.mono HB7.out.size).trans (hI.stay.mono (by have := HW.out; omega)))
    obtain ⟨v, h5, hRv⟩ := hI.box
    have hM1 : MB W W5.heap.size [a1].length (fun x => [a1].contains x) := (KM.out.below HBL.out).same (hI.stay.block _ (by have := HW.out; omega))
    have HST : Aside0 (BdIn w wL W6.heap.size W5.heap.size D op [a1] W) := ⟨⟨v, h5, hRv⟩, hM1, fun k hk _ => hI.stay.block k hk, hbW, hK, hI.far⟩
    have HE' := Aside0.mk hE
    have hopx : ((ys.map Subtype.val).filter fun e => e.2 == a1 && backL d e.1 e.2).map (·.1) = op := hop
    clear hE HE h5 hRv hM1 hI hop2 hop HOK h hbW hK
    refine wpIn_onlyRet (wpIn_wide.2 ?_)
    obtain ⟨v, h5, hRv⟩ := HST.out.box
    obtain ⟨hc5, hf5⟩ := cell_of_box' h5
    obtain ⟨Av, cv, rfl⟩ := Kd.R_slice hRv
    have H5 := Aside0.mk h5
    have HRv := Aside0.mk hRv
    clear h5 hRv
    by_cases hz : op = []
    · subst hz
      have hr : r = [] := by have := HE'.out; simpa using this.symm
      subst hr
      go_wp2
      refine ⟨by simp, .inl ⟨_, _, rfl, run_takeDeferred HST.out.defer, ?_⟩⟩
      refine ⟨_, results_tmp rfl _ _ _, _, rfl, ?_, ?_⟩
      · exact Kd.R_nil _ _ _ _ _
      · exact HST.out.below.grown (grownBy_putObj' _ D _) HST.out.below.size (fun k e => by cases e; have := HW.out; have := HSL.out; omega)
    · have hpos : 0 < op.length := List.length_pos_iff.2 hz
      have hz2 : ((op.length : Int) == 0) = false := by simp; omega
      have hE := HE'.out
      rw [if_neg hz] at hE
      obtain ⟨sf, hsf, hr⟩ := Option.map_eq_some_iff.1 hE
      have HRF := Aside0.mk hr
      have HSF := Aside0.mk hsf
      have HRG : Aside0 (∀ x ∈ op, 0 ≤ x ∧ x < l0.length) := ⟨by
        rw [← hopx]
        intro x hx
        obtain ⟨e, he, rfl⟩ := List.mem_map.1 hx
        have := (List.mem_filter.1 he).1
        rw [hys] at this
        exact (edgesL_in l0 e this).1⟩
      clear hE hr hsf HE' hopx hys
      go_wp2
      clear hc5 hf5 hz2 hpos hz
      go_loopg [12] k (fun kq v12 W' => ∃ (ol s : List Int), Aside0 (bodyLoop (predsL l0) kq ol s = some sf) ∧ Aside0 (BdIn w wL W6.heap.size W5.heap.size D ol s W') ∧ Aside0 (ol.length ≤ 1000000000) ∧ Aside0 (∀ x ∈ ol, 0 ≤ x ∧ x < l0.length))
      case atStart => exact ⟨op, [a1], HSF, HST, ⟨by have := HOPL.out; omega⟩, HRG⟩
      case round =>
        obtain ⟨ol, s, HA, HI, HL, HG⟩ := hrel
        clear HRG HOPL HST HRv H5 HSF
        cases gk with
        | zero => exact absurd HA.out (by simp [bodyLoop])
        | succ k1 =>
          have hX5 : ∀ k, k < W5.heap.size → wr.heap[k]? = W5.heap[k]? := fun k hk => (HI.out.stay k (by have := HW.out; omega) (by omega)).trans ((HBL.out.block k (by have := HW.out; omega)).trans (HB57.out.block k hk))
          rcases List.eq_nil_or_concat ol with rfl | ⟨ol', a, hcc⟩
          · have hs : s = sf := by have := HA.out; simpa [bodyLoop] using this
            subst hs
            obtain ⟨v, h5, hRv⟩ := HI.out.box
            obtain ⟨hc5, hf5⟩ := cell_of_box' h5
            obtain ⟨Av, cv, rfl⟩ := Kd.R_slice hRv
            obtain ⟨wq, ewq⟩ : ∃ wq, wq = wr := ⟨_, rfl⟩
            subst ewq
            have hFar := HI.out.far
            have hMs := Aside0.mk HI.out.map
            clear h5 hRv
            go_wp2
            clear hc5 hf5
            go_loopg [13, 73] o.length (fun kq v13 v73 W' => ∃ i : Nat, v73 = .int .i64 i ∧ Aside0 (kq + i = o.length) ∧ Aside0 (Kd.R (Kd.int .i64) 3 W' wq.heap.size (fun _ => True) v13 ((o.take i).filter (fun b => s.contains b))) ∧ Aside0 (Below wq.heap.size wq W'))
            case atStart => exact ⟨0, rfl, ⟨rfl⟩, ⟨by simpa using Kd.R_nil _ _ _ _ _⟩, ⟨Below.refl _ _⟩⟩
            case round =>
              obtain ⟨i, rfl, HJ, HO, HB⟩ := hrel
              cases gk with
              | zero =>
                have hi : i = o.length := by have := HJ.out; omega
                subst hi
                rw [List.take_length] at HO
                have hl2 : (o.filter (fun b => s.contains b)).length ≤ 100000000 := Nat.le_trans (List.length_filter_le _ _) (by have := HOL.out; omega)
                go_wp2_with fail
                refine (sort_R HO.out hl2).mono ?_
                rintro e W9 ⟨rfl, hs, hg⟩
                have HB9 := Aside0.mk (HB.out.grown hg (HB.out.size) (fun k hk => Kd.R_base HO.out k hk))
                have HS9 := Aside0.mk hs
                clear hs hg
                go_wp2
                have hD9 := (HB9.out.block D (Array.getElem?_eq_some_iff.1 HI.out.defer).1).trans HI.out.defer
                have hbw := HI.out.below
                refine ⟨by simp, .inl ⟨_, _, rfl, run_takeDeferred hD9, ?_⟩⟩
                refine ⟨_, results_tmp rfl _ _ _, _, rfl, ?_, ?_⟩
                · have h2 := HS9.out
                  rw [HRF.out] at h2
                  exact Kd.R_mono (Kd.R_lower (R_nocells h2 (grownBy_putObj' _ D _) (fun r e => by cases e; exact ⟨_, hD9, rfl⟩)) hbw.size) (fun _ _ => trivial)
                · exact (hbw.trans (HB9.out.mono hbw.size)).grown (grownBy_putObj' _ D _) (by have := hbw.size; have := HB9.out.size; omega) (fun k e => by cases e; have := HW.out; have := HSL.out; omega)
              | succ k2 =>
                have hi : i < o.length := by have := HJ.out; omega
                obtain ⟨ad, eao, hc⟩ := Kd.at_int KO.out (i : Int) (by omega) (by omega)
                subst eao
                simp only [Int.toNat_natCast] at hc
                have hbl := World.block_lt_of_cell? _ _ hc
                replace hc := (World.cell?_of_block (hX5 _ hbl)).trans hc
                replace hc := (HB.out.cell (World.block_lt_of_cell? _ _ hc)).trans hc
                have hmem : rd o i ∈ o := by
                  have e : rd o i = o[i] := by simp [rd, hi]
                  rw [e]; exact List.getElem_mem _
                have hbo := HOB.out _ hmem
                have hol := HOL.out
                have hlook := (hMs.out.below HB.out).look (x := rd o i) (wf64_of (by omega) (by omega))
                have HLE := Aside0.mk (take_filter_le o (fun b => s.contains b) i)
                cases hct : s.contains (rd o i) with
                | true =>
                  rw [hct] at hlook
                  have HF := Aside0.mk (take_filter_yes o (fun b => s.contains b) i hi hct)
                  go_wp2_with (first | ((with_reducible refine gate_builtin (b := .append) (xs := #[.tmp 80, .tmp 82]) rfl ?_); at_builtin; refine Kd.R_append (Kd.int .i64) (w0 := wq) (W := wr) wq.heap.size rfl (.tmp 80) (.tmp 82) 23 3 (.int .i64 0) 8 rfl Try.underlying23 info3 rfl (by decide) (by omega) u13 ((o.take i).filter (fun b => s.contains b)) (rd o i) [.int .i64 (rd o i)] (fun _ => True) (fun _ => False) rfl rfl ?aP (fun _ hk => hk.elim) ?aF ?aO ?aB ?aS ?aL ?_; (case aP => rfl); (case aF => exact fun _ _ => trivial); (case aO => exact HO.out); (case aB => exact HB.out); (case aS => exact HB.out.size); (case aL => have := HLE.out; have := HOL.out; omega); intro v83 W8 ho hb hg hat; rw [← HF.out] at ho; have HO8 := Aside0.mk ho; have HB8 := Aside0.mk hb; clear ho hb hg hat HO HB) | fail)
                  go_roundg k2
                  case measure => omega
                  case rel => exact ⟨i + 1, by go_num, ⟨by have := HJ.out; omega⟩, HO8, HB8⟩
                | false =>
                  rw [hct] at hlook
                  have HF := Aside0.mk (take_filter_no o (fun b => s.contains b) i hi hct)
                  go_wp2
                  go_roundg k2
                  case measure => omega
                  case rel => exact ⟨i + 1, by go_num, ⟨by have := HJ.out; omega⟩, ⟨by rw [HF.out]; exact HO.out⟩, HB⟩
          · rw [List.concat_eq_append] at hcc
            subst hcc
            have H := HA.out
            simp only [bodyLoop, List.getLast?_concat, List.dropLast_concat] at H
            have hG := HG.out
            have haR := hG a (by simp)
            obtain ⟨v, h5, hRv⟩ := HI.out.box
            obtain ⟨hc5, hf5⟩ := cell_of_box' h5
            obtain ⟨Av, n, cv, rfl⟩ : ∃ A n c, v = .slice A n c := ⟨_, _, _, (Kd.R_slice hRv).choose_spec.choose_spec⟩
            have hn : n = ol'.length + 1 := by have := (Kd.R_reads' hRv).1; simpa using this
            have hl : n ≤ 1000000000 := by have := HL.out; simp at this; omega
            have hsub : wrap64 ((n : Int) - 1) = (ol'.length : Int) := by unfold wrap64; omega
            obtain ⟨ad, eav, hca⟩ := Kd.at_int (Kd.R_reads' hRv).2.2 (ol'.length : Int) (by omega) (by simp only [List.length_append, List.length_cons, List.length_nil]; omega)
            subst eav
            have hrd : rd (ol' ++ [a]) (ol'.length : Int) = a := by simp [rd]
            rw [hrd, Int.toNat_natCast] at hca
            obtain ⟨i3, hi3, _, _, _⟩ := info_parts info3
            have hcut := cut_to (P := Try.prog) 23 3 .i64 Try.underlying23 hi3 (some ad) n cv (ol'.length : Int) (by omega) (by omega) (Kd.R_reads' hRv).2.1
            simp only [Int.toNat_natCast] at hcut
            have hcv0 : ol'.length ≤ cv := by have := (Kd.R_reads' hRv).2.1; omega
            have hRp := Kd.R_take (m := ol'.length) hRv (by simp)
            rw [List.take_left' rfl] at hRp
            have HI1 := Aside0.mk (HI.out.pop (by have := HW.out; omega) (by have := HW.out; omega) hbL hD hRp)
            have hlook := HI1.out.map.look (x := a) (wf64_of (by omega) (by omega))
            clear h5 hRv hRp hG HA
            have HH := Aside0.mk H
            clear H
            cases hct : s.contains a with
            | true =>
              rw [hct] at hlook
              have HN : Aside0 (bodyLoop (predsL l0) k1 ol' s = some sf) := ⟨by have := HH.out; rwa [if_pos hct] at this⟩
              have HL' : Aside0 (ol'.length ≤ 1000000000) := ⟨by omega⟩
              have HG' : Aside0 (∀ x ∈ ol', 0 ≤ x ∧ x < l0.length) := ⟨fun x hx => HG.out x (by simp [hx])⟩
              go_wp2
              go_roundg k1
              case measure => omega
              case rel => exact ⟨ol', s, HN, HI1, HL', HG'⟩
            | false =>
              rw [hct] at hlook
              have H := HH.out
              rw [if_neg (by rw [hct]; simp)] at H
              split at H
              case isFalse => cases H
              rename_i hcond
              obtain ⟨hq0, hq1, hq2, hq3⟩ := hcond
              have HN : Aside0 (bodyLoop (predsL l0) k1 (ol' ++ (predsL l0).getD a.toNat []) (a :: s) = some sf) := ⟨H⟩
              clear H HH
              obtain ⟨W2', hrun, hM', hg'⟩ := HI1.out.map.put (x := a) true (wf64_of (by omega) (by omega)) (by unfold maxLen; omega)
              have hfn : (fun y => if y = a then true else s.contains y) = fun y => (a :: s).contains y := by
                funext y
                by_cases hy : y = a <;> simp [hy]
              rw [hfn] at hM'
              have HI2 := Aside0.mk (HI1.out.put (s' := a :: s) (by have := HW.out; omega) (by have := HW.out; omega) hbL hD hg' hM')
              clear hM' hg' hfn
              go_wp2
              clear hrun hlook hcut hcv0 hca hc5 hf5 hX5 hsub
              have hX5 : ∀ k, k < W5.heap.size → W2'.heap[k]? = W5.heap[k]? := fun k hk => (HI2.out.stay k (by have := HW.out; omega) (by omega)).trans ((HBL.out.block k (by have := HW.out; omega)).trans (HB57.out.block k hk))
              obtain ⟨v, h5, hRv⟩ := HI2.out.box
              obtain ⟨v, h5, hRv, hvv⟩ : ∃ v, W2'.heap[W6.heap.size]? = some (.cells #[v] 23 (0, 0)) ∧ (Kd.int .i64).R 3 W2' wL.heap.size (fun _ => True) v ol' ∧ True := ⟨v, h5, hRv, trivial⟩
              obtain ⟨hc5, hf5⟩ := cell_of_box' h5
              obtain ⟨Av, n', cv', rfl⟩ : ∃ A n c, v = .slice A n c := ⟨_, _, _, (Kd.R_slice hRv).choose_spec.choose_spec⟩
              obtain ⟨i, rfl⟩ := Int.eq_ofNat_of_zero_le hq0
              have hpl := predsL_length l0
              obtain ⟨adp, _, _, eap, _⟩ := at_L1 (Kd.S_reads' KP.out).2.2 (i : Int) (by omega) (by omega)
              subst eap
              obtain ⟨Ar, cr, hxr, hRow⟩ := row_own (Kd.S_mono (ok' := fun _ => True) KP.out (fun _ _ => trivial)) i (by omega)
              obtain ⟨row, hrow⟩ : ∃ row, rd_L1 (predsL l0) i = row := ⟨_, rfl⟩
              have hrow2 : (predsL l0).getD (i : Int).toNat [] = row := hrow
              rw [hrow] at hxr hRow
              rw [hrow2] at HN hq2
              have hxr2 : W2'.cell? (adp.add i) = some (.slice Ar row.length cr) := (World.cell?_of_block (hX5 _ (World.block_lt_of_cell? _ _ hxr))).trans hxr
              have hRow2 := (Kd.R_reads' (Kd.R_step (Kd.R_bound hRow) (fun k hk hlt => hX5 k hlt))).2.2
              have hRow3 := Kd.C_drew hRow2
              have HRowIn : Aside0 (∀ x ∈ row, 0 ≤ x ∧ x < l0.length) := ⟨by
                rw [← hrow2]
                intro x hx
                exact predsL_in l0 _ (getD_mem' _ _ x hx) x hx⟩
              have HRW := Aside0.mk hRow3
              have H5 := Aside0.mk h5
              have HRv := Aside0.mk hRv
              have HQ2 := Aside0.mk hq2
              clear hRow hRow2 hRow3 h5 hRv hX5 hrow hrow2 hq2 hpl
              refine start_ (n := 7) (S := fun w' => w'.cell? ⟨W6.heap.size, 0, none⟩ = some (.slice Av n' cv') ∧ w'.cell? (adp.add i) = some (.slice Ar row.length cr)) (ds := [5, 6]) #[false, false, false, false, false, false, false] (by kernel_rfl) rfl rfl ⟨hc5, hxr2⟩ (fun hHeld => ?_)
              have R1 := Aside0.mk (Kd.R_drew HRv.out)
              have D1 : Aside0 (∀ W', W2'.drew.grownBy W' (Value.slice Av n' cv').ownBlock → W2'.grownBy W' (Value.slice Av n' cv').ownBlock) := ⟨fun W7 h => ⟨h.os, h.tape, h.output, h.size, h.block⟩⟩
              have F1 : Aside0 (wL.heap.size ≤ W2'.drew.heap.size) := ⟨HI2.out.far⟩
              obtain ⟨Wd, hWd⟩ : ∃ Wd, W2'.drew = Wd := ⟨_, rfl⟩
              rw [hWd] at hHeld HRW R1 D1 F1 ⊢
              clear hWd hc5 hf5 hxr2
              refine pure_ (i := 1) (N := some 66) (v := ?_) (a' := ?_) #[false, true, false, false, false, false, false] rfl rfl (by kernel_rfl) (fun _ _ _ h => h) (Or.inl ⟨by rfl, ?_⟩) ?_ ?_
              rotate_left
              · intro w'
                go_simp
                with_reducible rfl
              rotate_left
              · simp only [Act.put, List.setIfInBounds_toArray, List.set_cons_zero, List.set_cons_succ]
                rfl
              refine pure_ (i := 2) (N := some 67) (v := ?_) (a' := ?_) #[false, true, true, false, false, false, false] rfl rfl (by kernel_rfl) (fun _ _ _ h => h) (Or.inl ⟨by rfl, ?_⟩) ?_ ?_
              rotate_left
              · intro w'
                go_simp
                with_reducible rfl
              rotate_left
              · simp only [Act.put, List.setIfInBounds_toArray, List.set_cons_zero, List.set_cons_succ]
                rfl
              refine pure_ (i := 3) (N := some 68) (v := ?_) (a' := ?_) #[false, true, true, true, false, false, false] rfl rfl (by kernel_rfl) (fun _ _ _ h => h) (Or.inl ⟨by rfl, ?_⟩) ?_ ?_
              rotate_left
              · intro w'
                go_simp
                with_reducible rfl
              rotate_left
              · simp only [Act.put, List.setIfInBounds_toArray, List.set_cons_zero, List.set_cons_succ]
                rfl
              refine take_ (i := 0) (N := some 65) (v := ?_) (a' := ?_) #[true, true, true, true, false, false, false] rfl rfl (by kernel_rfl) (fun _ _ _ h => h) (Or.inl ⟨by rfl, ?_⟩) (by assumption) ?_ ?_
              rotate_left
              · rintro w' ⟨s0, s1⟩
                go_simp
                with_reducible rfl
              rotate_left
              · simp only [Act.put, List.setIfInBounds_toArray, List.set_cons_zero, List.set_cons_succ]
                rfl
              refine take_ (i := 4) (N := some 69) (v := ?_) (a' := ?_) #[true, true, true, true, true, false, false] rfl rfl (by kernel_rfl) (fun _ _ _ h => h) (Or.inl ⟨by rfl, ?_⟩) (by assumption) ?_ ?_
              rotate_left
              · rintro w' ⟨s0, s1⟩
                go_simp
                with_reducible rfl
              rotate_left
              · simp only [Act.put, List.setIfInBounds_toArray, List.set_cons_zero, List.set_cons_succ]
                rfl
              refine last_ (i := 5) (N := some 70) #[true, true, true, true, true, true, false] rfl rfl (by kernel_rfl) (by decide) (fun K hK => ?_)
              refine Kd.R_append_rows_step (Kd.int .i64) (Rr := (Kd.int .i64).K Wd) (w0 := Wd) (W := Wd) wL.heap.size (by rfl) (.tmp 65) (.tmp 69) 23 3 (.int .i64 0) 8 rfl Try.underlying23 info3 rfl (by decide) (by omega) (.slice Av n' cv') ol' row Ar row.length cr (fun _ => True) (fun _ => False) rfl rfl ?aO ?aR ?aK (fun _ hk => hk.elim) (fun _ _ => trivial) (Below.refl _ _) F1.out ?aL ?_
              case aO => exact R1.out
              case aR => exact HRW.out
              case aK => exact fun _ _ h => h
              case aL => have := HQ2.out; simp only [List.length_append] at this; omega
              intro v70 W8 hR8 hb8 hg8 hat8
              obtain ⟨A70, n70, c70, rfl⟩ : ∃ A n c, v70 = .slice A n c := ⟨_, _, _, (Kd.R_slice hR8).choose_spec.choose_spec⟩
              have hgr := HI2.out.grow (by have := HW.out; omega) hbL (by have := HW.out; omega) H5.out HRv.out (D1.out _ hg8)
              obtain ⟨hc58, hf58⟩ := cell_of_box' hgr.1
              have HI3 := Aside0.mk (HI2.out.app (by have := HW.out; omega) (by have := HW.out; omega) hbL hD H5.out HRv.out (D1.out _ hg8) hR8)
              clear hR8 hb8 hg8 hat8 hgr
              refine hK.out _ _ ?_
              clear hK K
              refine norm_ (a' := ?_) ?_ ?_
              rotate_left
              · show Act.put _ (some 70) _ = _
                simp only [Act.put, List.setIfInBounds_toArray, List.set_cons_zero, List.set_cons_succ]
                rfl
              refine last_ (i := 6) (N := none) #[true, true, true, true, true, true, true] rfl rfl (by kernel_rfl) (by decide) (fun K hK => ?_)
              refine skip_ (w1 := W8.setCell ⟨W6.heap.size, 0, none⟩ (.slice A70 n70 c70)) (by rfl) rfl ?_ ?_
              · go_simp
              · refine hK.out _ _ ?_
                refine done_ (by kernel_rfl) ?_
                clear hK K
                go_wp2
                go_roundg k1
                case measure => omega
                case rel => exact ⟨ol' ++ row, (i : Int) :: s, HN, HI3, HQ2, ⟨fun x hx => by
                  rcases List.mem_append.1 hx with hx | hx
                  · exact HG.out x (by simp [hx])
                  · exact HRowIn.out x hx⟩⟩
  case stop =>
    rintro D c pre W _ _ h _
    exact h.elim
end Go.Proofs.Ytnmeomdjhjgnfaa.X
end
section
/-! jacquardref02.Pairs: the contract, by hand (arrays of two numbers are compared). -/
set_option linter.unusedSimpArgs false
namespace Go.Proofs.Ytnmeomdjhjgnfaa.X
open Go.RowKit Go.Proofs.YtnmeomdjhjgnfaaW.PrintWords Go.Proofs.YtnmeomdjhjgnfaaW.PrintLast Go.Proofs.YtnmeomdjhjgnfaaW.PrintMore
set_option linter.unusedVariables false

theorem eq3 (d : Nat) (w : World) (a c : Int) : (Op.equalIn (d + 1) 3 (.int .i64 a) (.int .i64 c)).run Try.prog w = .ok (a == c) w := by
  have h3 : Try.prog.underlying 3 = some (.int .i64) := by kernel_rfl
  simp [Op.equalIn, run_underlying h3]
theorem part73a (w : World) (a b : Int) : (part 3 #[.int .i64 a, .int .i64 b] 0).run Try.prog w = .ok (.int .i64 a) w := by kernel_rfl
theorem part73b (w : World) (a b : Int) : (part 3 #[.int .i64 a, .int .i64 b] 1).run Try.prog w = .ok (.int .i64 b) w := by kernel_rfl
theorem size3 (w : World) : (sizeOf 3).run Try.prog w = .ok 1 w := by kernel_rfl
theorem eq73 (d : Nat) (w : World) (a b c e : Int) : (Op.equalIn (d + 2) 73 (.agg #[.int .i64 a, .int .i64 b]) (.agg #[.int .i64 c, .int .i64 e])).run Try.prog w = .ok (a == c && b == e) w := by
  have h73 : Try.prog.underlying 73 = some (.array 2 3) := by kernel_rfl
  rw [Op.equalIn]
  simp only [Sem.run_bind, run_underlying h73, Result.andThen_ok, size3]
  simp only [Std.Legacy.Range.forIn_eq_forIn_range', Std.Legacy.Range.size]
  by_cases h1 : a = c <;> by_cases h2 : b = e <;> simp [List.range'_succ, part73a, part73b, eq3, h1, h2]
theorem neq73 (w : World) (a b c e : Int) : (binOp .neq 73 (.agg #[.int .i64 a, .int .i64 b]) (.agg #[.int .i64 c, .int .i64 e])).run Try.prog w = .ok (.bool (!(a == c && b == e))) w := by
  simp only [binOp]
  simp [Op.equal, Op.maxDepth, eq73 9998 w a b c e]

def pr (s : S73) : Int × Int := (s.f0, s.f1)
theorem pairs_at (l0 l1 : List S73) (hl : l0.length = l1.length) : (l0.map pr = l1.map pr) ↔ ∀ i : Nat, i < l0.length → (rd_T73 l0 i).f0 = (rd_T73 l1 i).f0 ∧ (rd_T73 l0 i).f1 = (rd_T73 l1 i).f1 := by
  constructor
  · intro h i hi
    have := congrArg (fun l => l[i]?) h
    have hi1 : i < l1.length := hl ▸ hi
    simp only [List.getElem?_map, List.getElem?_eq_getElem hi, List.getElem?_eq_getElem hi1, Option.map_some, pr, Option.some.injEq, Prod.mk.injEq] at this
    simpa [rd_T73, List.getD_eq_getElem?_getD, hi, hi1] using this
  · intro h
    refine List.ext_getElem (by simpa using hl) ?_
    intro i h0 h1
    simp only [List.length_map] at h0 h1
    have := h i h0
    simp [rd_T73, List.getD_eq_getElem?_getD, h0, h1] at this
    simp [pr, this.1, this.2]
set_option maxHeartbeats 4000000 in
set_option maxRecDepth 100000 in
theorem jacquardref02_Pairs.calls (A0 : Option Addr) (c0 : Nat) (l0 : List S73) (A1 : Option Addr) (c1 : Nat) (l1 : List S73) (r : Bool) (w : World) (hr0 : Kd.C k73 w A0 l0.length l0) (hc0 : l0.length ≤ c0) (hr1 : Kd.C k73 w A1 l1.length l1) (hc1 : l1.length ≤ c1) (h : jacquardref02_Pairs.f l0 l1 = some r) :
    Calls Try.prog 61 #[.slice A0 l0.length c0, .slice A1 l1.length c1] w fun e w' => e = .returned (.bool r) ∧ Drawn0 w w' := by
  have HR0 := Aside0.mk hr0
  have HR1 := Aside0.mk hr1
  have HF : Aside0 (r = decide (l0.map pr = l1.map pr)) := ⟨by unfold jacquardref02_Pairs.f at h; exact (Option.some.inj h).symm⟩
  have hm0 : l0.length ≤ 9223372036854775807 := Kd.C_max hr0
  clear hr0 hr1 h hc0 hc1
  have hu73 := Try.underlying73
  have hneq := fun w a b c e => neq73 w a b c e
  by_cases hl : l0.length = l1.length
  · have HL := Aside0.mk hl
    clear hl
    have e1 : ((l0.length : Int) == (l1.length : Int)) = true := by rw [HL.out]; simp
    have e2 : ((l0.length : Int) != (l1.length : Int)) = false := by rw [HL.out]; simp
    go_enter Try.func61, Try.ntmps61
    go_wp2
    go_loopg [5] (l0.length) (fun kq v5 w' => ∃ i : Nat, v5 = .int .i64 i ∧ Aside0 (kq + i = l0.length) ∧ Aside0 (∀ j : Nat, j < i → (rd_T73 l0 j).f0 = (rd_T73 l1 j).f0 ∧ (rd_T73 l0 j).f1 = (rd_T73 l1 j).f1) ∧ Aside0 (Drawn0 w w'))
    case atStart => exact ⟨0, rfl, ⟨rfl⟩, ⟨fun j hj => by omega⟩, ⟨Drawn0.refl w⟩⟩
    case round =>
      obtain ⟨i, rfl, HI, HA, HD⟩ := hrel
      clear e1 e2
      cases gk with
      | zero =>
        have hi : i = l0.length := by have := HI.out; omega
        subst hi
        have HR : Aside0 (r = true) := ⟨by rw [HF.out]; exact decide_eq_true ((pairs_at l0 l1 HL.out).2 HA.out)⟩
        go_wp2
        go_ret
        exact ⟨by rw [HR.out]; rfl, HD.out⟩
      | succ k1 =>
        have hi : i < l0.length := by have := HI.out; omega
        obtain ⟨ad, rfl, h00, h01⟩ := at_T73 HR0.out (i : Int) (by omega) (by omega)
        obtain ⟨ae, rfl, h10, h11⟩ := at_T73 HR1.out (i : Int) (by omega) (by have := HL.out; omega)
        replace h00 := (HD.out.below.cell (World.block_lt_of_cell? w _ h00)).trans h00
        replace h01 := (HD.out.below.cell (World.block_lt_of_cell? w _ h01)).trans h01
        replace h10 := (HD.out.below.cell (World.block_lt_of_cell? w _ h10)).trans h10
        replace h11 := (HD.out.below.cell (World.block_lt_of_cell? w _ h11)).trans h11
        have hi1 : i < l1.length := by have := HL.out; omega
        simp only [Int.toNat_natCast] at h00 h01 h10 h11
        by_cases q0 : (rd_T73 l0 i).f0 = (rd_T73 l1 i).f0
        · by_cases q1 : (rd_T73 l0 i).f1 = (rd_T73 l1 i).f1
          · have b0 : ((rd_T73 l0 i).f0 == (rd_T73 l1 i).f0) = true := by simpa using q0
            have b1 : ((rd_T73 l0 i).f1 == (rd_T73 l1 i).f1) = true := by simpa using q1
            have HA2 : Aside0 (∀ j : Nat, j < i + 1 → (rd_T73 l0 j).f0 = (rd_T73 l1 j).f0 ∧ (rd_T73 l0 j).f1 = (rd_T73 l1 j).f1) := ⟨fun j hj => by
              by_cases hji : j = i
              · rw [hji]; exact ⟨q0, q1⟩
              · exact HA.out j (by omega)⟩
            clear q0 q1 HA
            go_wp2
            go_quiet (fail)
            go_wp2
            go_roundg k1
            case measure => omega
            case rel => exact ⟨i + 1, by go_num, ⟨by have := HI.out; omega⟩, HA2, ⟨HD.out.step _⟩⟩
          · have HR : Aside0 (r = false) := ⟨by rw [HF.out]; exact decide_eq_false (fun e => q1 ((pairs_at l0 l1 HL.out).1 e i hi).2)⟩
            have b1 : ((rd_T73 l0 i).f1 == (rd_T73 l1 i).f1) = false := by simpa using q1
            have b0 : ((rd_T73 l0 i).f0 == (rd_T73 l1 i).f0) = true := by simpa using q0
            clear q0 q1
            go_wp2
            go_quiet (fail)
            go_wp2
            go_ret
            exact ⟨by rw [HR.out]; rfl, HD.out.step _⟩
        · have HR : Aside0 (r = false) := ⟨by rw [HF.out]; exact decide_eq_false (fun e => q0 ((pairs_at l0 l1 HL.out).1 e i hi).1)⟩
          have b0 : ((rd_T73 l0 i).f0 == (rd_T73 l1 i).f0) = false := by simpa using q0
          clear q0
          go_wp2
          go_quiet (fail)
          go_wp2
          go_ret
          exact ⟨by rw [HR.out]; rfl, HD.out.step _⟩
  · have HR : Aside0 (r = false) := ⟨by rw [HF.out]; exact decide_eq_false (fun e => hl (by simpa using congrArg List.length e))⟩
    have e1 : ((l0.length : Int) == (l1.length : Int)) = false := by simpa using (fun e => hl (by omega) : ¬ (l0.length : Int) = l1.length)
    have e2 : ((l0.length : Int) != (l1.length : Int)) = true := by simpa using (fun e => hl (by omega) : ¬ (l0.length : Int) = l1.length)
    go_enter Try.func61, Try.ntmps61
    go_wp2
    go_ret
    exact ⟨by rw [HR.out]; rfl, Drawn0.refl w⟩
end Go.Proofs.Ytnmeomdjhjgnfaa.X
end
section
-- written by a driver of this session (wip/xprint.py) over the kit's print, for this claim; Lean checks it
namespace Go.Proofs.Ytnmeomdjhjgnfaa.X
open Go.RowKit Go.Proofs.YtnmeomdjhjgnfaaW.PrintWords Go.Proofs.YtnmeomdjhjgnfaaW.PrintLast Go.Proofs.YtnmeomdjhjgnfaaW.PrintMore
attribute [local go_sem] max2_int min2_int max_two min_two max_three min_three max_four min_four   -- for this text's walks alone
set_option linter.unusedVariables false
set_option linter.unusedSimpArgs false

/-! ### jacquardref02_Nums: function 60 -/
def jacquardref02_Nums.l0 : Nat → List Int → List Int → Int → Option (Bool)
  | 0, _, _, _ => none
  | k + 1, x0, x1, x5 => if x5 < (x0.length : Int) then (if 0 ≤ x5 then (if x5 < (x1.length : Int) then (if (rd x0 x5) = (rd x1 x5) then (jacquardref02_Nums.l0 k x0 x1 (wrap64 (x5 + 1))) else (some false)) else (none)) else (none)) else (some true)
def jacquardref02_Nums.f (k : Nat) (l0 : List Int) (l1 : List Int) : Option (Bool) := if (l0.length : Int) = (l1.length : Int) then (jacquardref02_Nums.l0 k l0 l1 0) else (some false)
theorem jacquardref02_Nums.mono_l : ∀ k, (∀ y0 y1 y2, LeO (jacquardref02_Nums.l0 k y0 y1 y2) (jacquardref02_Nums.l0 (k + 1) y0 y1 y2))
  | 0 => fun _ _ _ r h => by simp [jacquardref02_Nums.l0] at h
  | k + 1 => by
    have ih0 := jacquardref02_Nums.mono_l k
    · intro y0 y1 y2
      unfold jacquardref02_Nums.l0
      repeat' first
      | (with_reducible exact ih0 _ _ _)
      | (with_reducible exact LeO.refl _)
      | (with_reducible exact LeO.none _)
      | (with_reducible refine LeO.ite ?_ ?_)
      | (with_reducible refine LeO.bind ?_ (fun _ => ?_))
      | exact ih0 _ _ _
      | exact LeO.none _
      | refine LeO.ite ?_ ?_
      | refine LeO.bind ?_ (fun _ => ?_)
theorem jacquardref02_Nums.mono : ∀ a0 a1 k, LeO (jacquardref02_Nums.f k a0 a1) (jacquardref02_Nums.f (k + 1) a0 a1) := by
  intro a0 a1 k
  have ih0 := jacquardref02_Nums.mono_l k
  unfold jacquardref02_Nums.f
  repeat' first
      | (with_reducible exact ih0 _ _ _)
      | (with_reducible exact LeO.refl _)
      | (with_reducible exact LeO.none _)
      | (with_reducible refine LeO.ite ?_ ?_)
      | (with_reducible refine LeO.bind ?_ (fun _ => ?_))
      | exact ih0 _ _ _
      | exact LeO.none _
      | refine LeO.ite ?_ ?_
      | refine LeO.bind ?_ (fun _ => ?_)
set_option maxHeartbeats 8000000 in
set_option maxRecDepth 100000 in
theorem jacquardref02_Nums.calls (k : Nat) (A0 : Option Addr) (c0 : Nat) (l0 : List Int) (A1 : Option Addr) (c1 : Nat) (l1 : List Int) (r : Bool) (w : World) (hr0 : Kd.C (Kd.int .i64) w A0 l0.length l0) (hc0 : l0.length ≤ c0) (hr1 : Kd.C (Kd.int .i64) w A1 l1.length l1) (hc1 : l1.length ≤ c1) (h : jacquardref02_Nums.f k l0 l1 = some r) :
    Calls Try.prog 60 #[.slice A0 l0.length c0, .slice A1 l1.length c1] w fun e w' => e = .returned (.bool r) ∧ Drawn0 w w' := by
  have HR0 := Aside0.mk hr0
  have HC0 := Aside0.mk hc0
  clear hr0 hc0
  have HR1 := Aside0.mk hr1
  have HC1 := Aside0.mk hc1
  clear hr1 hc1
  have H : (if (l0.length : Int) = (l1.length : Int) then (jacquardref02_Nums.l0 k l0 l1 0) else (some false)) = some r := h
  clear h
  by_cases c3 : (l0.length : Int) = (l1.length : Int)
  · rw [if_pos c3] at H
    have c3b0 : ((l0.length : Int) == (l1.length : Int)) = true := beq_iff_eq.mpr c3
    have c3b1 : ((l0.length : Int) != (l1.length : Int)) = false := bne_eq_false_iff_eq.mpr c3
    have c3b2 : (l0.length == l1.length) = true := by first | simpa using c3 | (simp at c3 ⊢; omega)
    clear c3
    have H' := Aside0.mk H
    clear H
    go_enter Try.func60, Try.ntmps60
    go_wp2
    repeat (go_quiet (fail); try go_wp2)
    go_loopg [5] k (fun kq v5 w' => ∃ (x5_1 : Int), v5 = .int .i64 x5_1 ∧ Aside0 (jacquardref02_Nums.l0 kq l0 l1 x5_1 = some r) ∧ Aside0 (kq ≤ k) ∧ Drawn0 w w')
    case atStart => exact ⟨(0), (by first | rfl | (simp; done) | (simp [*]; done)), H', ⟨Nat.le_refl _⟩, by repeat (first | exact Drawn0.refl _ | apply Drawn0.step)⟩
    case round =>
      clear H'; (try clear c1); (try clear p2); (try clear c3); (try clear c3b0); (try clear c3b1); (try clear c3b2)
      obtain ⟨x5_1, rfl, HA, HK1, ⟨m1, rfl⟩⟩ := hrel
      cases gk with
      | zero => exact absurd HA.out (by simp [jacquardref02_Nums.l0])
      | succ k1 =>
        have H := HA.out
        clear HA
        simp only [jacquardref02_Nums.l0] at H
        by_cases c4 : x5_1 < (l0.length : Int)
        · rw [if_pos c4] at H
          have c4b0 : decide (x5_1 < (l0.length : Int)) = true := decide_eq_true c4
          clear c4
          by_cases c5 : 0 ≤ x5_1
          · rw [if_pos c5] at H
            have c5b0 : decide (0 ≤ x5_1) = true := decide_eq_true c5
            clear c5
            by_cases c6 : x5_1 < (l1.length : Int)
            · rw [if_pos c6] at H
              have c6b0 : decide (x5_1 < (l1.length : Int)) = true := decide_eq_true c6
              clear c6
              by_cases c7 : (rd l0 x5_1) = (rd l1 x5_1)
              · rw [if_pos c7] at H
                have c7b0 : ((rd l0 x5_1) == (rd l1 x5_1)) = true := beq_iff_eq.mpr c7
                have c7b1 : ((rd l0 x5_1) != (rd l1 x5_1)) = false := bne_eq_false_iff_eq.mpr c7
                clear c7
                have H' := Aside0.mk H
                clear H
                have p137 : 0 ≤ (x5_1 : Int) := of_decide_eq_true (by first | (with_reducible assumption) | assumption)
                have q137 : x5_1 < (l0.length : Int) := of_decide_eq_true (by first | (with_reducible assumption) | assumption)
                obtain ⟨ad137, e137, hx137_0⟩ := Kd.at_int HR0.out x5_1 p137 q137
                cases e137
                replace p137 := eq_true p137
                replace q137 := eq_true q137
                have p138 : 0 ≤ (x5_1 : Int) := of_decide_eq_true (by first | (with_reducible assumption) | assumption)
                have q138 : x5_1 < (l1.length : Int) := of_decide_eq_true (by first | (with_reducible assumption) | assumption)
                obtain ⟨ad138, e138, hx138_0⟩ := Kd.at_int HR1.out x5_1 p138 q138
                cases e138
                replace p138 := eq_true p138
                replace q138 := eq_true q138
                go_wp2
                repeat (go_quiet (fail); try go_wp2)
                go_roundg k1
                case measure => have := HK1.out; omega
                case rel => exact ⟨(wrap64 (x5_1 + 1)), (by first | rfl | (simp; done) | (simp [*]; done)), H', ⟨by have := HK1.out; omega⟩, by repeat (first | exact Drawn0.refl _ | apply Drawn0.step)⟩
              · rw [if_neg c7] at H
                have c7b0 : ((rd l0 x5_1) == (rd l1 x5_1)) = false := beq_eq_false_iff_ne.mpr c7
                have c7b1 : ((rd l0 x5_1) != (rd l1 x5_1)) = true := bne_iff_ne.mpr c7
                obtain rfl := Option.some.inj H
                have p137 : 0 ≤ (x5_1 : Int) := of_decide_eq_true (by first | (with_reducible assumption) | assumption)
                have q137 : x5_1 < (l0.length : Int) := of_decide_eq_true (by first | (with_reducible assumption) | assumption)
                obtain ⟨ad137, e137, hx137_0⟩ := Kd.at_int HR0.out x5_1 p137 q137
                cases e137
                replace p137 := eq_true p137
                replace q137 := eq_true q137
                have p138 : 0 ≤ (x5_1 : Int) := of_decide_eq_true (by first | (with_reducible assumption) | assumption)
                have q138 : x5_1 < (l1.length : Int) := of_decide_eq_true (by first | (with_reducible assumption) | assumption)
                obtain ⟨ad138, e138, hx138_0⟩ := Kd.at_int HR1.out x5_1 p138 q138
                cases e138
                replace p138 := eq_true p138
                replace q138 := eq_true q138
                go_wp2
                repeat (go_quiet (fail); try go_wp2)
                go_ret
                exact ⟨by first | rfl | (simp; done) | (simp [*]; done), by repeat (first | exact Drawn0.refl _ | apply Drawn0.step)⟩
            · rw [if_neg c6] at H
              exact absurd H (by simp)
          · rw [if_neg c5] at H
            exact absurd H (by simp)
        · rw [if_neg c4] at H
          have c4b0 : decide (x5_1 < (l0.length : Int)) = false := decide_eq_false c4
          clear c4
          obtain rfl := Option.some.inj H
          go_wp2
          repeat (go_quiet (fail); try go_wp2)
          go_ret
          exact ⟨by first | rfl | (simp; done) | (simp [*]; done), by repeat (first | exact Drawn0.refl _ | apply Drawn0.step)⟩
  · rw [if_neg c3] at H
    have c3b0 : ((l0.length : Int) == (l1.length : Int)) = false := beq_eq_false_iff_ne.mpr c3
    have c3b1 : ((l0.length : Int) != (l1.length : Int)) = true := bne_iff_ne.mpr c3
    have c3b2 : (l0.length == l1.length) = false := by first | simpa using c3 | (simp at c3 ⊢; omega)
    obtain rfl := Option.some.inj H
    go_enter Try.func60, Try.ntmps60
    go_wp2
    repeat (go_quiet (fail); try go_wp2)
    go_ret
    exact ⟨by first | rfl | (simp; done) | (simp [*]; done), by repeat (first | exact Drawn0.refl _ | apply Drawn0.step)⟩

end Go.Proofs.Ytnmeomdjhjgnfaa.X
end
section
/-! The laws' awake, by hand: all at known graphs. -/
set_option linter.unusedSimpArgs false
namespace Go.Proofs.Ytnmeomdjhjgnfaa.X
open Go.RowKit Go.Shelf Go.Proofs.YtnmeomdjhjgnfaaW.PrintWords Go.Proofs.YtnmeomdjhjgnfaaW.PrintLast Go.Proofs.YtnmeomdjhjgnfaaW.PrintMore
set_option linter.unusedVariables false
set_option maxRecDepth 100000

def gA : List (List Int) := [[1,2],[3],[3],[1]]
def gB : List (List Int) := [[1],[2,3],[1],[]]
def gC : List (List Int) := [[1,2],[2],[]]
theorem aw1 : graph_Order.f 100 gA = some [0,2,1,3] := by kernel_rfl
theorem aw2 : graph_Idom.f 100 gA = some [-1,0,0,0] := by kernel_rfl
theorem aw3 : graph_Body.f 100 gB 1 = some [1,2] := by kernel_rfl
theorem aw4 : graph_Critical.f gC = some [⟨0,2⟩] := by kernel_rfl
theorem aw5 : graph_Reducible.f 100 gA = some false := by kernel_rfl
theorem aw6 : graph_Reducible.f 100 gB = some true := by kernel_rfl
theorem aw7 : graph_Headers.f 100 gA = some [] := by kernel_rfl
theorem aw8 : jacquardref02_Nums.f 100 [0,2,1,3] [0,2,1,3] = some true := by kernel_rfl
theorem aw9 : jacquardref02_Nums.f 100 [-1,0,0,0] [-1,0,0,0] = some true := by kernel_rfl
theorem aw10 : jacquardref02_Nums.f 100 [1,2] [1,2] = some true := by kernel_rfl
theorem aw11 : jacquardref02_Pairs.f [⟨0,2⟩] [⟨0,2⟩] = some true := by kernel_rfl

theorem C_ints {W : World} {b : Nat} {zs : List Int} (h : W.heap[b]? = some (.cells (zs.map (Value.int .i64)).toArray 3 (0, 0))) (hl : zs.length ≤ 9223372036854775807) : Kd.C (Kd.int .i64) W (some ⟨b, 0, none⟩) zs.length zs := by
  refine ⟨rfl, hl, fun _ => ⟨_, rfl, fun j p hp => ⟨[.int .i64 p], rfl, rfl, fun i u hu => ?_⟩⟩⟩
  have hi : i = 0 := by
    rcases Nat.eq_zero_or_pos i with h | h
    · exact h
    · rw [List.getElem?_eq_none (by simp; omega)] at hu; cases hu
  subst hi
  simp at hu
  subst hu
  rw [add_at]
  simp [World.cell?, h]
  rw [show j * (Kd.int .i64).sz = j from Nat.mul_one j]
  exact hp
theorem C_rows {W : World} {b : Nat} {rows : List (List Int)} {vs : List Value} (h : W.heap[b]? = some (.cells vs.toArray 23 (0, 0))) (hl : rows.length ≤ 9223372036854775807)
    (hv : ∀ (i : Nat) (row : List Int), rows[i]? = some row → ∃ A c, vs[i]? = some (Value.slice A row.length c) ∧ row.length ≤ c ∧ Kd.C (Kd.int .i64) W A row.length row) : Kd.C (Kd.slice 3 (Kd.int .i64)) W (some ⟨b, 0, none⟩) rows.length rows := by
  refine ⟨rfl, hl, fun _ => ⟨_, rfl, fun j p hp => ?_⟩⟩
  obtain ⟨A, c, hv, hc, hC⟩ := hv j p hp
  refine ⟨[.slice A p.length c], rfl, ⟨A, c, rfl, hc, hC⟩, fun i u hu => ?_⟩
  have hi : i = 0 := by
    rcases Nat.eq_zero_or_pos i with h | h
    · exact h
    · rw [List.getElem?_eq_none (by simp; omega)] at hu; cases hu
  subst hi
  simp at hu
  subst hu
  rw [add_at]
  simp [World.cell?, h]
  rw [show j * (Kd.slice 3 (Kd.int .i64)).sz = j from Nat.mul_one j]
  exact hv
theorem alloc_at (os : List Obj) : ∀ (w : World) (i : Nat), i < os.length → (os.foldl World.alloc w).heap[w.heap.size + i]? = os[i]? := by
  induction os with
  | nil => intro w i h; simp at h
  | cons o os ih =>
    intro w i h
    cases i with
    | zero =>
      have : ∀ (os : List Obj) (w : World) (k : Nat), k < w.heap.size → (os.foldl World.alloc w).heap[k]? = w.heap[k]? := by
        intro os
        induction os with
        | nil => intro w k _; rfl
        | cons o os ih => intro w k hk; rw [List.foldl_cons, ih _ _ (by simp; omega)]; exact (below_alloc (Below.refl _ w) o : Below w.heap.size w _).block k hk
      rw [List.foldl_cons, Nat.add_zero, this _ _ _ (by simp)]
      exact World.alloc_heap_new w o
    | succ i =>
      have := ih (w.alloc o) i (by simpa using h)
      rw [List.foldl_cons, List.getElem?_cons_succ, ← this]
      congr 1
      simp; omega
def iv (zs : List Int) : Obj := .cells (zs.map (Value.int .i64)).toArray 3 (0, 0)
def sl (b n : Nat) : Value := .slice (some ⟨b, 0, none⟩) n n
set_option maxHeartbeats 4000000 in
theorem jacquardlaw02_awake.calls (r : Bool) (w : World) (h : jacquardlaw02_awake.f = some r) :
    Calls Try.prog 22 #[] w fun e w' => e = .returned (.bool r) ∧ Below w.heap.size w w' := by
  obtain rfl : r = true := by unfold jacquardlaw02_awake.f at h; injection h with h; exact h.symm
  clear h
  go_enter Try.func22, Try.ntmps22
  go_wp2_with fail
  obtain ⟨W1, hW1⟩ : ∃ W1, ([iv [1,2], iv [3], iv [3], iv [1], .cells #[sl w.heap.size 2, sl (w.heap.size + 1) 1, sl (w.heap.size + 2) 1, sl (w.heap.size + 3) 1] 23, iv [1], iv [2,3], iv [1], iv [], .cells #[sl (w.heap.size + 5) 1, sl (w.heap.size + 6) 2, sl (w.heap.size + 7) 1, sl (w.heap.size + 8) 0] 23] : List Obj).foldl World.alloc w = W1 := ⟨_, rfl⟩
  have hA : ∀ i o, ([iv [1,2], iv [3], iv [3], iv [1], .cells #[sl w.heap.size 2, sl (w.heap.size + 1) 1, sl (w.heap.size + 2) 1, sl (w.heap.size + 3) 1] 23, iv [1], iv [2,3], iv [1], iv [], .cells #[sl (w.heap.size + 5) 1, sl (w.heap.size + 6) 2, sl (w.heap.size + 7) 1, sl (w.heap.size + 8) 0] 23] : List Obj)[i]? = some o → W1.heap[w.heap.size + i]? = some o := by
    intro i o h
    rw [← hW1, alloc_at _ _ _ (List.getElem?_eq_some_iff.1 h).1]
    exact h
  have hBW : Below w.heap.size w W1 := by
    rw [← hW1]
    exact below_alloc (below_alloc (below_alloc (below_alloc (below_alloc (below_alloc (below_alloc (below_alloc (below_alloc (below_alloc (Below.refl _ _) _) _) _) _) _) _) _) _) _) _
  have hCA : Kd.C (Kd.slice 3 (Kd.int .i64)) W1 (some ⟨w.heap.size + 4, 0, none⟩) gA.length gA := C_rows (hA 4 _ rfl) (by decide) (by
    intro i row hi
    match i, hi with
    | 0, hi => cases hi; exact ⟨_, _, rfl, Nat.le_refl _, C_ints (hA 0 _ rfl) (by decide)⟩
    | 1, hi => cases hi; exact ⟨_, _, rfl, Nat.le_refl _, C_ints (hA 1 _ rfl) (by decide)⟩
    | 2, hi => cases hi; exact ⟨_, _, rfl, Nat.le_refl _, C_ints (hA 2 _ rfl) (by decide)⟩
    | 3, hi => cases hi; exact ⟨_, _, rfl, Nat.le_refl _, C_ints (hA 3 _ rfl) (by decide)⟩
    | i + 4, hi => cases hi)
  have hCB : Kd.C (Kd.slice 3 (Kd.int .i64)) W1 (some ⟨w.heap.size + 9, 0, none⟩) gB.length gB := C_rows (hA 9 _ rfl) (by decide) (by
    intro i row hi
    match i, hi with
    | 0, hi => cases hi; exact ⟨_, _, rfl, Nat.le_refl _, C_ints (hA 5 _ rfl) (by decide)⟩
    | 1, hi => cases hi; exact ⟨_, _, rfl, Nat.le_refl _, C_ints (hA 6 _ rfl) (by decide)⟩
    | 2, hi => cases hi; exact ⟨_, _, rfl, Nat.le_refl _, C_ints (hA 7 _ rfl) (by decide)⟩
    | 3, hi => cases hi; exact ⟨_, _, rfl, Nat.le_refl _, C_ints (hA 8 _ rfl) (by decide)⟩
    | i + 4, hi => cases hi)
  have HCA := Aside0.mk hCA
  have HCB := Aside0.mk hCB
  have HBW := Aside0.mk hBW
  refine Calls.mono (show Calls Try.prog 26 #[.slice (some ⟨w.heap.size + 4, 0, none⟩) 4 4] _ _ from by have := graph_Order.calls 100 (some ⟨w.heap.size + 4, 0, none⟩) 4 gA _ W1 HCA.out (by decide) aw1; rw [← hW1] at this; exact this) ?_
  clear hCA hCB hBW hA
  rintro e W2 ⟨v, rfl, hR, hB⟩
  rw [hW1] at hB
  clear hW1
  obtain ⟨A, c, rfl⟩ := Kd.R_slice hR
  have H2 := Aside0.mk (And.intro (Kd.R_reads' hR).2.1 (Kd.R_reads' hR).2.2)
  have HB2 := Aside0.mk hB
  clear hR hB
  go_wp2_with fail
  have hA2 : (W2.alloc (iv [0,2,1,3])).heap[W2.heap.size]? = some (iv [0,2,1,3]) := World.alloc_heap_new _ _
  refine Calls.mono (jacquardref02_Nums.calls 100 A c [0,2,1,3] (some ⟨W2.heap.size, 0, none⟩) 4 [0,2,1,3] true (W2.alloc (iv [0,2,1,3])) (Kd.C_alloc H2.out.2 _) H2.out.1 (C_ints hA2 (by decide)) (by decide) aw8) ?_
  rintro e W3 ⟨rfl, hD⟩
  have HB3 := Aside0.mk ((below_alloc HB2.out (iv [0,2,1,3])).trans (hD.below.mono (by have := HB2.out.size; simp; omega)))
  clear hD hA2 H2 HB2
  go_wp2_with fail
  refine Calls.mono (graph_Idom.calls 100 (some ⟨w.heap.size + 4, 0, none⟩) 4 gA _ W3 (Kd.C_below HCA.out HB3.out) (by decide) aw2) ?_
  rintro e W4 ⟨v, rfl, hR, hB⟩
  obtain ⟨A, c, rfl⟩ := Kd.R_slice hR
  have H4 := Aside0.mk (And.intro (Kd.R_reads' hR).2.1 (Kd.R_reads' hR).2.2)
  have HB4 := Aside0.mk (HB3.out.trans (hB.mono HB3.out.size))
  clear hR hB
  go_wp2_with fail
  have hA4 : (W4.alloc (iv [-1,0,0,0])).heap[W4.heap.size]? = some (iv [-1,0,0,0]) := World.alloc_heap_new _ _
  refine Calls.mono (jacquardref02_Nums.calls 100 A c [-1,0,0,0] (some ⟨W4.heap.size, 0, none⟩) _ [-1,0,0,0] true (W4.alloc (iv [-1,0,0,0])) (Kd.C_alloc H4.out.2 _) H4.out.1 (C_ints hA4 (by decide)) (by decide) aw9) ?_
  rintro e W5 ⟨rfl, hD⟩
  have HB5 := Aside0.mk ((below_alloc HB4.out (iv [-1,0,0,0])).trans (hD.below.mono (by have := HB4.out.size; simp; omega)))
  clear hD hA4 H4 HB4 HB3
  go_wp2_with fail
  refine Calls.mono (graph_Body.calls 100 (some ⟨w.heap.size + 9, 0, none⟩) 4 gB 1 _ W5 (Kd.C_below HCB.out HB5.out) (by decide) aw3) ?_
  rintro e W6 ⟨v, rfl, hR, hB⟩
  obtain ⟨A, c, rfl⟩ := Kd.R_slice hR
  have H6 := Aside0.mk (And.intro (Kd.R_reads' hR).2.1 (Kd.R_reads' hR).2.2)
  have HB6 := Aside0.mk (HB5.out.trans (hB.mono HB5.out.size))
  clear hR hB
  go_wp2_with fail
  have hA6 : (W6.alloc (iv [1,2])).heap[W6.heap.size]? = some (iv [1,2]) := World.alloc_heap_new _ _
  refine Calls.mono (jacquardref02_Nums.calls 100 A c [1,2] (some ⟨W6.heap.size, 0, none⟩) _ [1,2] true (W6.alloc (iv [1,2])) (Kd.C_alloc H6.out.2 _) H6.out.1 (C_ints hA6 (by decide)) (by decide) aw10) ?_
  rintro e W7 ⟨rfl, hD⟩
  have HB7 := Aside0.mk ((below_alloc HB6.out (iv [1,2])).trans (hD.below.mono (by have := HB6.out.size; simp; omega)))
  clear hD hA6 H6 HB6 HB5
  go_wp2_with fail
  obtain ⟨W8, hW8⟩ : ∃ W8, ([iv [1,2], iv [2], iv [], .cells #[sl W7.heap.size 2, sl (W7.heap.size + 1) 1, sl (W7.heap.size + 2) 0] 23] : List Obj).foldl World.alloc W7 = W8 := ⟨_, rfl⟩
  have hA : ∀ i o, ([iv [1,2], iv [2], iv [], .cells #[sl W7.heap.size 2, sl (W7.heap.size + 1) 1, sl (W7.heap.size + 2) 0] 23] : List Obj)[i]? = some o → W8.heap[W7.heap.size + i]? = some o := by
    intro i o h
    rw [← hW8, alloc_at _ _ _ (List.getElem?_eq_some_iff.1 h).1]
    exact h
  have hBW : Below W7.heap.size W7 W8 := by
    rw [← hW8]
    exact below_alloc (below_alloc (below_alloc (below_alloc (Below.refl _ _) _) _) _) _
  have hCC : Kd.C (Kd.slice 3 (Kd.int .i64)) W8 (some ⟨W7.heap.size + 3, 0, none⟩) gC.length gC := C_rows (hA 3 _ rfl) (by decide) (by
    intro i row hi
    match i, hi with
    | 0, hi => cases hi; exact ⟨_, _, rfl, Nat.le_refl _, C_ints (hA 0 _ rfl) (by decide)⟩
    | 1, hi => cases hi; exact ⟨_, _, rfl, Nat.le_refl _, C_ints (hA 1 _ rfl) (by decide)⟩
    | 2, hi => cases hi; exact ⟨_, _, rfl, Nat.le_refl _, C_ints (hA 2 _ rfl) (by decide)⟩
    | i + 3, hi => cases hi)
  have HCC := Aside0.mk hCC
  have HB8 := Aside0.mk (HB7.out.trans (hBW.mono HB7.out.size))
  refine Calls.mono (show Calls Try.prog 48 #[.slice (some ⟨W7.heap.size + 3, 0, none⟩) 3 3] _ _ from by have := graph_Critical.calls (some ⟨W7.heap.size + 3, 0, none⟩) 3 gC _ W8 HCC.out (by decide) aw4; rw [← hW8] at this; exact this) ?_
  rintro e W9 ⟨v, rfl, hR, hB⟩
  rw [hW8] at hB
  clear hCC hA hBW hW8 HCC HB7
  obtain ⟨A, c, rfl⟩ := Kd.R_slice hR
  have H9 := Aside0.mk (And.intro (Kd.R_reads' hR).2.1 (Kd.R_reads' hR).2.2)
  have HB9 := Aside0.mk (HB8.out.trans (hB.mono HB8.out.size))
  clear hR hB HB8
  go_wp2_with fail
  have hA9 : (W9.alloc (.cells #[.int .i64 0, .int .i64 2] 73)).heap[W9.heap.size]? = some (.cells #[.int .i64 0, .int .i64 2] 73 (0, 0)) := World.alloc_heap_new _ _
  have hP : Kd.C k73 (W9.alloc (.cells #[.int .i64 0, .int .i64 2] 73)) (some ⟨W9.heap.size, 0, none⟩) ([⟨0, 2⟩] : List S73).length [⟨0, 2⟩] := by
    refine ⟨rfl, by decide, fun _ => ⟨_, rfl, fun j p hp => ?_⟩⟩
    match j, hp with
    | 0, hp =>
      cases hp
      refine ⟨[.int .i64 0, .int .i64 2], rfl, k73_mk _ ⟨0, 2⟩, fun i u hu => ?_⟩
      rw [add_at]
      match i, hu with
      | 0, hu => cases hu; exact blk_cell hA9 0
      | 1, hu => cases hu; exact blk_cell hA9 1
      | i + 2, hu => cases hu
    | j + 1, hp => cases hp
  refine Calls.mono (jacquardref02_Pairs.calls A c [⟨0, 2⟩] (some ⟨W9.heap.size, 0, none⟩) 1 [⟨0, 2⟩] true (W9.alloc (.cells #[.int .i64 0, .int .i64 2] 73)) (Kd.C_alloc H9.out.2 _) H9.out.1 hP (by decide) aw11) ?_
  rintro e W10 ⟨rfl, hD⟩
  have HB10 := Aside0.mk ((below_alloc HB9.out (.cells #[.int .i64 0, .int .i64 2] 73)).trans (hD.below.mono (by have := HB9.out.size; simp; omega)))
  clear hD hA9 hP H9 HB9
  go_wp2_with fail
  refine Calls.mono (graph_Reducible.calls 100 (some ⟨w.heap.size + 4, 0, none⟩) 4 gA false W10 (Kd.C_below HCA.out HB10.out) (by decide) aw5) ?_
  rintro e W11 ⟨rfl, hB⟩
  have HB11 := Aside0.mk (HB10.out.trans (hB.mono HB10.out.size))
  clear hB HB10
  go_wp2_with fail
  refine Calls.mono (graph_Reducible.calls 100 (some ⟨w.heap.size + 9, 0, none⟩) 4 gB true W11 (Kd.C_below HCB.out HB11.out) (by decide) aw6) ?_
  rintro e W12 ⟨rfl, hB⟩
  have HB12 := Aside0.mk (HB11.out.trans (hB.mono HB11.out.size))
  clear hB HB11
  go_wp2_with fail
  refine Calls.mono (graph_Headers.calls 100 (some ⟨w.heap.size + 4, 0, none⟩) 4 gA [] W12 (Kd.C_below HCA.out HB12.out) (by decide) aw7) ?_
  rintro e W13 ⟨v, rfl, hR, hB⟩
  have HB13 := Aside0.mk (HB12.out.trans (hB.mono HB12.out.size))
  obtain ⟨A, c, rfl⟩ := Kd.R_slice hR
  clear hR hB HB12
  go_wp2
  go_ret
  exact ⟨rfl, HBW.out.trans (HB13.out.mono HBW.out.size)⟩
end Go.Proofs.Ytnmeomdjhjgnfaa.X
end
section
-- written by a driver of this session (wip/xprint.py) over the kit's print, for this claim; Lean checks it
namespace Go.Proofs.Ytnmeomdjhjgnfaa.X
open Go.RowKit Go.Proofs.YtnmeomdjhjgnfaaW.PrintWords Go.Proofs.YtnmeomdjhjgnfaaW.PrintLast Go.Proofs.YtnmeomdjhjgnfaaW.PrintMore
attribute [local go_sem] max2_int min2_int max_two min_two max_three min_three max_four min_four   -- for this text's walks alone
set_option linter.unusedVariables false
set_option linter.unusedSimpArgs false

/-! ### jacquardlaw02_GraphIdom: function 5 -/
def jacquardlaw02_GraphIdom.j0 : Nat → Bool → List (List Int) → List Int → Int → Int → Bool → Option (Bool)
  | 0, _, _, _, _, _, _ => none
  | k + 1, x7, x8, x9, x10, x11, x40 => if x40 = true then (if x7 = true then (if x10 = x11 then (some true) else ((graph_Dominates.f x9 x10 x11).bind fun t387 => (some (!t387)))) else (some false)) else ((jacquardref02_Dom.f k x8 x10 x11).bind fun t388 => (if x7 = true then ((graph_Dominates.f x9 x10 x11).bind fun t389 => (some (t389 == t388))) else (some false)))
def jacquardlaw02_GraphIdom.f (k : Nat) (l0 : List Int) (a1 : Int) (a2 : Int) : Option (Bool) := (jacquardlaw02_awake.f).bind fun t373 => ((jacquardref02_Made.f k l0).bind fun t374 => ((graph_Idom.f k t374).bind fun t377 => ((jacquardlaw02_rest.f a1 (t374.length : Int)).bind fun t380 => ((jacquardlaw02_rest.f a2 (t374.length : Int)).bind fun t381 => ((jacquardref02_Without.f k t374 (-1)).bind fun t382 => (if 0 ≤ t380 then (if t380 < (t382.length : Int) then (if rdOf false t382 t380 = true then (if 0 ≤ t381 then (if t381 < (t382.length : Int) then (jacquardlaw02_GraphIdom.j0 k t373 t374 t377 t380 t381 (!(rdOf false t382 t381))) else (none)) else (none)) else (jacquardlaw02_GraphIdom.j0 k t373 t374 t377 t380 t381 true)) else (none)) else (none)))))))
theorem jacquardlaw02_GraphIdom.mono_l : ∀ k, (∀ y0 y1 y2 y3 y4 y5, LeO (jacquardlaw02_GraphIdom.j0 k y0 y1 y2 y3 y4 y5) (jacquardlaw02_GraphIdom.j0 (k + 1) y0 y1 y2 y3 y4 y5))
  | 0 => fun _ _ _ _ _ _ r h => by simp [jacquardlaw02_GraphIdom.j0] at h
  | k + 1 => by
    have ih0 := jacquardlaw02_GraphIdom.mono_l k
    · intro y0 y1 y2 y3 y4 y5
      unfold jacquardlaw02_GraphIdom.j0
      repeat' first
      | (with_reducible exact ih0 _ _ _ _ _ _)
      | (with_reducible exact graph_Idom.mono _ _)
      | (with_reducible exact jacquardref02_Dom.mono _ _ _ _)
      | (with_reducible exact jacquardref02_Made.mono _ _)
      | (with_reducible exact jacquardref02_Without.mono _ _ _)
      | (with_reducible exact LeO.refl _)
      | (with_reducible exact LeO.none _)
      | (with_reducible refine LeO.ite ?_ ?_)
      | (with_reducible refine LeO.bind ?_ (fun _ => ?_))
      | exact ih0 _ _ _ _ _ _
      | exact graph_Idom.mono _ _
      | exact jacquardref02_Dom.mono _ _ _ _
      | exact jacquardref02_Made.mono _ _
      | exact jacquardref02_Without.mono _ _ _
      | exact LeO.none _
      | refine LeO.ite ?_ ?_
      | refine LeO.bind ?_ (fun _ => ?_)
theorem jacquardlaw02_GraphIdom.mono : ∀ a0 a1 a2 k, LeO (jacquardlaw02_GraphIdom.f k a0 a1 a2) (jacquardlaw02_GraphIdom.f (k + 1) a0 a1 a2) := by
  intro a0 a1 a2 k
  have ih0 := jacquardlaw02_GraphIdom.mono_l k
  unfold jacquardlaw02_GraphIdom.f
  repeat' first
      | (with_reducible exact ih0 _ _ _ _ _ _)
      | (with_reducible exact graph_Idom.mono _ _)
      | (with_reducible exact jacquardref02_Dom.mono _ _ _ _)
      | (with_reducible exact jacquardref02_Made.mono _ _)
      | (with_reducible exact jacquardref02_Without.mono _ _ _)
      | (with_reducible exact LeO.refl _)
      | (with_reducible exact LeO.none _)
      | (with_reducible refine LeO.ite ?_ ?_)
      | (with_reducible refine LeO.bind ?_ (fun _ => ?_))
      | exact ih0 _ _ _ _ _ _
      | exact graph_Idom.mono _ _
      | exact jacquardref02_Dom.mono _ _ _ _
      | exact jacquardref02_Made.mono _ _
      | exact jacquardref02_Without.mono _ _ _
      | exact LeO.none _
      | refine LeO.ite ?_ ?_
      | refine LeO.bind ?_ (fun _ => ?_)
set_option maxHeartbeats 8000000 in
set_option maxRecDepth 100000 in
theorem jacquardlaw02_GraphIdom.calls (k : Nat) (A0 : Option Addr) (c0 : Nat) (l0 : List Int) (a1 : Int) (a2 : Int) (r : Bool) (w : World) (hr0 : Kd.C (Kd.int .i64) w A0 l0.length l0) (hc0 : l0.length ≤ c0) (h : jacquardlaw02_GraphIdom.f k l0 a1 a2 = some r) :
    Calls Try.prog 5 #[.slice A0 l0.length c0, .int .i64 a1, .int .i64 a2] w fun e w' => e = .returned (.bool r) ∧ Below w.heap.size w w' := by
  have HR0 := Aside0.mk hr0
  have HC0 := Aside0.mk hc0
  clear hr0 hc0
  have HB := Aside0.mk (Below.refl w.heap.size w)
  have H : ((jacquardlaw02_awake.f).bind fun t373 => ((jacquardref02_Made.f k l0).bind fun t374 => ((graph_Idom.f k t374).bind fun t377 => ((jacquardlaw02_rest.f a1 (t374.length : Int)).bind fun t380 => ((jacquardlaw02_rest.f a2 (t374.length : Int)).bind fun t381 => ((jacquardref02_Without.f k t374 (-1)).bind fun t382 => (if 0 ≤ t380 then (if t380 < (t382.length : Int) then (if rdOf false t382 t380 = true then (if 0 ≤ t381 then (if t381 < (t382.length : Int) then (jacquardlaw02_GraphIdom.j0 k t373 t374 t377 t380 t381 (!(rdOf false t382 t381))) else (none)) else (none)) else (jacquardlaw02_GraphIdom.j0 k t373 t374 t377 t380 t381 true)) else (none)) else (none)))))))) = some r := h
  clear h
  replace H := Option.bind_eq_some_iff.mp H
  obtain ⟨t373, A40, H⟩ := H
  replace H : ((jacquardref02_Made.f k l0).bind fun t374 => ((graph_Idom.f k t374).bind fun t377 => ((jacquardlaw02_rest.f a1 (t374.length : Int)).bind fun t380 => ((jacquardlaw02_rest.f a2 (t374.length : Int)).bind fun t381 => ((jacquardref02_Without.f k t374 (-1)).bind fun t382 => (if 0 ≤ t380 then (if t380 < (t382.length : Int) then (if rdOf false t382 t380 = true then (if 0 ≤ t381 then (if t381 < (t382.length : Int) then (jacquardlaw02_GraphIdom.j0 k t373 t374 t377 t380 t381 (!(rdOf false t382 t381))) else (none)) else (none)) else (jacquardlaw02_GraphIdom.j0 k t373 t374 t377 t380 t381 true)) else (none)) else (none))))))) = some r := H
  have A4 := Aside0.mk A40
  clear A40
  replace H := Option.bind_eq_some_iff.mp H
  obtain ⟨t374, A50, H⟩ := H
  replace H : ((graph_Idom.f k t374).bind fun t377 => ((jacquardlaw02_rest.f a1 (t374.length : Int)).bind fun t380 => ((jacquardlaw02_rest.f a2 (t374.length : Int)).bind fun t381 => ((jacquardref02_Without.f k t374 (-1)).bind fun t382 => (if 0 ≤ t380 then (if t380 < (t382.length : Int) then (if rdOf false t382 t380 = true then (if 0 ≤ t381 then (if t381 < (t382.length : Int) then (jacquardlaw02_GraphIdom.j0 k t373 t374 t377 t380 t381 (!(rdOf false t382 t381))) else (none)) else (none)) else (jacquardlaw02_GraphIdom.j0 k t373 t374 t377 t380 t381 true)) else (none)) else (none)))))) = some r := H
  have A5 := Aside0.mk A50
  clear A50
  replace H := Option.bind_eq_some_iff.mp H
  obtain ⟨t377, A60, H⟩ := H
  replace H : ((jacquardlaw02_rest.f a1 (t374.length : Int)).bind fun t380 => ((jacquardlaw02_rest.f a2 (t374.length : Int)).bind fun t381 => ((jacquardref02_Without.f k t374 (-1)).bind fun t382 => (if 0 ≤ t380 then (if t380 < (t382.length : Int) then (if rdOf false t382 t380 = true then (if 0 ≤ t381 then (if t381 < (t382.length : Int) then (jacquardlaw02_GraphIdom.j0 k t373 t374 t377 t380 t381 (!(rdOf false t382 t381))) else (none)) else (none)) else (jacquardlaw02_GraphIdom.j0 k t373 t374 t377 t380 t381 true)) else (none)) else (none))))) = some r := H
  have A6 := Aside0.mk A60
  clear A60
  replace H := Option.bind_eq_some_iff.mp H
  obtain ⟨t380, A70, H⟩ := H
  replace H : ((jacquardlaw02_rest.f a2 (t374.length : Int)).bind fun t381 => ((jacquardref02_Without.f k t374 (-1)).bind fun t382 => (if 0 ≤ t380 then (if t380 < (t382.length : Int) then (if rdOf false t382 t380 = true then (if 0 ≤ t381 then (if t381 < (t382.length : Int) then (jacquardlaw02_GraphIdom.j0 k t373 t374 t377 t380 t381 (!(rdOf false t382 t381))) else (none)) else (none)) else (jacquardlaw02_GraphIdom.j0 k t373 t374 t377 t380 t381 true)) else (none)) else (none)))) = some r := H
  have A7 := Aside0.mk A70
  clear A70
  replace H := Option.bind_eq_some_iff.mp H
  obtain ⟨t381, A80, H⟩ := H
  replace H : ((jacquardref02_Without.f k t374 (-1)).bind fun t382 => (if 0 ≤ t380 then (if t380 < (t382.length : Int) then (if rdOf false t382 t380 = true then (if 0 ≤ t381 then (if t381 < (t382.length : Int) then (jacquardlaw02_GraphIdom.j0 k t373 t374 t377 t380 t381 (!(rdOf false t382 t381))) else (none)) else (none)) else (jacquardlaw02_GraphIdom.j0 k t373 t374 t377 t380 t381 true)) else (none)) else (none))) = some r := H
  have A8 := Aside0.mk A80
  clear A80
  replace H := Option.bind_eq_some_iff.mp H
  obtain ⟨t382, A90, H⟩ := H
  replace H : (if 0 ≤ t380 then (if t380 < (t382.length : Int) then (if rdOf false t382 t380 = true then (if 0 ≤ t381 then (if t381 < (t382.length : Int) then (jacquardlaw02_GraphIdom.j0 k t373 t374 t377 t380 t381 (!(rdOf false t382 t381))) else (none)) else (none)) else (jacquardlaw02_GraphIdom.j0 k t373 t374 t377 t380 t381 true)) else (none)) else (none)) = some r := H
  have A9 := Aside0.mk A90
  clear A90
  have HC10 := Aside0.mk H
  clear H
  go_enter Try.func5, Try.ntmps5
  go_upto_region 7 with (first | ((with_reducible refine gate_callee (f := 22) rfl ?_); refine goesL_ (some 14) rfl rfl Try.func22 (by kernel_rfl) rfl #[] rfl (by (try simp only [List.map_toArray, List.map_cons, List.map_nil]); first | done | rfl | (simp only [List.length_drop, List.length_take]; rfl)) ?_; (with_reducible refine (jacquardlaw02_awake.calls  t373 _ A4.out).mono ?_); rintro e w11 ⟨rfl, hb⟩; refine ⟨_, rfl, ?_⟩; have n0_ := Aside0.mk (below_step (by repeat (first | (with_reducible first | exact HB.out | apply below_alloc | apply pw_below_drewN | apply below_drew1) | exact HB.out)) hb); clear HB; have HB := n0_; clear n0_; (try clear hb); (try clear hb2); (try clear hk); (try clear hi)) | ((with_reducible refine gate_callee (f := 25) rfl ?_); refine goesL_ (some 16) rfl rfl Try.func25 (by kernel_rfl) rfl #[.slice A0 l0.length c0] rfl (by (try simp only [List.map_toArray, List.map_cons, List.map_nil]); first | done | rfl | (simp only [List.length_drop, List.length_take]; rfl)) ?_; (with_reducible refine (jacquardref02_Made.calls k _ _ l0 t374 _ ?side1 ?side2 A5.out).mono ?_); (case side1 => repeat (first | exact (Kd.C_below HR0.out HB.out) | (with_reducible refine Kd.C_alloc ?_ _) | (with_reducible refine Kd.C_drewN ?_ _) | (with_reducible refine Kd.C_drew ?_))); (case side2 => exact HC0.out); rintro e w12 ⟨v375, rfl, ho0, hb⟩; refine ⟨_, rfl, ?_⟩; have n0_ := Aside0.mk (Kd.S_lower ho0 (below_size (by repeat (first | (with_reducible first | exact HB.out | apply below_alloc | apply pw_below_drewN | apply below_drew1) | exact HB.out)))); have n1_ := Aside0.mk (below_step (by repeat (first | (with_reducible first | exact HB.out | apply below_alloc | apply pw_below_drewN | apply below_drew1) | exact HB.out)) hb); clear HB; have HO376 := n0_; have HB := n1_; clear n0_ n1_; (try clear hb); (try clear hb2); (try clear hk); (try clear hi); (try clear ho0); obtain ⟨Ao13, co13, eo13⟩ := Kd.S_slice HO376.out; subst eo13) | ((with_reducible refine gate_callee (f := 30) rfl ?_); refine goesL_ (some 18) rfl rfl Try.func30 (by kernel_rfl) rfl #[.slice Ao13 t374.length co13] rfl (by (try simp only [List.map_toArray, List.map_cons, List.map_nil]); first | done | rfl | (simp only [List.length_drop, List.length_take]; rfl)) ?_; (with_reducible refine (graph_Idom.calls k _ _ t374 t377 _ ?side1 ?side2 A6.out).mono ?_); (case side1 => repeat (first | exact (Kd.S_reads' HO376.out).2.2 | (with_reducible refine Kd.C_alloc ?_ _) | (with_reducible refine Kd.C_drewN ?_ _) | (with_reducible refine Kd.C_drew ?_))); (case side2 => exact (Kd.S_reads' HO376.out).2.1); rintro e w14 ⟨v378, rfl, ho0, hb⟩; refine ⟨_, rfl, ?_⟩; have n0_ := Aside0.mk (Kd.S_elder' (by (with_reducible repeat (first | apply Kd.S_alloc | apply Kd.S_drewN | apply Kd.S_drew)); exact HO376.out) (Kd.R_base ho0) hb); have n1_ := Aside0.mk (Kd.R_lower ho0 (below_size (by repeat (first | (with_reducible first | exact HB.out | apply below_alloc | apply pw_below_drewN | apply below_drew1) | exact HB.out)))); have n2_ := Aside0.mk (below_step (by repeat (first | (with_reducible first | exact HB.out | apply below_alloc | apply pw_below_drewN | apply below_drew1) | exact HB.out)) hb); clear HO376; clear HB; have HO376 := n0_; have HO379 := n1_; have HB := n2_; clear n0_ n1_ n2_; (try clear hb); (try clear hb2); (try clear hk); (try clear hi); (try clear ho0)) | ((with_reducible refine gate_callee (f := 31) rfl ?_); refine goesL_ (some 22) rfl rfl Try.func31 (by kernel_rfl) rfl #[.int .i64 a1, .int .i64 (t374.length : Int)] rfl (by (try simp only [List.map_toArray, List.map_cons, List.map_nil]); first | done | rfl | (simp only [List.length_drop, List.length_take]; rfl)) ?_; (with_reducible refine (jacquardlaw02_rest.calls a1 (t374.length : Int) t380 _ A7.out).mono ?_); rintro e w' ⟨rfl, ⟨nd, rfl⟩⟩; refine ⟨_, rfl, ?_⟩) | ((with_reducible refine gate_callee (f := 31) rfl ?_); refine goesL_ (some 26) rfl rfl Try.func31 (by kernel_rfl) rfl #[.int .i64 a2, .int .i64 (t374.length : Int)] rfl (by (try simp only [List.map_toArray, List.map_cons, List.map_nil]); first | done | rfl | (simp only [List.length_drop, List.length_take]; rfl)) ?_; (with_reducible refine (jacquardlaw02_rest.calls a2 (t374.length : Int) t381 _ A8.out).mono ?_); rintro e w' ⟨rfl, ⟨nd, rfl⟩⟩; refine ⟨_, rfl, ?_⟩) | ((with_reducible refine gate_callee (f := 28) rfl ?_); refine goesL_ (some 28) rfl rfl Try.func28 (by kernel_rfl) rfl #[.slice Ao13 t374.length co13, .int .i64 (-1)] rfl (by (try simp only [List.map_toArray, List.map_cons, List.map_nil]); first | done | rfl | (simp only [List.length_drop, List.length_take]; rfl)) ?_; (with_reducible refine (jacquardref02_Without.calls k _ _ t374 (-1) t382 _ ?side1 ?side2 A9.out).mono ?_); (case side1 => repeat (first | exact (Kd.S_reads' HO376.out).2.2 | (with_reducible refine Kd.C_alloc ?_ _) | (with_reducible refine Kd.C_drewN ?_ _) | (with_reducible refine Kd.C_drew ?_))); (case side2 => exact (Kd.S_reads' HO376.out).2.1); rintro e w15 ⟨v383, rfl, ho0, hb⟩; refine ⟨_, rfl, ?_⟩; have n0_ := Aside0.mk (Kd.S_below (by (with_reducible repeat (first | apply Kd.S_alloc | apply Kd.S_drewN | apply Kd.S_drew)); exact HO376.out) hb); have n1_ := Aside0.mk (Kd.R_below (by (with_reducible repeat (first | apply Kd.R_alloc | apply Kd.R_drewN | apply Kd.R_drew)); exact HO379.out) hb); have n2_ := Aside0.mk (Kd.R_lower ho0 (below_size (by repeat (first | (with_reducible first | exact HB.out | apply below_alloc | apply pw_below_drewN | apply below_drew1) | exact HB.out)))); have n3_ := Aside0.mk (below_step (by repeat (first | (with_reducible first | exact HB.out | apply below_alloc | apply pw_below_drewN | apply below_drew1) | exact HB.out)) hb); clear HO376; clear HO379; clear HB; have HO376 := n0_; have HO379 := n1_; have HO384 := n2_; have HB := n3_; clear n0_ n1_ n2_ n3_; (try clear hb); (try clear hb2); (try clear hk); (try clear hi); (try clear ho0)))
  (try simp only [Act.put, List.setIfInBounds_toArray, List.set_cons_zero, List.set_cons_succ])
  go_cut [40] (fun v40 wc => ∃ (kq : Nat) (x40_9 : Bool), v40 = .bool x40_9 ∧ Aside0 (jacquardlaw02_GraphIdom.j0 kq t373 t374 t377 t380 t381 x40_9 = some r) ∧ Aside0 (kq ≤ k) ∧ Aside0 (Kd.S (Kd.slice 3 (Kd.int .i64)) 23 wc w.heap.size (fun k_ => some k_ ≠ (v378 : Value).ownBlock) (.slice Ao13 t374.length co13) t374) ∧ Aside0 (Kd.R (Kd.int .i64) 3 wc w.heap.size (fun _ => True) v378 t377) ∧ Aside0 (Below w.heap.size w wc))
  case first =>
    have H := HC10.out
    clear HC10
    by_cases c16 : 0 ≤ t380
    · rw [if_pos c16] at H
      have c16b0 : decide (0 ≤ t380) = true := decide_eq_true c16
      clear c16
      (first | rw [c16b0] | (simp only [i64_w, i32_w]; rw [c16b0]) | skip)
      by_cases c17 : t380 < (t382.length : Int)
      · rw [if_pos c17] at H
        have c17b0 : decide (t380 < (t382.length : Int)) = true := decide_eq_true c17
        clear c17
        obtain ⟨bq18, hbq18⟩ : ∃ b_ : Bool, b_ = (rdOf false t382 t380) := ⟨_, rfl⟩
        replace H : (if bq18 = true then (if 0 ≤ t381 then (if t381 < (t382.length : Int) then (jacquardlaw02_GraphIdom.j0 k t373 t374 t377 t380 t381 (!(rdOf false t382 t381))) else (none)) else (none)) else (jacquardlaw02_GraphIdom.j0 k t373 t374 t377 t380 t381 true)) = some r := by rw [← hbq18] at H; exact H
        have Nbq18 := Aside0.mk hbq18
        clear hbq18
        by_cases c19 : bq18 = true
        · subst c19
          have H1 : (if 0 ≤ t381 then (if t381 < (t382.length : Int) then (jacquardlaw02_GraphIdom.j0 k t373 t374 t377 t380 t381 (!(rdOf false t382 t381))) else (none)) else (none)) = some r := by rw [if_pos rfl] at H; exact H
          clear H
          have H := H1
          clear H1
          by_cases c20 : 0 ≤ t381
          · rw [if_pos c20] at H
            have c20b0 : decide (0 ≤ t381) = true := decide_eq_true c20
            clear c20
            by_cases c21 : t381 < (t382.length : Int)
            · rw [if_pos c21] at H
              have c21b0 : decide (t381 < (t382.length : Int)) = true := decide_eq_true c21
              clear c21
              have H' := Aside0.mk H
              clear H
              obtain ⟨Ao22, co22, eo22⟩ := Kd.R_slice HO384.out
              subst eo22
              have p385 : 0 ≤ (t380 : Int) := of_decide_eq_true (by first | (with_reducible assumption) | assumption)
              have q385 : t380 < (t382.length : Int) := of_decide_eq_true (by first | (with_reducible assumption) | assumption)
              obtain ⟨ad385, e385, hx385_0⟩ := Kd.at_bool (Kd.R_reads' HO384.out).2.2 t380 p385 q385
              (try rw [← Nbq18.out] at hx385_0)
              cases e385
              replace p385 := eq_true p385
              replace q385 := eq_true q385
              have p386 : 0 ≤ (t381 : Int) := of_decide_eq_true (by first | (with_reducible assumption) | assumption)
              have q386 : t381 < (t382.length : Int) := of_decide_eq_true (by first | (with_reducible assumption) | assumption)
              obtain ⟨ad386, e386, hx386_0⟩ := Kd.at_bool (Kd.R_reads' HO384.out).2.2 t381 p386 q386
              (try rw [← Nbq18.out] at hx386_0)
              obtain rfl : ad385 = ad386 := (by injection e386)
              replace p386 := eq_true p386
              replace q386 := eq_true q386
              go_wp2
              go_meet
              case rel => exact ⟨_, (!(rdOf false t382 t381)), (by first | rfl | (simp; done) | (simp [*]; done)), H', ⟨by first | omega | exact Nat.le_refl _⟩, ⟨by (with_reducible repeat (first | apply Kd.S_alloc | apply Kd.S_drewN | apply Kd.S_drew)); exact Kd.S_mono HO376.out (fun _ hk => hk.2)⟩, ⟨by (with_reducible repeat (first | apply Kd.R_alloc | apply Kd.R_drewN | apply Kd.R_drew)); exact HO379.out⟩, ⟨by repeat (first | (with_reducible first | exact HB.out | apply below_alloc | apply pw_below_drewN | apply below_drew1) | exact HB.out)⟩⟩
            · rw [if_neg c21] at H
              exact absurd H (by simp)
          · rw [if_neg c20] at H
            exact absurd H (by simp)
        · replace c19 := Bool.eq_false_iff.mpr c19
          subst c19
          have H1 : (jacquardlaw02_GraphIdom.j0 k t373 t374 t377 t380 t381 true) = some r := by rw [if_neg (show ¬ (false = true) by decide)] at H; exact H
          clear H
          have H := H1
          clear H1
          have H' := Aside0.mk H
          clear H
          obtain ⟨Ao23, co23, eo23⟩ := Kd.R_slice HO384.out
          subst eo23
          have p385 : 0 ≤ (t380 : Int) := of_decide_eq_true (by first | (with_reducible assumption) | assumption)
          have q385 : t380 < (t382.length : Int) := of_decide_eq_true (by first | (with_reducible assumption) | assumption)
          obtain ⟨ad385, e385, hx385_0⟩ := Kd.at_bool (Kd.R_reads' HO384.out).2.2 t380 p385 q385
          (try rw [← Nbq18.out] at hx385_0)
          cases e385
          replace p385 := eq_true p385
          replace q385 := eq_true q385
          go_wp2
          go_meet
          case rel => exact ⟨_, (true), (by first | rfl | (simp; done) | (simp [*]; done)), H', ⟨by first | omega | exact Nat.le_refl _⟩, ⟨by (with_reducible repeat (first | apply Kd.S_alloc | apply Kd.S_drewN | apply Kd.S_drew)); exact Kd.S_mono HO376.out (fun _ hk => hk.2)⟩, ⟨by (with_reducible repeat (first | apply Kd.R_alloc | apply Kd.R_drewN | apply Kd.R_drew)); exact HO379.out⟩, ⟨by repeat (first | (with_reducible first | exact HB.out | apply below_alloc | apply pw_below_drewN | apply below_drew1) | exact HB.out)⟩⟩
      · rw [if_neg c17] at H
        exact absurd H (by simp)
    · rw [if_neg c16] at H
      exact absurd H (by simp)
  case rest =>
    clear HC10; (try clear c1); (try clear q1); (try clear c2); (try clear p2); (try clear c3); (try clear p3); (try clear q3); (try clear hx3); (try clear c5); (try clear c16); (try clear c16b0); (try clear c17); (try clear c17b0); (try clear q18); (try clear c19); (try clear c20); (try clear c20b0); (try clear c21); (try clear c21b0); (try clear c22); (try clear hx385_0); (try clear hx386_0); (try clear p385); (try clear p386); (try clear q385); (try clear q386)
    obtain ⟨kq, x40_9, rfl, HA, HJ9, HO_8, HO_9, HB⟩ := hcut
    cases kq with
    | zero => exact absurd HA.out (by simp [jacquardlaw02_GraphIdom.j0])
    | succ kj9 =>
      have H := HA.out
      clear HA
      simp only [jacquardlaw02_GraphIdom.j0] at H
      by_cases c24 : x40_9 = true
      · subst c24
        have H1 : (if t373 = true then (if t380 = t381 then (some true) else ((graph_Dominates.f t377 t380 t381).bind fun t387 => (some (!t387)))) else (some false)) = some r := by rw [if_pos rfl] at H; exact H
        clear H
        have H := H1
        clear H1
        by_cases c25 : t373 = true
        · subst c25
          have H1 : (if t380 = t381 then (some true) else ((graph_Dominates.f t377 t380 t381).bind fun t387 => (some (!t387)))) = some r := by rw [if_pos rfl] at H; exact H
          clear H
          have H := H1
          clear H1
          by_cases c26 : t380 = t381
          · rw [if_pos c26] at H
            have c26b0 : (t380 == t381) = true := beq_iff_eq.mpr c26
            have c26b1 : (t380 != t381) = false := bne_eq_false_iff_eq.mpr c26
            clear c26
            obtain rfl := Option.some.inj H
            go_wp2
            go_ret
            exact ⟨by first | rfl | (simp [errW_none, errW_some] <;> rfl) | (simp [*, errW_none, errW_some] <;> rfl), by repeat (first | (with_reducible first | exact HB.out | apply below_alloc | apply pw_below_drewN | apply below_drew1) | exact HB.out)⟩
          · rw [if_neg c26] at H
            have c26b0 : (t380 == t381) = false := beq_eq_false_iff_ne.mpr c26
            have c26b1 : (t380 != t381) = true := bne_iff_ne.mpr c26
            replace H := Option.bind_eq_some_iff.mp H
            obtain ⟨t387, A270, H⟩ := H
            replace H : (some (!t387)) = some r := H
            have A27 := Aside0.mk A270
            clear A270
            obtain rfl := Option.some.inj H
            obtain ⟨Ao28, co28, eo28⟩ := Kd.R_slice HO_9.out
            subst eo28
            go_wp2_with (first | (go_at_call 32; (with_reducible refine (graph_Dominates.calls _ _ t377 t380 t381 t387 _ ?side1 ?side2 A27.out).mono ?_); (case side1 => repeat (first | exact (Kd.R_reads' HO_9.out).2.2 | (with_reducible refine Kd.C_alloc ?_ _) | (with_reducible refine Kd.C_drewN ?_ _) | (with_reducible refine Kd.C_drew ?_))); (case side2 => exact (Kd.R_reads' HO_9.out).2.1); rintro e w29 ⟨rfl, hb⟩; have n0_ := Aside0.mk (Kd.S_below (by (with_reducible repeat (first | apply Kd.S_alloc | apply Kd.S_drewN | apply Kd.S_drew)); exact HO_8.out) hb); have n1_ := Aside0.mk (Kd.R_below (by (with_reducible repeat (first | apply Kd.R_alloc | apply Kd.R_drewN | apply Kd.R_drew)); exact HO_9.out) hb); have n2_ := Aside0.mk (below_step (by repeat (first | (with_reducible first | exact HB.out | apply below_alloc | apply pw_below_drewN | apply below_drew1) | exact HB.out)) hb); clear HO_8; clear HO_9; clear HB; have HO_8 := n0_; have HO_9 := n1_; have HB := n2_; clear n0_ n1_ n2_; (try clear hb); (try clear hb2); (try clear hk); (try clear hi)))
            go_ret
            exact ⟨by first | rfl | (simp [errW_none, errW_some] <;> rfl) | (simp [*, errW_none, errW_some] <;> rfl), by repeat (first | (with_reducible first | exact HB.out | apply below_alloc | apply pw_below_drewN | apply below_drew1) | exact HB.out)⟩
        · replace c25 := Bool.eq_false_iff.mpr c25
          subst c25
          have H1 : (some false) = some r := by rw [if_neg (show ¬ (false = true) by decide)] at H; exact H
          clear H
          have H := H1
          clear H1
          obtain rfl := Option.some.inj H
          go_wp2
          go_ret
          exact ⟨by first | rfl | (simp [errW_none, errW_some] <;> rfl) | (simp [*, errW_none, errW_some] <;> rfl), by repeat (first | (with_reducible first | exact HB.out | apply below_alloc | apply pw_below_drewN | apply below_drew1) | exact HB.out)⟩
      · replace c24 := Bool.eq_false_iff.mpr c24
        subst c24
        have H1 : ((jacquardref02_Dom.f kj9 t374 t380 t381).bind fun t388 => (if t373 = true then ((graph_Dominates.f t377 t380 t381).bind fun t389 => (some (t389 == t388))) else (some false))) = some r := by rw [if_neg (show ¬ (false = true) by decide)] at H; exact H
        clear H
        have H := H1
        clear H1
        replace H := Option.bind_eq_some_iff.mp H
        obtain ⟨t388, A300, H⟩ := H
        replace H : (if t373 = true then ((graph_Dominates.f t377 t380 t381).bind fun t389 => (some (t389 == t388))) else (some false)) = some r := H
        have A30 := Aside0.mk A300
        clear A300
        by_cases c31 : t373 = true
        · subst c31
          have H1 : ((graph_Dominates.f t377 t380 t381).bind fun t389 => (some (t389 == t388))) = some r := by rw [if_pos rfl] at H; exact H
          clear H
          have H := H1
          clear H1
          replace H := Option.bind_eq_some_iff.mp H
          obtain ⟨t389, A320, H⟩ := H
          replace H : (some (t389 == t388)) = some r := H
          have A32 := Aside0.mk A320
          clear A320
          obtain rfl := Option.some.inj H
          go_wp2_with (first | ((with_reducible refine gate_callee (f := 33) rfl ?_); refine goesL_ (some 57) rfl rfl Try.func33 (by kernel_rfl) rfl #[.slice Ao13 t374.length co13, .int .i64 t380, .int .i64 t381] rfl (by (try simp only [List.map_toArray, List.map_cons, List.map_nil]); first | done | rfl | (simp only [List.length_drop, List.length_take]; rfl)) ?_; (with_reducible refine (jacquardref02_Dom.calls kj9 _ _ t374 t380 t381 t388 _ ?side1 ?side2 A30.out).mono ?_); (case side1 => repeat (first | exact (Kd.S_reads' HO_8.out).2.2 | (with_reducible refine Kd.C_alloc ?_ _) | (with_reducible refine Kd.C_drewN ?_ _) | (with_reducible refine Kd.C_drew ?_))); (case side2 => exact (Kd.S_reads' HO_8.out).2.1); rintro e w33 ⟨rfl, hb⟩; refine ⟨_, rfl, ?_⟩; have n0_ := Aside0.mk (Kd.S_below (by (with_reducible repeat (first | apply Kd.S_alloc | apply Kd.S_drewN | apply Kd.S_drew)); exact HO_8.out) hb); have n1_ := Aside0.mk (Kd.R_below (by (with_reducible repeat (first | apply Kd.R_alloc | apply Kd.R_drewN | apply Kd.R_drew)); exact HO_9.out) hb); have n2_ := Aside0.mk (below_step (by repeat (first | (with_reducible first | exact HB.out | apply below_alloc | apply pw_below_drewN | apply below_drew1) | exact HB.out)) hb); clear HO_8; clear HO_9; clear HB; have HO_8 := n0_; have HO_9 := n1_; have HB := n2_; clear n0_ n1_ n2_; (try clear hb); (try clear hb2); (try clear hk); (try clear hi); obtain ⟨Ao34, co34, eo34⟩ := Kd.R_slice HO_9.out; subst eo34) | (go_at_call 32; (with_reducible refine (graph_Dominates.calls _ _ t377 t380 t381 t389 _ ?side1 ?side2 A32.out).mono ?_); (case side1 => repeat (first | exact (Kd.R_reads' HO_9.out).2.2 | (with_reducible refine Kd.C_alloc ?_ _) | (with_reducible refine Kd.C_drewN ?_ _) | (with_reducible refine Kd.C_drew ?_))); (case side2 => exact (Kd.R_reads' HO_9.out).2.1); rintro e w35 ⟨rfl, hb⟩; have n0_ := Aside0.mk (Kd.S_below (by (with_reducible repeat (first | apply Kd.S_alloc | apply Kd.S_drewN | apply Kd.S_drew)); exact HO_8.out) hb); have n1_ := Aside0.mk (Kd.R_below (by (with_reducible repeat (first | apply Kd.R_alloc | apply Kd.R_drewN | apply Kd.R_drew)); exact HO_9.out) hb); have n2_ := Aside0.mk (below_step (by repeat (first | (with_reducible first | exact HB.out | apply below_alloc | apply pw_below_drewN | apply below_drew1) | exact HB.out)) hb); clear HO_8; clear HO_9; clear HB; have HO_8 := n0_; have HO_9 := n1_; have HB := n2_; clear n0_ n1_ n2_; (try clear hb); (try clear hb2); (try clear hk); (try clear hi)))
          go_ret
          exact ⟨by first | rfl | (simp [errW_none, errW_some] <;> rfl) | (simp [*, errW_none, errW_some] <;> rfl), by repeat (first | (with_reducible first | exact HB.out | apply below_alloc | apply pw_below_drewN | apply below_drew1) | exact HB.out)⟩
        · replace c31 := Bool.eq_false_iff.mpr c31
          subst c31
          have H1 : (some false) = some r := by rw [if_neg (show ¬ (false = true) by decide)] at H; exact H
          clear H
          have H := H1
          clear H1
          obtain rfl := Option.some.inj H
          go_wp2_with (first | ((with_reducible refine gate_callee (f := 33) rfl ?_); refine goesL_ (some 57) rfl rfl Try.func33 (by kernel_rfl) rfl #[.slice Ao13 t374.length co13, .int .i64 t380, .int .i64 t381] rfl (by (try simp only [List.map_toArray, List.map_cons, List.map_nil]); first | done | rfl | (simp only [List.length_drop, List.length_take]; rfl)) ?_; (with_reducible refine (jacquardref02_Dom.calls kj9 _ _ t374 t380 t381 t388 _ ?side1 ?side2 A30.out).mono ?_); (case side1 => repeat (first | exact (Kd.S_reads' HO_8.out).2.2 | (with_reducible refine Kd.C_alloc ?_ _) | (with_reducible refine Kd.C_drewN ?_ _) | (with_reducible refine Kd.C_drew ?_))); (case side2 => exact (Kd.S_reads' HO_8.out).2.1); rintro e w36 ⟨rfl, hb⟩; refine ⟨_, rfl, ?_⟩; have n0_ := Aside0.mk (Kd.S_below (by (with_reducible repeat (first | apply Kd.S_alloc | apply Kd.S_drewN | apply Kd.S_drew)); exact HO_8.out) hb); have n1_ := Aside0.mk (Kd.R_below (by (with_reducible repeat (first | apply Kd.R_alloc | apply Kd.R_drewN | apply Kd.R_drew)); exact HO_9.out) hb); have n2_ := Aside0.mk (below_step (by repeat (first | (with_reducible first | exact HB.out | apply below_alloc | apply pw_below_drewN | apply below_drew1) | exact HB.out)) hb); clear HO_8; clear HO_9; clear HB; have HO_8 := n0_; have HO_9 := n1_; have HB := n2_; clear n0_ n1_ n2_; (try clear hb); (try clear hb2); (try clear hk); (try clear hi)))
          go_ret
          exact ⟨by first | rfl | (simp [errW_none, errW_some] <;> rfl) | (simp [*, errW_none, errW_some] <;> rfl), by repeat (first | (with_reducible first | exact HB.out | apply below_alloc | apply pw_below_drewN | apply below_drew1) | exact HB.out)⟩

/-- THE ONE PURE STATEMENT of jacquardlaw02_GraphIdom: yours. -/
def jacquardlaw02_GraphIdom.Pure : Prop := ∀ (l0 : List Int) (a1 : Int) (a2 : Int), l0.length ≤ maxLen → l0.length * 8 ≤ 140737488351232 → (∀ x ∈ l0, (Lit.int .i64 x).wf = true) → (Lit.int .i64 a1).wf = true → (Lit.int .i64 a2).wf = true → ∃ k, jacquardlaw02_GraphIdom.f k l0 a1 a2 = some true
theorem jacquardlaw02_GraphIdom.walk (P : jacquardlaw02_GraphIdom.Pure) (a0 : Option Addr) (len0 cap0 : Nat) (z0 : List Int) (a1 : Int) (a2 : Int) (w : World) (w0 : (a0 = none ∧ len0 = 0 ∧ cap0 = 0 ∧ z0 = []) ∨ ∃ x, a0 = some x ∧ len0 ≤ cap0 ∧ cap0 ≤ maxLen ∧ z0.length = cap0 ∧ (∀ i, i < z0.length → w.cell? (x.add i) = some (.int .i64 (z0.getD i 0))) ∧ ∀ n ∈ z0, (Lit.int .i64 n).wf = true) (y0 : len0 * 8 ≤ 140737488351232) (w1 : (Lit.int .i64 a1).wf = true) (w2 : (Lit.int .i64 a2).wf = true) :
    Calls Try.prog 5 #[.slice a0 len0 cap0, .int .i64 a1, .int .i64 a2] w fun e w' => e = .returned (.bool true) ∧ Below w.heap.size w w' := by
  obtain ⟨l0, rfl, hr0, hm0, hw0, hc0⟩ := ReadsInt.ofRowC w0
  obtain ⟨k, h⟩ := P l0 a1 a2 hm0 y0 hw0 w1 w2
  refine (jacquardlaw02_GraphIdom.calls k _ _ l0 a1 a2 true w (Kd.C_of_reads (d := (0 : Int)) (h1 := fun _ => rfl) hr0) hc0 h).mono ?_
  rintro e w' ⟨rfl, hd⟩
  exact ⟨rfl, hd⟩

end Go.Proofs.Ytnmeomdjhjgnfaa.X
end
section
/-! Plain: what a walk over blocks (overL) comes to, in which order. -/
set_option linter.unusedVariables false
set_option linter.unusedSimpArgs false
namespace Go.Proofs.Ytnmeomdjhjgnfaa.X
open Go.RowKit Go.Proofs.YtnmeomdjhjgnfaaW.PrintWords Go.Proofs.YtnmeomdjhjgnfaaW.PrintLast Go.Proofs.YtnmeomdjhjgnfaaW.PrintMore

/-- y stands ahead of x. -/
def Bef (L : List Int) (y x : Int) : Prop := ∃ l1 l2, L = l1 ++ l2 ∧ y ∈ l1 ∧ x ∈ l2
theorem Bef.left {L : List Int} {y x : Int} (h : Bef L y x) (M : List Int) : Bef (L ++ M) y x := by
  obtain ⟨l1, l2, rfl, h1, h2⟩ := h
  exact ⟨l1, l2 ++ M, by simp, h1, by simp [h2]⟩
theorem Bef.right {L : List Int} {y x : Int} (h : Bef L y x) (M : List Int) : Bef (M ++ L) y x := by
  obtain ⟨l1, l2, rfl, h1, h2⟩ := h
  exact ⟨M ++ l1, l2, by simp, by simp [h1], h2⟩
theorem Bef.cross {L M : List Int} {y x : Int} (h : y ∈ L) (k : x ∈ M) : Bef (L ++ M) y x := ⟨L, M, rfl, h, k⟩
/-- A way from y on, each step to a block that is left earlier. -/
inductive FP (E : Int → Int → Prop) (L : List Int) (y : Int) : Int → Prop
  | refl : FP E L y y
  | step {z x : Int} : FP E L y z → E z x → Bef L x z → FP E L y x
theorem FP.mono {E : Int → Int → Prop} {L M : List Int} (hb : ∀ a b, Bef L a b → Bef M a b) {y x : Int} (h : FP E L y x) : FP E M y x := by
  induction h with
  | refl => exact .refl
  | step _ he hbf ih => exact .step ih he (hb _ _ hbf)
theorem FP.trans {E : Int → Int → Prop} {L : List Int} {w y x : Int} (h : FP E L w y) (k : FP E L y x) : FP E L w x := by
  induction k with
  | refl => exact h
  | step _ he hbf ih => exact .step ih he hbf

def on (t : List Bool) (y : Int) : Prop := t.getD y.toNat false = true
theorem on_set {t : List Bool} {a y : Int} (ha : 0 ≤ a ∧ a < t.length) (hy : 0 ≤ y) : on (t.set a.toNat true) y ↔ on t y ∨ y = a := by
  unfold on
  rw [List.getD_eq_getElem?_getD, List.getD_eq_getElem?_getD]
  by_cases h : a.toNat = y.toNat
  · rw [← h, List.getElem?_set_self (by omega)]
    simp; right; omega
  · rw [List.getElem?_set_ne h]
    constructor
    · exact .inl
    · rintro (h2 | h2)
      · exact h2
      · exfalso; apply h; rw [h2]
def cf (t : List Bool) : Nat := t.count false
theorem cf_set (t : List Bool) : ∀ (i : Nat), i < t.length → t.getD i false = false → cf (t.set i true) + 1 = cf t := by
  unfold cf
  induction t with
  | nil => intro i h; simp at h
  | cons x t ih =>
    intro i h hf
    cases i with
    | zero => simp at hf; subst hf; simp
    | succ i =>
      have := ih i (by simpa using h) (by simpa using hf)
      simp only [List.set_cons_succ, List.count_cons]
      omega
theorem cf_mono (t : List Bool) : ∀ (s : List Bool), t.length = s.length → (∀ i, t.getD i false = true → s.getD i false = true) → cf s ≤ cf t := by
  unfold cf
  induction t with
  | nil => intro s h _; have : s = [] := List.length_eq_zero_iff.1 h.symm; subst this; simp
  | cons x t ih =>
    intro s h hm
    cases s with
    | nil => simp at h
    | cons y s =>
      have h1 := ih s (by simpa using h) (fun i => by have := hm (i + 1); simpa using this)
      have h2 := hm 0
      simp only [List.getD_cons_zero] at h2
      simp only [List.count_cons]
      cases x <;> cases y <;> simp_all <;> omega

/-- What is new from t to t'. -/
structure DfsNew (E : Int → Int → Prop) (n : Nat) (t t' : List Bool) (new : List Int) : Prop where
  len : t'.length = t.length
  mark : ∀ y : Int, 0 ≤ y → y < (n : Int) → (on t' y ↔ on t y ∨ y ∈ new)
  rng : ∀ x ∈ new, 0 ≤ x ∧ x < (n : Int)
  fresh : ∀ x ∈ new, ¬ on t x
  nodup : new.Nodup
  closed : ∀ x ∈ new, ∀ y, E x y → on t' y
  back : ∀ x ∈ new, ∀ y ∈ new, E x y → Bef new y x ∨ FP E new y x
theorem DfsNew.nil (E : Int → Int → Prop) (n : Nat) (t : List Bool) : DfsNew E n t t [] :=
  ⟨rfl, (fun y _ _ => by simp), (fun x (h : x ∈ []) => nomatch h), (fun x (h : x ∈ []) => nomatch h), List.nodup_nil, (fun x (h : x ∈ []) => nomatch h), (fun x (h : x ∈ []) => nomatch h)⟩
theorem DfsNew.join {E : Int → Int → Prop} {n : Nat} (hE : ∀ x y, E x y → 0 ≤ y ∧ y < n) {t s u : List Bool} {l m : List Int} (h : DfsNew E n t s l) (k : DfsNew E n s u m) : DfsNew E n t u (l ++ m) := by
  have hsu : ∀ y, 0 ≤ y → y < (n : Int) → on s y → on u y := fun y h0 h1 hy => (k.mark y h0 h1).2 (.inl hy)
  refine ⟨k.len.trans h.len, fun y h0 h1 => ?_, fun x hx => ?_, fun x hx => ?_, ?_, fun x hx y he => ?_, fun x hx y hy he => ?_⟩
  · rw [k.mark y h0 h1, h.mark y h0 h1, List.mem_append, or_assoc]
  · rcases List.mem_append.1 hx with hx | hx
    · exact h.rng x hx
    · exact k.rng x hx
  · rcases List.mem_append.1 hx with hx | hx
    · exact h.fresh x hx
    · have hr := k.rng x hx
      exact fun hy => k.fresh x hx ((h.mark x hr.1 hr.2).2 (.inl hy))
  · rw [List.nodup_append]
    refine ⟨h.nodup, k.nodup, fun x hx y hy e => ?_⟩
    subst e
    have hr := h.rng x hx
    exact k.fresh x hy ((h.mark x hr.1 hr.2).2 (.inr hx))
  · have hr := hE x y he
    rcases List.mem_append.1 hx with hx | hx
    · exact hsu y hr.1 hr.2 (h.closed x hx y he)
    · exact k.closed x hx y he
  · rcases List.mem_append.1 hx with hx | hx <;> rcases List.mem_append.1 hy with hy | hy
    · exact (h.back x hx y hy he).imp (fun b => b.left m) (fun f => f.mono (fun a b hb => hb.left m))
    · exact absurd (h.closed x hx y he) (k.fresh y hy)
    · exact .inl (Bef.cross hy hx)
    · exact (k.back x hx y hy he).imp (fun b => b.right l) (fun f => f.mono (fun a b hb => hb.right l))

def RE (rows : List (List Int)) (x y : Int) : Prop := 0 ≤ x ∧ y ∈ rows.getD x.toNat []
theorem RE_in {rows : List (List Int)} {n : Nat} (hrows : ∀ row ∈ rows, ∀ b ∈ row, 0 ≤ b ∧ b < (n : Int)) (x y : Int) (h : RE rows x y) : 0 ≤ y ∧ y < (n : Int) := by
  obtain ⟨_, h⟩ := h
  rcases Nat.lt_or_ge x.toNat rows.length with hl | hl
  · rw [List.getD_eq_getElem?_getD, List.getElem?_eq_getElem hl] at h
    exact hrows _ (List.getElem_mem hl) y h
  · rw [List.getD_eq_getElem?_getD, List.getElem?_eq_none hl] at h
    cases h
def oStep (rows : List (List Int)) (k : Nat) (s : List Bool × List Int) (b : Int) : Option (List Bool × List Int) :=
  if s.1.getD b.toNat false = true then some s else overL rows k b s
theorem oL_eq (rows : List (List Int)) (k : Nat) (a : Int) (s : List Bool × List Int) :
    overL rows (k + 1) a s = ((rows.getD a.toNat []).foldlM (oStep rows k) (s.1.set a.toNat true, s.2)).map fun s => (s.1, s.2 ++ [a]) := rfl

theorem dfs (rows : List (List Int)) (n : Nat) (hrows : ∀ row ∈ rows, ∀ b ∈ row, 0 ≤ b ∧ b < (n : Int)) : ∀ (k : Nat) (a : Int) (t : List Bool) (o : List Int), t.length = n → 0 ≤ a → a < n → ¬ on t a → cf t ≤ k →
    ∃ t' new, overL rows k a (t, o) = some (t', o ++ (new ++ [a])) ∧ DfsNew (RE rows) n t t' (new ++ [a]) ∧ ∀ x ∈ new ++ [a], FP (RE rows) (new ++ [a]) a x := by
  have hE := RE_in hrows
  intro k
  induction k with
  | zero =>
    intro a t o hl h0 h1 hn hc
    have h2 := cf_set t a.toNat (by omega) (by unfold on at hn; simpa using hn)
    omega
  | succ k ih =>
    have key : ∀ (l : List Int) (t : List Bool) (o : List Int), (∀ b ∈ l, 0 ≤ b ∧ b < (n : Int)) → t.length = n → cf t ≤ k →
        ∃ t' new, l.foldlM (oStep rows k) (t, o) = some (t', o ++ new) ∧ DfsNew (RE rows) n t t' new ∧ (∀ b ∈ l, on t' b) ∧ ∀ x ∈ new, ∃ b, b ∈ l ∧ b ∈ new ∧ FP (RE rows) new b x := by
      intro l
      induction l with
      | nil => intro t o _ hl _; exact ⟨t, [], by simp [pure], DfsNew.nil _ _ _, (fun b (hb : b ∈ []) => by cases hb), (fun x (hx : x ∈ []) => by cases hx)⟩
      | cons b l ihl =>
        intro t o hb hl hc
        have hbr := hb b List.mem_cons_self
        by_cases ht : on t b
        · obtain ⟨t', new, h1, h2, h3, h4⟩ := ihl t o (fun x hx => hb x (List.mem_cons_of_mem _ hx)) hl hc
          refine ⟨t', new, ?_, h2, fun x hx => ?_, fun x hx => ?_⟩
          · rw [List.foldlM_cons, show oStep rows k (t, o) b = some (t, o) from by unfold oStep; exact if_pos ht]
            exact h1
          · rcases List.mem_cons.1 hx with rfl | hx
            · exact (h2.mark x hbr.1 hbr.2).2 (.inl ht)
            · exact h3 x hx
          · obtain ⟨c, hc1, hc2, hc3⟩ := h4 x hx
            exact ⟨c, List.mem_cons_of_mem _ hc1, hc2, hc3⟩
        · obtain ⟨t1, new1, g1, g2, g3⟩ := ih b t o hl hbr.1 hbr.2 ht hc
          have hl1 : t1.length = n := g2.len.trans hl
          have hc1 : cf t1 ≤ k := by
            refine Nat.le_trans (cf_mono t t1 g2.len.symm (fun i hi => ?_)) hc
            have hin : i < n := by
              rcases Nat.lt_or_ge i t.length with h | h
              · omega
              · rw [List.getD_eq_getElem?_getD, List.getElem?_eq_none h] at hi; cases hi
            have := (g2.mark (i : Int) (by omega) (by omega)).2 (.inl (by unfold on; simpa using hi))
            unfold on at this
            simpa using this
          obtain ⟨t', new, h1, h2, h3, h4⟩ := ihl t1 (o ++ (new1 ++ [b])) (fun x hx => hb x (List.mem_cons_of_mem _ hx)) hl1 hc1
          refine ⟨t', (new1 ++ [b]) ++ new, ?_, g2.join hE h2, fun x hx => ?_, fun x hx => ?_⟩
          · rw [List.foldlM_cons, show oStep rows k (t, o) b = some (t1, o ++ (new1 ++ [b])) from by unfold oStep; exact (if_neg ht).trans g1]
            show List.foldlM (oStep rows k) (t1, o ++ (new1 ++ [b])) l = _
            rw [h1, List.append_assoc o]
          · rcases List.mem_cons.1 hx with rfl | hx
            · exact (h2.mark x hbr.1 hbr.2).2 (.inl ((g2.mark x hbr.1 hbr.2).2 (.inr (by simp))))
            · exact h3 x hx
          · rcases List.mem_append.1 hx with hx | hx
            · exact ⟨b, List.mem_cons_self, by simp, (g3 x hx).mono (fun _ _ hb => hb.left _)⟩
            · obtain ⟨c, hc1, hc2, hc3⟩ := h4 x hx
              exact ⟨c, List.mem_cons_of_mem _ hc1, List.mem_append_right _ hc2, hc3.mono (fun _ _ hb => hb.right _)⟩
    intro a t o hl h0 h1 hn hc
    have h2 := cf_set t a.toNat (by omega) (by unfold on at hn; simpa using hn)
    have hrow : ∀ b ∈ rows.getD a.toNat [], 0 ≤ b ∧ b < (n : Int) := fun b hb => hE a b ⟨h0, hb⟩
    obtain ⟨t', new, g1, g2, g3, g4⟩ := key (rows.getD a.toNat []) (t.set a.toNat true) o hrow (by simpa using hl) (by omega)
    have hset : ∀ y, 0 ≤ y → (on (t.set a.toNat true) y ↔ on t y ∨ y = a) := fun y hy => on_set ⟨h0, by omega⟩ hy
    have hroot : ∀ x ∈ new ++ [a], FP (RE rows) (new ++ [a]) a x := by
      intro x hx
      rcases List.mem_append.1 hx with hx | hx
      · obtain ⟨b, hb1, hb2, hb3⟩ := g4 x hx
        exact (FP.step .refl ⟨h0, hb1⟩ (Bef.cross hb2 (by simp))).trans (hb3.mono (fun _ _ hb => hb.left _))
      · rw [List.mem_singleton.1 hx]; exact .refl
    refine ⟨t', new, ?_, ⟨?_, fun y hy0 hy1 => ?_, fun x hx => ?_, fun x hx => ?_, ?_, fun x hx y he => ?_, fun x hx y hy he => ?_⟩, hroot⟩
    · rw [oL_eq, g1]
      simp
    · rw [g2.len]; simp
    · rw [g2.mark y hy0 hy1, hset y hy0, List.mem_append, List.mem_singleton]
      constructor
      · rintro ((h | h) | h)
        · exact .inl h
        · exact .inr (.inr h)
        · exact .inr (.inl h)
      · rintro (h | h | h)
        · exact .inl (.inl h)
        · exact .inr h
        · exact .inl (.inr h)
    · rcases List.mem_append.1 hx with hx | hx
      · exact g2.rng x hx
      · rw [List.mem_singleton.1 hx]; exact ⟨h0, h1⟩
    · rcases List.mem_append.1 hx with hx | hx
      · exact fun hy => g2.fresh x hx ((hset x (g2.rng x hx).1).2 (.inl hy))
      · rw [List.mem_singleton.1 hx]; exact hn
    · rw [List.nodup_append]
      refine ⟨g2.nodup, by simp, fun x hx y hy e => ?_⟩
      rw [List.mem_singleton.1 hy] at e
      exact g2.fresh x hx ((hset x (g2.rng x hx).1).2 (.inr e))
    · rcases List.mem_append.1 hx with hx | hx
      · exact g2.closed x hx y he
      · rw [List.mem_singleton.1 hx] at he
        exact g3 y he.2
    · rcases List.mem_append.1 hx with hx | hx
      · rcases List.mem_append.1 hy with hy | hy
        · exact (g2.back x hx y hy he).imp (fun b => b.left _) (fun f => f.mono (fun _ _ hb => hb.left _))
        · rw [List.mem_singleton.1 hy]
          exact .inr (hroot x (List.mem_append_left _ hx))
      · rw [List.mem_singleton.1 hx] at he ⊢
        rcases List.mem_append.1 hy with hy | hy
        · exact .inl (Bef.cross hy (by simp))
        · rw [List.mem_singleton.1 hy]; exact .inr .refl
end Go.Proofs.Ytnmeomdjhjgnfaa.X
end
section
/-! Plain: an order of blocks by places. -/
set_option linter.unusedVariables false
set_option linter.unusedSimpArgs false
namespace Go.Proofs.Ytnmeomdjhjgnfaa.X
open Go.RowKit Go.Proofs.YtnmeomdjhjgnfaaW.PrintWords Go.Proofs.YtnmeomdjhjgnfaaW.PrintLast Go.Proofs.YtnmeomdjhjgnfaaW.PrintMore

/-- The block at a place. -/
def at_ (o : List Int) (i : Nat) : Int := o.getD i 0
/-- From place j on to place i, by edges that go on. -/
inductive FW (E : Int → Int → Prop) (o : List Int) (j : Nat) : Nat → Prop
  | refl : FW E o j j
  | step {z x : Nat} : FW E o j z → E (at_ o z) (at_ o x) → z < x → x < o.length → FW E o j x
structure Ordd (E : Int → Int → Prop) (n : Nat) (o : List Int) : Prop where
  nodup : o.Nodup
  rng : ∀ x ∈ o, 0 ≤ x ∧ x < (n : Int)
  pos : 0 < o.length
  head : at_ o 0 = 0
  closed : ∀ x ∈ o, ∀ y, E x y → y ∈ o
  fwd : ∀ i, 0 < i → i < o.length → ∃ j, j < i ∧ E (at_ o j) (at_ o i)
  back : ∀ i j, i < o.length → j < o.length → E (at_ o i) (at_ o j) → i < j ∨ FW E o j i
theorem at_mem {o : List Int} {i : Nat} (h : i < o.length) : at_ o i ∈ o := by
  unfold at_
  rw [List.getD_eq_getElem?_getD, List.getElem?_eq_getElem h]
  exact List.getElem_mem h
theorem at_inj {o : List Int} (hn : o.Nodup) {i j : Nat} (hi : i < o.length) (hj : j < o.length) (h : at_ o i = at_ o j) : i = j := by
  unfold at_ at h
  rw [List.getD_eq_getElem?_getD, List.getElem?_eq_getElem hi, List.getD_eq_getElem?_getD, List.getElem?_eq_getElem hj] at h
  have hp := List.pairwise_iff_getElem.1 hn
  rcases Nat.lt_trichotomy i j with hlt | hlt | hlt
  · exact absurd h (hp i j hi hj hlt)
  · exact hlt
  · exact absurd h.symm (hp j i hj hi hlt)
theorem mem_at {o : List Int} {x : Int} (h : x ∈ o) : ∃ i, i < o.length ∧ at_ o i = x := by
  obtain ⟨i, hi, rfl⟩ := List.getElem_of_mem h
  exact ⟨i, hi, by unfold at_; rw [List.getD_eq_getElem?_getD, List.getElem?_eq_getElem hi]; rfl⟩
theorem bef_place {L : List Int} (hn : L.Nodup) {i j : Nat} (hi : i < L.reverse.length) (hj : j < L.reverse.length) (h : Bef L (at_ L.reverse i) (at_ L.reverse j)) : j < i := by
  obtain ⟨l1, l2, rfl, h1, h2⟩ := h
  have hr : (l1 ++ l2).reverse.Nodup := (List.reverse_perm _).nodup_iff.2 hn
  have e : (l1 ++ l2).reverse = l2.reverse ++ l1.reverse := List.reverse_append
  obtain ⟨j', hj', ej⟩ := mem_at (List.mem_reverse.2 h2)
  obtain ⟨i', hi', ei⟩ := mem_at (List.mem_reverse.2 h1)
  have ej2 : at_ (l1 ++ l2).reverse j' = at_ (l1 ++ l2).reverse j := by
    rw [← ej, e]
    unfold at_
    rw [List.getD_eq_getElem?_getD, List.getElem?_append_left hj', ← List.getD_eq_getElem?_getD]
  have ei2 : at_ (l1 ++ l2).reverse (l2.reverse.length + i') = at_ (l1 ++ l2).reverse i := by
    rw [← ei, e]
    unfold at_
    rw [List.getD_eq_getElem?_getD, List.getElem?_append_right (by omega), Nat.add_sub_cancel_left, ← List.getD_eq_getElem?_getD]
  have h3 := at_inj hr (by rw [e, List.length_append]; omega) hj ej2
  have h4 := at_inj hr (by rw [e, List.length_append]; omega) hi ei2
  omega
theorem fp_fw {E : Int → Int → Prop} {L : List Int} (hn : L.Nodup) (hm : ∀ y x, Bef L y x → y ∈ L ∧ x ∈ L) {y x : Int} (h : FP E L y x) : ∀ j i, j < L.reverse.length → i < L.reverse.length → at_ L.reverse j = y → at_ L.reverse i = x → FW E L.reverse j i := by
  have hr : L.reverse.Nodup := (List.reverse_perm _).nodup_iff.2 hn
  induction h with
  | refl =>
    intro j i hj hi ej ei
    obtain rfl := at_inj hr hj hi (ej.trans ei.symm)
    exact .refl
  | @step z x _ he hb ih =>
    intro j i hj hi ej ei
    obtain ⟨k, hk, ek⟩ := mem_at (List.mem_reverse.2 (hm _ _ hb).2)
    refine .step (ih j k hj hk ej ek) (by rw [ek, ei]; exact he) ?_ hi
    exact bef_place hn hi hk (by rw [ek, ei]; exact hb)
theorem bef_mem {L : List Int} {y x : Int} (h : Bef L y x) : y ∈ L ∧ x ∈ L := by
  obtain ⟨l1, l2, rfl, h1, h2⟩ := h
  exact ⟨by simp [h1], by simp [h2]⟩
/-- The order that a walk from block 0 leaves. -/
theorem order_of (rows : List (List Int)) (n : Nat) (hn0 : 0 < n) (hrows : ∀ row ∈ rows, ∀ b ∈ row, 0 ≤ b ∧ b < (n : Int)) (k : Nat) (hk : n ≤ k) :
    ∃ t o, overL rows k 0 (List.replicate n false, []) = some (t, o) ∧ Ordd (RE rows) n o.reverse := by
  obtain ⟨t, new, h1, h2, h3⟩ := dfs rows n hrows k 0 (List.replicate n false) [] (by simp) (by omega) (by omega) (by unfold on; simp [List.getD_eq_getElem?_getD, List.getElem?_replicate, hn0]) (by unfold cf; simp; omega)
  have hr : (new ++ [0]).reverse.Nodup := (List.reverse_perm _).nodup_iff.2 h2.nodup
  refine ⟨t, new ++ [0], by rw [h1]; rfl, hr, fun x hx => h2.rng x (List.mem_reverse.1 hx), by simp, by simp [at_], fun x hx y he => ?_, fun i h0 hi => ?_, fun i j hi hj he => ?_⟩
  · have hy := RE_in hrows x y he
    have h4 := (h2.mark y hy.1 hy.2).1 (h2.closed x (List.mem_reverse.1 hx) y he)
    refine List.mem_reverse.2 (h4.resolve_left (fun h => ?_))
    unfold on at h
    rw [List.getD_eq_getElem?_getD, List.getElem?_replicate] at h
    split at h <;> cases h
  · have hx := at_mem hi
    have h4 := h3 _ (List.mem_reverse.1 hx)
    obtain ⟨y, hy⟩ : ∃ y, at_ (new ++ [0]).reverse i = y := ⟨_, rfl⟩
    rw [hy] at h4 ⊢
    cases h4 with
    | refl =>
      exfalso
      have h6 : at_ (new ++ [0]).reverse i = at_ (new ++ [0]).reverse 0 := by
        rw [hy]
        simp [at_]
      have := at_inj hr hi (by simp) h6
      omega
    | @step z x _ he hb =>
      obtain ⟨j, hj, ej⟩ := mem_at (List.mem_reverse.2 (bef_mem hb).2)
      exact ⟨j, bef_place h2.nodup hi hj (by rw [ej, hy]; exact hb), by rw [ej]; exact he⟩
  · rcases h2.back _ (List.mem_reverse.1 (at_mem hi)) _ (List.mem_reverse.1 (at_mem hj)) he with hb | hf
    · exact .inl (bef_place h2.nodup hj hi hb)
    · exact .inr (fp_fw h2.nodup (fun _ _ h => bef_mem h) hf j i hj hi rfl rfl)
end Go.Proofs.Ytnmeomdjhjgnfaa.X
end
section
/-! Plain: chains of parents, the nearest one of two chains, and how sweeps come to rest. -/
set_option linter.unusedVariables false
namespace Go.Proofs.Ytnmeomdjhjgnfaa.X

/-- z stands on u's chain. -/
inductive An (par : Nat → Nat) (z : Nat) : Nat → Prop
  | refl : An par z z
  | up {u : Nat} : 0 < u → An par z (par u) → An par z u
/-- Parents stand ahead. -/
def Dn (par : Nat → Nat) : Prop := ∀ u, 0 < u → par u < u
theorem An.le {par : Nat → Nat} (hd : Dn par) {z u : Nat} (h : An par z u) : z ≤ u := by
  induction h with
  | refl => exact Nat.le_refl _
  | up h0 _ ih => have := hd _ h0; omega
theorem An.trans {par : Nat → Nat} {z w u : Nat} (h : An par z w) (k : An par w u) : An par z u := by
  induction k with
  | refl => exact h
  | up h0 _ ih => exact .up h0 ih
theorem An.inv {par : Nat → Nat} {z u : Nat} (h : An par z u) : z = u ∨ (0 < u ∧ An par z (par u)) := by
  cases h with
  | refl => exact .inl rfl
  | up h0 h => exact .inr ⟨h0, h⟩
theorem An.linear {par : Nat → Nat} (hd : Dn par) {z w u : Nat} (h : An par z u) (k : An par w u) (hle : z ≤ w) : An par z w := by
  induction k with
  | refl => exact h
  | @up u h0 k ih =>
    rcases h.inv with rfl | ⟨_, h⟩
    · have h1 := k.le hd
      have h2 := hd _ h0
      omega
    · exact ih h
theorem An.root {par : Nat → Nat} (hd : Dn par) : ∀ (n u : Nat), u ≤ n → An par 0 u
  | 0, u, h => by obtain rfl : u = 0 := by omega
                  exact .refl
  | n + 1, u, h => by
    rcases Nat.eq_zero_or_pos u with rfl | h0
    · exact .refl
    · exact .up h0 (An.root hd n (par u) (by have := hd u h0; omega))
theorem An.of_zero {par : Nat → Nat} (hd : Dn par) {z : Nat} (h : An par z 0) : z = 0 := by have := h.le hd; omega

/-- The nearest one of two chains. -/
def com (par : Nat → Nat) : Nat → Nat → Nat → Nat
  | 0, a, _ => a
  | k + 1, a, b => if b < a then com par k (par a) b else if a < b then com par k a (par b) else a
theorem com_an {par : Nat → Nat} (hd : Dn par) : ∀ (k a b : Nat), a + b < k → ∀ z, An par z (com par k a b) ↔ An par z a ∧ An par z b
  | 0, _, _, h, _ => by omega
  | k + 1, a, b, h, z => by
    rw [com]
    by_cases h1 : b < a
    · have h2 := hd a (by omega)
      rw [if_pos h1, com_an hd k (par a) b (by omega) z]
      constructor
      · exact fun ⟨x, y⟩ => ⟨.up (by omega) x, y⟩
      · rintro ⟨x, y⟩
        rcases x.inv with rfl | ⟨_, x⟩
        · have := y.le hd; omega
        · exact ⟨x, y⟩
    · rw [if_neg h1]
      by_cases h3 : a < b
      · have h2 := hd b (by omega)
        rw [if_pos h3, com_an hd k a (par b) (by omega) z]
        constructor
        · exact fun ⟨x, y⟩ => ⟨x, .up (by omega) y⟩
        · rintro ⟨x, y⟩
          rcases y.inv with rfl | ⟨_, y⟩
          · have := x.le hd; omega
          · exact ⟨x, y⟩
      · rw [if_neg h3]
        obtain rfl : a = b := by omega
        exact ⟨fun x => ⟨x, x⟩, fun x => x.1⟩
theorem com_dom {par : Nat → Nat} (hd : Dn par) {Dm : Nat → Nat → Prop} (hle : ∀ d u, Dm d u → d ≤ u) (d : Nat) : ∀ (k a b : Nat), (∀ u, 0 < u → u ≤ max a b → Dm d u → d ≠ u → Dm d (par u)) → Dm d a → Dm d b → Dm d (com par k a b)
  | 0, _, _, _, ha, _ => ha
  | k + 1, a, b, hB, ha, hb => by
    rw [com]
    by_cases h1 : b < a
    · rw [if_pos h1]
      have h2 := hd a (by omega)
      refine com_dom hd hle d k (par a) b (fun u h0 hu => hB u h0 (by omega)) (hB a (by omega) (by omega) ha (fun e => ?_)) hb
      have := hle d b hb
      omega
    · rw [if_neg h1]
      by_cases h3 : a < b
      · rw [if_pos h3]
        have h2 := hd b (by omega)
        refine com_dom hd hle d k a (par b) (fun u h0 hu => hB u h0 (by omega)) ha (hB b (by omega) (by omega) hb (fun e => ?_))
        have := hle d a ha
        omega
      · rw [if_neg h3]; exact ha
/-- The nearest one of several: of p and those behind it. -/
def nca (par : Nat → Nat) (K p : Nat) (ps : List Nat) : Nat := ps.foldl (com par K) p
theorem com_le {par : Nat → Nat} (hd : Dn par) (K a b : Nat) (h : a + b < K) : com par K a b ≤ a ∧ com par K a b ≤ b := by
  have := (com_an hd K a b h (com par K a b)).1 .refl
  exact ⟨this.1.le hd, this.2.le hd⟩
theorem nca_an {par : Nat → Nat} (hd : Dn par) (m : Nat) : ∀ (ps : List Nat) (p : Nat), p < m → (∀ q ∈ ps, q < m) → ∀ z, An par z (nca par (2 * m) p ps) ↔ An par z p ∧ ∀ q ∈ ps, An par z q
  | [], p, _, _, z => by simp [nca]
  | q :: ps, p, hp, hq, z => by
    have h1 := hq q List.mem_cons_self
    have h2 := com_le hd (2 * m) p q (by omega)
    have ih := nca_an hd m ps (com par (2 * m) p q) (by omega) (fun x hx => hq x (List.mem_cons_of_mem _ hx)) z
    unfold nca at ih ⊢
    rw [List.foldl_cons, ih, com_an hd (2 * m) p q (by omega) z]
    constructor
    · rintro ⟨⟨x, y⟩, h⟩
      refine ⟨x, fun w hw => ?_⟩
      rcases List.mem_cons.1 hw with rfl | hw
      · exact y
      · exact h w hw
    · rintro ⟨x, h⟩
      exact ⟨⟨x, h q List.mem_cons_self⟩, fun w hw => h w (List.mem_cons_of_mem _ hw)⟩
theorem nca_dom {par : Nat → Nat} (hd : Dn par) {Dm : Nat → Nat → Prop} (hle : ∀ d u, Dm d u → d ≤ u) (m i d : Nat) (hi : i ≤ m) (hB : ∀ u, 0 < u → u < i → Dm d u → d ≠ u → Dm d (par u)) : ∀ (ps : List Nat) (p : Nat), p < i → (∀ q ∈ ps, q < i) → Dm d p → (∀ q ∈ ps, Dm d q) → Dm d (nca par (2 * m) p ps)
  | [], p, _, _, h, _ => h
  | q :: ps, p, hp, hq, h, hs => by
    have h1 := hq q List.mem_cons_self
    have h2 := com_le hd (2 * m) p q (by omega)
    have h3 := com_dom hd hle d (2 * m) p q (fun u h0 hu => hB u h0 (by omega)) h (hs q List.mem_cons_self)
    exact nca_dom hd hle m i d hi hB ps (com par (2 * m) p q) (by omega) (fun x hx => hq x (List.mem_cons_of_mem _ hx)) h3 (fun x hx => hs x (List.mem_cons_of_mem _ hx))

/-! ### one parent is turned -/
def upd (par : Nat → Nat) (b v : Nat) : Nat → Nat := fun u => if u = b then v else par u
theorem upd_dn {par : Nat → Nat} (hd : Dn par) {b v : Nat} (hv : v < b) : Dn (upd par b v) := by
  intro u h0
  unfold upd
  split
  · omega
  · exact hd u h0
theorem an_upd_lt {par : Nat → Nat} (hd : Dn par) {b v z : Nat} (hv : v < b) {u : Nat} (hu : u < b) : An (upd par b v) z u ↔ An par z u := by
  constructor
  · intro h
    induction h with
    | refl => exact .refl
    | @up u h0 _ ih =>
      have e : upd par b v u = par u := by unfold upd; rw [if_neg (by omega)]
      rw [e] at ih
      exact .up h0 (ih (by have := hd u h0; omega))
  · intro h
    induction h with
    | refl => exact .refl
    | @up u h0 _ ih =>
      have e : upd par b v u = par u := by unfold upd; rw [if_neg (by omega)]
      exact .up h0 (by rw [e]; exact ih (by have := hd u h0; omega))
theorem an_upd_off {par : Nat → Nat} {b v z u : Nat} (hu : ¬ An par b u) : An (upd par b v) z u ↔ An par z u := by
  constructor
  · intro h
    induction h with
    | refl => exact .refl
    | @up u h0 _ ih =>
      have hb : u ≠ b := fun e => hu (e ▸ .refl)
      have e : upd par b v u = par u := by unfold upd; rw [if_neg hb]
      rw [e] at ih
      exact .up h0 (ih (fun h => hu (.up h0 h)))
  · intro h
    induction h with
    | refl => exact .refl
    | @up u h0 _ ih =>
      have hb : u ≠ b := fun e => hu (e ▸ .refl)
      have e : upd par b v u = par u := by unfold upd; rw [if_neg hb]
      exact .up h0 (by rw [e]; exact ih (fun h => hu (.up h0 h)))
theorem an_upd_at {par : Nat → Nat} (hd : Dn par) {b v z : Nat} (h0 : 0 < b) (hv : v < b) : An (upd par b v) z b ↔ z = b ∨ An par z v := by
  have e : upd par b v b = v := by unfold upd; rw [if_pos rfl]
  constructor
  · intro h
    rcases h.inv with h | ⟨_, h⟩
    · exact .inl h
    · rw [e] at h; exact .inr ((an_upd_lt hd hv hv).1 h)
  · rintro (rfl | h)
    · exact .refl
    · exact .up h0 (by rw [e]; exact (an_upd_lt hd hv hv).2 h)
theorem an_upd_on {par : Nat → Nat} (hd : Dn par) {b v z u : Nat} (h0 : 0 < b) (hv : v < b) (hu : An par b u) : An (upd par b v) z u ↔ (b ≤ z ∧ An par z u) ∨ An par z v := by
  induction hu with
  | refl =>
    rw [an_upd_at hd h0 hv]
    constructor
    · rintro (rfl | h)
      · exact .inl ⟨Nat.le_refl _, .refl⟩
      · exact .inr h
    · rintro (⟨h1, h2⟩ | h)
      · exact .inl (by have := h2.le hd; omega)
      · exact .inr h
  | @up u hu0 hb ih =>
    have hbu : b < u := by have := hb.le hd; have := hd u hu0; omega
    have e : upd par b v u = par u := by unfold upd; rw [if_neg (by omega)]
    constructor
    · intro h
      rcases h.inv with rfl | ⟨_, h⟩
      · exact .inl ⟨by omega, .refl⟩
      · rw [e] at h
        rcases ih.1 h with ⟨h1, h2⟩ | h
        · exact .inl ⟨h1, .up hu0 h2⟩
        · exact .inr h
    · rintro (⟨h1, h2⟩ | h)
      · rcases h2.inv with rfl | ⟨_, h2⟩
        · exact .refl
        · exact .up hu0 (by rw [e]; exact ih.2 (.inl ⟨h1, h2⟩))
      · exact .up hu0 (by rw [e]; exact ih.2 (.inr h))
/-- Where the new parent stands on the old one's chain, chains only lose. -/
theorem an_upd_le {par : Nat → Nat} (hd : Dn par) {b v z u : Nat} (h0 : 0 < b) (hv : An par v (par b)) (h : An (upd par b v) z u) : An par z u := by
  have hvb : v < b := by have := hv.le hd; have := hd b h0; omega
  by_cases hu : An par b u
  · rcases (an_upd_on hd h0 hvb hu).1 h with ⟨_, h⟩ | h
    · exact h
    · exact (h.trans hv).trans ((An.up h0 .refl : An par (par b) b).trans hu)
  · exact (an_upd_off hu).1 h
end Go.Proofs.Ytnmeomdjhjgnfaa.X
namespace Go.Proofs.Ytnmeomdjhjgnfaa.X
/-! ### sweeps -/
/-- m blocks by their places in the order; P: the places from which each one comes; Dm: who dominates. -/
structure Gr (m : Nat) (P : Nat → List Nat) (Dm : Nat → Nat → Prop) : Prop where
  inb : ∀ u, u < m → ∀ p ∈ P u, p < m
  fwd : ∀ u, 0 < u → u < m → ∃ s, s ∈ P u ∧ s < u
  dle : ∀ d u, Dm d u → d ≤ u
  dstep : ∀ d u, 0 < u → u < m → Dm d u → d ≠ u → ∀ p ∈ P u, Dm d p
/-- What holds while a later sweep goes, the places below i done. -/
structure Swp (m : Nat) (P : Nat → List Nat) (Dm : Nat → Nat → Prop) (i : Nat) (par : Nat → Nat) : Prop where
  dn : Dn par
  dom : ∀ u, 0 < u → u < m → ∀ d, Dm d u → d ≠ u → Dm d (par u)
  low : ∀ u, 0 < u → u < m → ∀ z, (∀ p ∈ P u, An par z p) → z ≤ par u
  old : ∀ u, 0 < u → u < m → ∃ s, s ∈ P u ∧ s < u ∧ ((u < i → An par (par u) s) ∧ (An par (par u) s ∨ (par u < i ∧ ∀ z, An par z s → z ≤ par u → An par z (par u))))
theorem Swp.step {m : Nat} {P : Nat → List Nat} {Dm : Nat → Nat → Prop} (G : Gr m P Dm) {i : Nat} {par : Nat → Nat} (h : Swp m P Dm i par) (h0 : 0 < i) (hm : i < m) {p : Nat} {ps : List Nat} (hP : P i = p :: ps) :
    nca par (2 * m) p ps ≤ par i ∧ Swp m P Dm (i + 1) (upd par i (nca par (2 * m) p ps)) := by
  obtain ⟨v, hv⟩ : ∃ v, nca par (2 * m) p ps = v := ⟨_, rfl⟩
  have hp : p < m := G.inb i hm p (by rw [hP]; exact List.mem_cons_self)
  have hps : ∀ q ∈ ps, q < m := fun q hq => G.inb i hm q (by rw [hP]; exact List.mem_cons_of_mem _ hq)
  have hvA : ∀ z, An par z v ↔ ∀ q ∈ P i, An par z q := by
    intro z
    rw [← hv, nca_an h.dn m ps p hp hps z, hP]
    simp
  have hvv := (hvA v).1 .refl
  rw [hv]
  have hlow : v ≤ par i := h.low i h0 hm v hvv
  have hvi : v < i := by have := h.dn i h0; omega
  have hvp : An par v (par i) := by
    obtain ⟨s, hs, _, _, ho⟩ := h.old i h0 hm
    rcases ho with ho | ⟨_, ho⟩
    · exact (hvv s hs).linear h.dn ho hlow
    · exact ho v (hvv s hs) hlow
  have hle : ∀ {z u}, An (upd par i v) z u → An par z u := fun hz => an_upd_le h.dn h0 hvp hz
  have e : ∀ u, u ≠ i → upd par i v u = par u := fun u hu => by unfold upd; rw [if_neg hu]
  have ei : upd par i v i = v := by unfold upd; rw [if_pos rfl]
  refine ⟨hlow, upd_dn h.dn hvi, fun u hu0 hum d hd hne => ?_, fun u hu0 hum z hz => ?_, fun u hu0 hum => ?_⟩
  · by_cases hu : u = i
    · subst hu
      rw [ei, ← hv]
      exact nca_dom h.dn G.dle m m d (Nat.le_refl _) (fun u h0 hm hd hne => h.dom u h0 hm d hd hne) ps p hp hps (G.dstep d u h0 hm hd hne p (by rw [hP]; exact List.mem_cons_self)) (fun q hq => G.dstep d u h0 hm hd hne q (by rw [hP]; exact List.mem_cons_of_mem _ hq))
    · rw [e u hu]; exact h.dom u hu0 hum d hd hne
  · by_cases hu : u = i
    · subst hu
      rw [ei]
      exact ((hvA z).2 (fun q hq => hle (hz q hq))).le h.dn
    · rw [e u hu]; exact h.low u hu0 hum z (fun q hq => hle (hz q hq))
  · obtain ⟨s, hs, hsu, ho1, ho2⟩ := h.old u hu0 hum
    rcases Nat.lt_trichotomy u i with hu | hu | hu
    · have h1 : An (upd par i v) (par u) s := (an_upd_lt h.dn hvi (by omega)).2 (ho1 hu)
      rw [e u (by omega)]
      exact ⟨s, hs, hsu, fun _ => h1, .inl h1⟩
    · subst hu
      rw [ei]
      have h1 : An (upd par u v) v s := (an_upd_lt h.dn hvi hsu).2 (hvv s hs)
      exact ⟨s, hs, hsu, fun _ => h1, .inl h1⟩
    · rw [e u (by omega)]
      refine ⟨s, hs, hsu, fun hlt => by omega, ?_⟩
      rcases ho2 with ho | ⟨ho, hq⟩
      · by_cases hb : An par i s
        · by_cases hge : i ≤ par u
          · exact .inl ((an_upd_on h.dn h0 hvi hb).2 (.inl ⟨hge, ho⟩))
          · refine .inr ⟨by omega, fun z hz hzo => ?_⟩
            have hzv : An par z v := by
              rcases (an_upd_on h.dn h0 hvi hb).1 hz with ⟨h1, _⟩ | h1
              · omega
              · exact h1
            have hoi : An par (par u) i := ho.linear h.dn hb (by omega)
            have hop : An par (par u) (par i) := by
              rcases hoi.inv with h1 | ⟨_, h1⟩
              · omega
              · exact h1
            have h1 : An par z (par u) := (hzv.trans hvp).linear h.dn hop hzo
            exact (an_upd_lt h.dn hvi (by omega)).2 h1
        · exact .inl ((an_upd_off hb).2 ho)
      · exact .inr ⟨by omega, fun z hz hzo => (an_upd_lt h.dn hvi ho).2 (hq z (hle hz) hzo)⟩
/-- A sweep's end is the next one's start. -/
theorem Swp.again {m : Nat} {P : Nat → List Nat} {Dm : Nat → Nat → Prop} {par : Nat → Nat} (h : Swp m P Dm m par) : Swp m P Dm 1 par :=
  ⟨h.dn, h.dom, h.low, fun u h0 hm => by
    obtain ⟨s, hs, hsu, h1, _⟩ := h.old u h0 hm
    exact ⟨s, hs, hsu, fun hlt => by omega, .inl (h1 hm)⟩⟩
/-- What holds while the first sweep goes. -/
structure Fst (m : Nat) (P : Nat → List Nat) (Dm : Nat → Nat → Prop) (i : Nat) (par : Nat → Nat) : Prop where
  dn : Dn par
  dom : ∀ u, 0 < u → u < i → ∀ d, Dm d u → d ≠ u → Dm d (par u)
  low : ∀ u, 0 < u → u < i → ∀ z, (∀ p ∈ P u, p < u → An par z p) → z ≤ par u
  old : ∀ u, 0 < u → u < i → ∃ s, s ∈ P u ∧ s < u ∧ An par (par u) s
theorem Fst.start (m : Nat) (P : Nat → List Nat) (Dm : Nat → Nat → Prop) : Fst m P Dm 1 (fun _ => 0) :=
  ⟨fun u h => h, fun u h0 h1 => by omega, fun u h0 h1 => by omega, fun u h0 h1 => by omega⟩
theorem Fst.step {m : Nat} {P : Nat → List Nat} {Dm : Nat → Nat → Prop} (G : Gr m P Dm) {i : Nat} {par : Nat → Nat} (h : Fst m P Dm i par) (h0 : 0 < i) (hm : i < m) {p : Nat} {ps : List Nat} (hP : (P i).filter (fun q => decide (q < i)) = p :: ps) :
    Fst m P Dm (i + 1) (upd par i (nca par (2 * m) p ps)) := by
  obtain ⟨v, hv⟩ : ∃ v, nca par (2 * m) p ps = v := ⟨_, rfl⟩
  have hmem : ∀ q, q ∈ p :: ps ↔ q ∈ P i ∧ q < i := fun q => by rw [← hP, List.mem_filter]; simp
  have hp : p ∈ P i ∧ p < i := (hmem p).1 List.mem_cons_self
  have hps : ∀ q ∈ ps, q ∈ P i ∧ q < i := fun q hq => (hmem q).1 (List.mem_cons_of_mem _ hq)
  have hvA : ∀ z, An par z v ↔ ∀ q ∈ P i, q < i → An par z q := by
    intro z
    rw [← hv, nca_an h.dn m ps p (by omega) (fun q hq => by have := (hps q hq).2; omega) z]
    constructor
    · rintro ⟨h1, h2⟩ q hq hlt
      rcases List.mem_cons.1 ((hmem q).2 ⟨hq, hlt⟩) with rfl | hq
      · exact h1
      · exact h2 q hq
    · exact fun hh => ⟨hh p hp.1 hp.2, fun q hq => hh q (hps q hq).1 (hps q hq).2⟩
  have hvv := (hvA v).1 .refl
  have hvi : v < i := by have := (hvv p hp.1 hp.2).le h.dn; omega
  have e : ∀ u, u ≠ i → upd par i v u = par u := fun u hu => by unfold upd; rw [if_neg hu]
  have ei : upd par i v i = v := by unfold upd; rw [if_pos rfl]
  rw [hv]
  refine ⟨upd_dn h.dn hvi, fun u hu0 hum d hd hne => ?_, fun u hu0 hum z hz => ?_, fun u hu0 hum => ?_⟩
  · by_cases hu : u = i
    · subst hu
      rw [ei, ← hv]
      exact nca_dom h.dn G.dle m u d (by omega) (fun u' h0 hm' hd hne => h.dom u' h0 hm' d hd hne) ps p hp.2 (fun q hq => (hps q hq).2) (G.dstep d u h0 hm hd hne p hp.1) (fun q hq => G.dstep d u h0 hm hd hne q (hps q hq).1)
    · rw [e u hu]; exact h.dom u hu0 (by omega) d hd hne
  · by_cases hu : u = i
    · subst hu
      rw [ei]
      exact ((hvA z).2 (fun q hq hlt => (an_upd_lt h.dn hvi hlt).1 (hz q hq hlt))).le h.dn
    · rw [e u hu]; exact h.low u hu0 (by omega) z (fun q hq hlt => (an_upd_lt h.dn hvi (by omega)).1 (hz q hq hlt))
  · by_cases hu : u = i
    · subst hu
      obtain ⟨s, hs, hsu⟩ := G.fwd u h0 hm
      rw [ei]
      exact ⟨s, hs, hsu, (an_upd_lt h.dn hvi hsu).2 (hvv s hs hsu)⟩
    · obtain ⟨s, hs, hsu, h1⟩ := h.old u hu0 (by omega)
      rw [e u hu]
      exact ⟨s, hs, hsu, (an_upd_lt h.dn hvi (by omega)).2 h1⟩
theorem Fst.swp {m : Nat} {P : Nat → List Nat} {Dm : Nat → Nat → Prop} {par : Nat → Nat} (h : Fst m P Dm m par) : Swp m P Dm 1 par :=
  ⟨h.dn, h.dom, fun u h0 hm z hz => h.low u h0 hm z (fun p hp _ => hz p hp), fun u h0 hm => by
    obtain ⟨s, hs, hsu, h1⟩ := h.old u h0 hm
    exact ⟨s, hs, hsu, fun hlt => by omega, .inl h1⟩⟩
/-- At rest the chains are who dominates. -/
theorem Swp.sound {m : Nat} {P : Nat → List Nat} {Dm : Nat → Nat → Prop} {i : Nat} {par : Nat → Nat} (h : Swp m P Dm i par) (hr : ∀ d, Dm d d) : ∀ (n u : Nat), u ≤ n → u < m → ∀ d, Dm d u → (∀ d u, Dm d u → d ≤ u) → An par d u
  | 0, u, hn, _, d, hd, hle => by
    have h1 := hle d u hd
    obtain rfl : d = u := by omega
    exact .refl
  | n + 1, u, hn, hm, d, hd, hle => by
    by_cases hne : d = u
    · subst hne; exact .refl
    · have h1 := hle d u hd
      have h2 := h.dn u (by omega)
      exact .up (by omega) (h.sound hr n (par u) (by omega) (by omega) d (h.dom u (by omega) hm d hd hne) hle)
end Go.Proofs.Ytnmeomdjhjgnfaa.X
end
section
/-! Plain: edges, Preds' rows, what Made makes. -/
set_option linter.unusedSimpArgs false
set_option linter.unusedVariables false
namespace Go.Proofs.Ytnmeomdjhjgnfaa.X
open Go.RowKit Go.Proofs.YtnmeomdjhjgnfaaW.PrintWords Go.Proofs.YtnmeomdjhjgnfaaW.PrintLast Go.Proofs.YtnmeomdjhjgnfaaW.PrintMore

/-- More rounds tell the same. -/
theorem up {α : Type} {f : Nat → Option α} (h : ∀ k, LeO (f k) (f (k + 1))) {k m : Nat} (hm : k ≤ m) {r : α} (hr : f k = some r) : f m = some r := by
  obtain ⟨d, rfl⟩ := Nat.exists_eq_add_of_le hm
  clear hm
  induction d with
  | zero => exact hr
  | succ d ih => exact h (k + d) r ih
theorem w64 {x : Int} (h0 : -9223372036854775808 ≤ x) (h1 : x ≤ 9223372036854775807) : wrap64 x = x := by unfold wrap64; omega

/-! ### an edge -/
def eB (g : List (List Int)) (a b : Int) : Bool := decide (0 ≤ a ∧ a < g.length ∧ 0 ≤ b ∧ b < g.length) && (rd_L1 g a).contains b
theorem edge_l0 (g : List (List Int)) (a b : Int) (ha : 0 ≤ a ∧ a < g.length) (hl : (rd_L1 g a).length ≤ 1000000) : ∀ (d : Nat) (i : Nat), i + d = (rd_L1 g a).length →
    jacquardref02_Edge.l0 (d + 1) g a b i = some (((rd_L1 g a).drop i).contains b) := by
  intro d
  induction d with
  | zero =>
    intro i hi
    rw [jacquardref02_Edge.l0, if_pos ha.1, if_pos ha.2, if_neg (by omega), List.drop_of_length_le (by omega)]
    rfl
  | succ d ih =>
    intro i hi
    have hlt : i < (rd_L1 g a).length := by omega
    have hrd : rd (rd_L1 g a) i = (rd_L1 g a)[i] := by simp [rd, hlt]
    rw [jacquardref02_Edge.l0, if_pos ha.1, if_pos ha.2, if_pos (by omega), if_pos (by omega), hrd, List.drop_eq_getElem_cons hlt]
    by_cases he : (rd_L1 g a)[i] = b
    · rw [if_pos he]; simp [he]
    · rw [if_neg he, w64 (by omega) (by omega), show ((i : Int) + 1) = ((i + 1 : Nat) : Int) from by omega, ih (i + 1) (by omega)]
      have : (b == (rd_L1 g a)[i]) = false := by simpa using fun h : b = _ => he h.symm
      rw [List.contains_cons, this, Bool.false_or]
theorem edge_some (g : List (List Int)) (hg : okG g = true) (a b : Int) {k : Nat} (hk : 1000003 ≤ k) : jacquardref02_Edge.f k g a b = some (eB g a b) := by
  obtain ⟨k, rfl⟩ := Nat.exists_eq_add_of_le hk
  have e : 1000003 + k = (1000002 + k) + 1 := by omega
  unfold jacquardref02_Edge.f
  rw [e]
  have no : ∀ {x : Bool}, x = true → (¬ (0 ≤ a ∧ a < (g.length : Int) ∧ 0 ≤ b ∧ b < (g.length : Int))) → jacquardref02_Edge.j0 (1000002 + k + 1) g a b x = some (eB g a b) := by
    intro x hx hn
    rw [jacquardref02_Edge.j0, if_pos hx]
    unfold eB
    rw [decide_eq_false hn, Bool.false_and]
  by_cases h0 : a < 0
  · rw [if_pos h0]; exact no rfl (by omega)
  · rw [if_neg h0]
    by_cases h1 : a ≥ (g.length : Int)
    · rw [if_pos h1]; exact no rfl (by omega)
    · rw [if_neg h1]
      by_cases h2 : b < 0
      · rw [if_pos h2]; exact no rfl (by omega)
      · rw [if_neg h2]
        by_cases h3 : b ≥ (g.length : Int)
        · exact no (decide_eq_true h3) (by omega)
        · rw [decide_eq_false h3, jacquardref02_Edge.j0, if_neg (by decide)]
          have hl : (rd_L1 g a).length ≤ 1000000 := by
            have : rd_L1 g a = g[a.toNat]'(by omega) := by
              unfold rd_L1
              rw [List.getD_eq_getElem?_getD, List.getElem?_eq_getElem (by omega)]; rfl
            rw [this]
            exact (okG_len hg).2 _ (List.getElem_mem _)
          have h := edge_l0 g a b (by omega) hl (rd_L1 g a).length 0 (by omega)
          have h2 := up (f := fun k => jacquardref02_Edge.l0 k g a b ((0 : Nat) : Int)) (fun k => (jacquardref02_Edge.mono_l k).2 _ _ _ _) (m := 1000002 + k) (by omega) h
          have h3 : jacquardref02_Edge.l0 (1000002 + k) g a b 0 = some (((rd_L1 g a).drop 0).contains b) := h2
          rw [h3]
          unfold eB
          rw [decide_eq_true (by omega), Bool.true_and, List.drop_zero]
theorem eB_iff {g : List (List Int)} {a b : Int} : eB g a b = true ↔ 0 ≤ a ∧ a < g.length ∧ 0 ≤ b ∧ b < g.length ∧ b ∈ rd_L1 g a := by
  unfold eB
  rw [Bool.and_eq_true, decide_eq_true_eq, List.contains_iff_mem]
  constructor
  · rintro ⟨⟨h1, h2, h3, h4⟩, h5⟩; exact ⟨h1, h2, h3, h4, h5⟩
  · rintro ⟨h1, h2, h3, h4, h5⟩; exact ⟨⟨h1, h2, h3, h4⟩, h5⟩
theorem eB_eq {g g' : List (List Int)} {a b a' b' : Int} (h : eB g a b = true ↔ eB g' a' b' = true) : eB g a b = eB g' a' b' := by
  rw [Bool.eq_iff_iff]; exact h

/-! ### the edges' list -/
theorem mem_edgesFrom (rows : List (List Int)) : ∀ (i : Nat) (e : Int × Int), e ∈ edgesFrom i rows ↔ ∃ j : Nat, j < rows.length ∧ e.1 = ((i + j : Nat) : Int) ∧ e.2 ∈ rd_L1 rows j := by
  induction rows with
  | nil => intro i e; simp [edgesFrom]
  | cons r rows ih =>
    intro i e
    simp only [edgesFrom, List.mem_append, List.mem_map, ih, List.length_cons]
    constructor
    · rintro (⟨b, hb, rfl⟩ | ⟨j, hj, h1, h2⟩)
      · exact ⟨0, by omega, by simp, by simpa [rd_L1] using hb⟩
      · refine ⟨j + 1, by omega, by omega, ?_⟩
        simpa [rd_L1] using h2
    · rintro ⟨j, hj, h1, h2⟩
      cases j with
      | zero => exact .inl ⟨e.2, by simpa [rd_L1] using h2, by rw [Prod.ext_iff]; exact ⟨by simpa using h1.symm, rfl⟩⟩
      | succ j => exact .inr ⟨j, by omega, by omega, by simpa [rd_L1] using h2⟩
theorem rd_clean (g : List (List Int)) (j : Nat) (h : j < g.length) : rd_L1 (cleanL g) j = keptL (rd_L1 g j) g.length := by
  simp [rd_L1, cleanL, h]
theorem mem_edgesL (g : List (List Int)) (a b : Int) : (a, b) ∈ edgesL g ↔ eB g a b = true := by
  unfold edgesL
  rw [mem_edgesFrom, eB_iff]
  constructor
  · rintro ⟨j, hj, h1, h2⟩
    rw [cleanL_length] at hj
    rw [rd_clean g j hj, mem_keptL] at h2
    simp only [Nat.zero_add] at h1
    subst h1
    exact ⟨by omega, by omega, h2.2.1, h2.2.2, h2.1⟩
  · rintro ⟨h1, h2, h3, h4, h5⟩
    obtain ⟨j, rfl⟩ := Int.eq_ofNat_of_zero_le h1
    refine ⟨j, by rw [cleanL_length]; omega, by simp, ?_⟩
    rw [rd_clean g j (by omega), mem_keptL]
    exact ⟨h5, h3, h4⟩

/-! ### Preds' rows -/
theorem preds_row (es : List (Int × Int)) : ∀ (rows : List (List Int)) (b : Nat), b < rows.length → (∀ e ∈ es, 0 ≤ e.2) →
    (es.foldl predStep rows).getD b [] = rows.getD b [] ++ (es.filter fun e => e.2 == (b : Int)).map (·.1) := by
  induction es with
  | nil => intro rows b _ _; simp
  | cons e es ih =>
    intro rows b hb he
    rw [List.foldl_cons, ih _ b (by simpa [predStep] using hb) (fun e' h => he e' (List.mem_cons_of_mem _ h))]
    have h0 := he e List.mem_cons_self
    by_cases h : e.2 = b
    · have h2 : e.2.toNat = b := by omega
      simp only [predStep, List.filter_cons, h, beq_self_eq_true, if_true, List.map_cons, Int.toNat_natCast]
      rw [List.getD_eq_getElem?_getD, List.getElem?_set_self (by omega)]
      simp
    · have h2 : e.2.toNat ≠ b := by omega
      have h3 : (e.2 == (b : Int)) = false := by simpa using h
      simp only [predStep, List.filter_cons, h3]
      rw [List.getD_eq_getElem?_getD, List.getElem?_set_ne (by omega), ← List.getD_eq_getElem?_getD]
      simp
theorem rd_preds (g : List (List Int)) (b : Nat) (hb : b < g.length) : rd_L1 (predsL g) b = ((edgesL g).filter fun e => e.2 == (b : Int)).map (·.1) := by
  have := preds_row (edgesL g) (List.replicate g.length []) b (by simpa using hb) (fun e he => ((eB_iff.1 ((mem_edgesL g e.1 e.2).1 he)).2.2.1))
  unfold rd_L1 predsL
  rw [Int.toNat_natCast, this]
  simp [List.getD_eq_getElem?_getD, List.getElem?_replicate, hb]
theorem predsL_len (g : List (List Int)) : (predsL g).length = g.length := by
  have key : ∀ (es : List (Int × Int)) (rows : List (List Int)), (es.foldl predStep rows).length = rows.length := by
    intro es
    induction es with
    | nil => intro rows; rfl
    | cons e es ih => intro rows; rw [List.foldl_cons, ih]; simp [predStep]
  unfold predsL; rw [key]; simp
theorem mem_preds (g : List (List Int)) (a b : Int) (hb : 0 ≤ b ∧ b < g.length) : a ∈ rd_L1 (predsL g) b ↔ eB g a b = true := by
  obtain ⟨j, rfl⟩ := Int.eq_ofNat_of_zero_le hb.1
  rw [rd_preds g j (by omega), List.mem_map, ← mem_edgesL]
  constructor
  · rintro ⟨e, he, rfl⟩
    obtain ⟨h1, h2⟩ := List.mem_filter.1 he
    have h3 : e.2 = (j : Int) := by simpa using h2
    rw [← h3]; exact h1
  · intro h
    exact ⟨(a, (j : Int)), List.mem_filter.2 ⟨h, by simp⟩, rfl⟩
theorem eB_preds (g : List (List Int)) (a b : Int) : eB (predsL g) b a = eB g a b := by
  refine eB_eq ?_
  rw [eB_iff, predsL_len]
  constructor
  · rintro ⟨h1, h2, h3, h4, h5⟩
    exact (mem_preds g a b ⟨h1, h2⟩).1 h5
  · intro h
    obtain ⟨h1, h2, h3, h4, _⟩ := eB_iff.1 h
    exact ⟨h3, h4, h1, h2, (mem_preds g a b ⟨h3, h4⟩).2 h⟩
theorem okG_preds (g : List (List Int)) (hn : g.length ≤ 1000) : okG (predsL g) = true := by
  unfold okG
  rw [predsL_len, Bool.and_eq_true, decide_eq_true_eq, List.all_eq_true]
  refine ⟨by omega, fun r hr => decide_eq_true ?_⟩
  have h1 := preds_len (edgesL g) (List.replicate g.length []) 0 (fun r hr => by rw [List.eq_of_mem_replicate hr]; simp) r (.inr hr)
  have h2 := edgesL_length g
  have h3 : g.length * g.length ≤ 1000 * 1000 := Nat.mul_le_mul hn hn
  omega
theorem Preds_some (g : List (List Int)) (hg : okG g = true) : graph_Preds.f g = some (predsL g) := by unfold graph_Preds.f; rw [if_pos hg]

/-! ### a graph of plain numbers -/
structure MadeG (g : List (List Int)) : Prop where
  pos : 1 ≤ g.length
  few : g.length ≤ 10
  rows : ∀ r ∈ g, r.length ≤ 3 ∧ ∀ b ∈ r, 0 ≤ b ∧ b < g.length
theorem MadeG.ok {g : List (List Int)} (h : MadeG g) : okG g = true := by
  unfold okG
  rw [Bool.and_eq_true, decide_eq_true_eq, List.all_eq_true]
  exact ⟨by have := h.few; omega, fun r hr => decide_eq_true (by have := (h.rows r hr).1; omega)⟩
theorem made_l1 (s : List Int) (n : Int) (hs : s.length ≤ 17592186044416) (h1 : 1 ≤ n) (h2 : n ≤ 10) (x4 : List (List Int)) (x5 : Int) (h5 : 0 ≤ x5 ∧ x5 < n) (hx4 : x4.length ≤ 10) (P : List (List Int) → Prop)
    (H : ∀ row : List Int, row.length ≤ 3 → (∀ b ∈ row, 0 ≤ b ∧ b < n) → ∃ k r, jacquardref02_Made.l0 k s n (x4 ++ [row]) (x5 + 1) = some r ∧ P r) :
    ∀ (e : Nat) (x6 : List Int) (x7 : Int), 0 ≤ x7 → x7 + e = 4 → x6.length + 1 ≤ x7 → (∀ b ∈ x6, 0 ≤ b ∧ b < n) → ∃ k r, jacquardref02_Made.l1 k s n x4 x5 x6 x7 = some r ∧ P r := by
  intro e
  induction e with
  | zero =>
    intro x6 x7 h7 he hl hb
    obtain ⟨k, r, hr, hP⟩ := H x6 (by omega) hb
    refine ⟨k + 1, r, ?_, hP⟩
    rw [jacquardref02_Made.l1, if_neg (by omega), if_pos (by omega), w64 (by omega) (by omega)]
    exact hr
  | succ e ih =>
    intro x6 x7 h7 he hl hb
    have e1 : wrap64 (wrap64 (3 * x5) + x7) = 3 * x5 + x7 := by rw [w64 (x := 3 * x5) (by omega) (by omega), w64 (by omega) (by omega)]
    have e2 : wrap64 (n + 3) = n + 3 := w64 (by omega) (by omega)
    have e3 : wrap64 (x7 + 1) = x7 + 1 := w64 (by omega) (by omega)
    by_cases ha : 3 * x5 + x7 < (s.length : Int)
    · have hm1 := Int.tmod_lt_of_pos (rd s (3 * x5 + x7)) (show 0 < n + 3 by omega)
      have hm2 := Int.lt_tmod_of_pos (rd s (3 * x5 + x7)) (show 0 < n + 3 by omega)
      have e4 : wrap64 (Int.tmod (rd s (3 * x5 + x7)) (n + 3) + n) = Int.tmod (rd s (3 * x5 + x7)) (n + 3) + n := w64 (by omega) (by omega)
      have e5 : wrap64 (Int.tmod (rd s (3 * x5 + x7)) (n + 3) + n + 3) = Int.tmod (rd s (3 * x5 + x7)) (n + 3) + n + 3 := w64 (by omega) (by omega)
      have hy0 : 0 ≤ Int.tmod (Int.tmod (rd s (3 * x5 + x7)) (n + 3) + n + 3) (n + 3) := Int.tmod_nonneg _ (by omega)
      by_cases hy : Int.tmod (Int.tmod (rd s (3 * x5 + x7)) (n + 3) + n + 3) (n + 3) < n
      · obtain ⟨k, r, hr, hP⟩ := ih (x6 ++ [Int.tmod (Int.tmod (rd s (3 * x5 + x7)) (n + 3) + n + 3) (n + 3)]) (x7 + 1) (by omega) (by omega) (by rw [List.length_append]; simp; omega) (fun b hb' => by
          rcases List.mem_append.1 hb' with h | h
          · exact hb b h
          · rw [List.mem_singleton.1 h]; exact ⟨hy0, hy⟩)
        refine ⟨k + 1, r, ?_, hP⟩
        rw [jacquardref02_Made.l1, if_pos (by omega), e1, e2, if_pos ha, if_pos (by omega), if_neg (by omega), e4, e5, if_pos hy, if_pos (by omega), e3]
        exact hr
      · obtain ⟨k, r, hr, hP⟩ := ih x6 (x7 + 1) (by omega) (by omega) (by omega) hb
        refine ⟨k + 1, r, ?_, hP⟩
        rw [jacquardref02_Made.l1, if_pos (by omega), e1, e2, if_pos ha, if_pos (by omega), if_neg (by omega), e4, e5, if_neg hy, e3]
        exact hr
    · obtain ⟨k, r, hr, hP⟩ := ih x6 (x7 + 1) (by omega) (by omega) (by omega) hb
      refine ⟨k + 1, r, ?_, hP⟩
      rw [jacquardref02_Made.l1, if_pos (by omega), e1, if_neg ha, e3]
      exact hr
theorem made_l0 (s : List Int) (n : Int) (hs : s.length ≤ 17592186044416) (h1 : 1 ≤ n) (h2 : n ≤ 10) : ∀ (d : Nat) (x4 : List (List Int)) (x5 : Int), x5 + d = n → (x4.length : Int) = x5 → (∀ r ∈ x4, r.length ≤ 3 ∧ ∀ b ∈ r, 0 ≤ b ∧ b < n) →
    ∃ k r, jacquardref02_Made.l0 k s n x4 x5 = some r ∧ (r.length : Int) = n ∧ ∀ row ∈ r, row.length ≤ 3 ∧ ∀ b ∈ row, 0 ≤ b ∧ b < n := by
  intro d
  induction d with
  | zero =>
    intro x4 x5 h h4 hr
    exact ⟨1, x4, by rw [jacquardref02_Made.l0, if_neg (by omega)], by omega, hr⟩
  | succ d ih =>
    intro x4 x5 h h4 hr
    obtain ⟨k, r, hk, hP⟩ := made_l1 s n hs h1 h2 x4 x5 (by omega) (by omega) (fun r => (r.length : Int) = n ∧ ∀ row ∈ r, row.length ≤ 3 ∧ ∀ b ∈ row, 0 ≤ b ∧ b < n) (fun row hl hb =>
      ih (x4 ++ [row]) (x5 + 1) (by omega) (by rw [List.length_append]; simp; omega) (fun r' hr' => by
        rcases List.mem_append.1 hr' with h | h
        · exact hr r' h
        · rw [List.mem_singleton.1 h]; exact ⟨hl, hb⟩)) 3 [] 1 (by omega) (by omega) (by simp) (fun b hb => by cases hb)
    exact ⟨k + 1, r, by rw [jacquardref02_Made.l0, if_pos (by omega)]; exact hk, hP⟩
theorem made_some (s : List Int) (hs : s.length * 8 ≤ 140737488351232) : ∃ k g, jacquardref02_Made.f k s = some g ∧ MadeG g := by
  have key : ∀ n : Int, 1 ≤ n → n ≤ 10 → ∃ k g, jacquardref02_Made.j0 k s n = some g ∧ MadeG g := by
    intro n h1 h2
    obtain ⟨k, r, hk, hl, hr⟩ := made_l0 s n (by omega) h1 h2 n.toNat [] 0 (by omega) rfl (fun r hr => by cases hr)
    exact ⟨k + 1, r, by rw [jacquardref02_Made.j0]; exact hk, ⟨by omega, by omega, fun row h => by rw [hl]; exact hr row h⟩⟩
  by_cases h : (s.length : Int) > 0
  · have hm1 := Int.tmod_lt_of_pos (rd s 0) (show (0 : Int) < 10 by omega)
    have hm2 := Int.lt_tmod_of_pos (rd s 0) (show (0 : Int) < 10 by omega)
    have e4 : wrap64 (Int.tmod (rd s 0) 10 + 10) = Int.tmod (rd s 0) 10 + 10 := w64 (by omega) (by omega)
    have hy0 : 0 ≤ Int.tmod (Int.tmod (rd s 0) 10 + 10) 10 := Int.tmod_nonneg _ (by omega)
    have hy1 := Int.tmod_lt_of_pos (Int.tmod (rd s 0) 10 + 10) (show (0 : Int) < 10 by omega)
    obtain ⟨k, g, hk, hg⟩ := key (wrap64 (1 + Int.tmod (Int.tmod (rd s 0) 10 + 10) 10)) (by rw [w64 (by omega) (by omega)]; omega) (by rw [w64 (by omega) (by omega)]; omega)
    refine ⟨k, g, ?_, hg⟩
    unfold jacquardref02_Made.f
    rw [if_pos h, if_pos (by omega), e4]
    exact hk
  · obtain ⟨k, g, hk, hg⟩ := key 1 (by omega) (by omega)
    refine ⟨k, g, ?_, hg⟩
    unfold jacquardref02_Made.f
    rw [if_neg h]
    exact hk
end Go.Proofs.Ytnmeomdjhjgnfaa.X
end
section
/-! Plain: graph.Idom's loops over places. -/
set_option linter.unusedVariables false
set_option linter.unusedSimpArgs false
namespace Go.Proofs.Ytnmeomdjhjgnfaa.X
open Go.RowKit Go.Proofs.YtnmeomdjhjgnfaaW.PrintWords Go.Proofs.YtnmeomdjhjgnfaaW.PrintLast Go.Proofs.YtnmeomdjhjgnfaaW.PrintMore

/-- The numbers of the blocks. -/
structure Nm (o : List Int) (n : Nat) (num : List Int) : Prop where
  len : num.length = n
  on : ∀ i, i < o.length → rd num (at_ o i) = i
  off : ∀ x, 0 ≤ x → x < (n : Int) → x ∉ o → rd num x = -1
/-- What the list of parents holds when the places below i have one. -/
structure Ot (o : List Int) (n i : Nat) (par : Nat → Nat) (out : List Int) : Prop where
  len : out.length = n
  on : ∀ j, 0 < j → j < i → rd out (at_ o j) = at_ o (par j)
  root : rd out 0 = -1
  not : ∀ j, i ≤ j → j < o.length → rd out (at_ o j) = -1
  off : ∀ x, 0 ≤ x → x < (n : Int) → x ∉ o → rd out x = -1

theorem chk_common {o : List Int} {n i : Nat} {par : Nat → Nat} {out num : List Int} (hr : ∀ x ∈ o, 0 ≤ x ∧ x < (n : Int)) (hi : i ≤ o.length) (hN : Nm o n num) (hO : Ot o n i par out) (hd : Dn par) : ∀ (K a b : Nat), a < i → b < i → a + b < K →
    graph_common.f K out num (at_ o a) (at_ o b) = some (at_ o (com par K a b))
  | 0, a, b, _, _, h => by omega
  | K + 1, a, b, ha, hb, h => by
    have h1 := hr _ (at_mem (show a < o.length by omega))
    have h2 := hr _ (at_mem (show b < o.length by omega))
    have hl := hN.len
    have hl2 := hO.len
    rw [graph_common.f, if_pos (by omega), hN.on a (by omega), hN.on b (by omega), com]
    by_cases hba : b < a
    · have h3 := hd a (by omega)
      rw [if_pos (by omega), if_pos (by omega), if_pos hba, hO.on a (by omega) ha]
      exact chk_common hr hi hN hO hd K (par a) b (by omega) hb (by omega)
    · rw [if_neg (by omega), if_neg hba]
      by_cases hab : a < b
      · have h3 := hd b (by omega)
        rw [if_pos (by omega), if_pos (by omega), if_pos hab, hO.on b (by omega) hb]
        exact chk_common hr hi hN hO hd K a (par b) ha (by omega) (by omega)
      · rw [if_neg (by omega), if_neg hab]

/-- Has a block a parent (or is it the first)? -/
def hasP (num out : List Int) (x : Int) : Bool := decide (0 ≤ rd num x) && (decide (x = 0) || decide (0 ≤ rd out x))
def encB (o : List Int) : Option Nat → Int
  | none => -1
  | some p => at_ o p
def stepB (num out : List Int) (par : Nat → Nat) (m : Nat) (best : Option Nat) (x : Int) : Option Nat :=
  if hasP num out x = true then some (match best with | none => (rd num x).toNat | some p => com par (2 * m) p (rd num x).toNat) else best
theorem hasP_iff {E : Int → Int → Prop} {o : List Int} {n i : Nat} {par : Nat → Nat} {out num : List Int} (H : Ordd E n o) (hi0 : 0 < i) (hi : i ≤ o.length) (hN : Nm o n num) (hO : Ot o n i par out) (hd : Dn par) (x : Int) (hx : 0 ≤ x ∧ x < (n : Int)) :
    hasP num out x = true ↔ ∃ j, j < i ∧ x = at_ o j := by
  unfold hasP
  rw [Bool.and_eq_true, Bool.or_eq_true, decide_eq_true_eq, decide_eq_true_eq, decide_eq_true_eq]
  constructor
  · rintro ⟨h1, h2⟩
    by_cases hm : x ∈ o
    · obtain ⟨j, hj, rfl⟩ := mem_at hm
      refine ⟨j, ?_, rfl⟩
      rcases Nat.lt_or_ge j i with h | h
      · exact h
      · exfalso
        rcases h2 with h2 | h2
        · have := at_inj H.nodup hj H.pos (h2.trans H.head.symm)
          omega
        · rw [hO.not j h hj] at h2; omega
    · rw [hN.off x hx.1 hx.2 hm] at h1; omega
  · rintro ⟨j, hj, rfl⟩
    refine ⟨by rw [hN.on j (by omega)]; omega, ?_⟩
    rcases Nat.eq_zero_or_pos j with rfl | h0
    · exact .inl H.head
    · have h3 := hd j h0
      exact .inr (by rw [hO.on j h0 hj]; exact (H.rng _ (at_mem (by omega))).1)
def contL (x3 num out : List Int) (preds : List (List Int)) (chg : Bool) (x12 : Int) (x55 : List Int) (x56 x57 : Int) (k : Nat) (x13 : Int) : Option (List Int) :=
  if 0 ≤ x12 then (if x12 < (out.length : Int) then (if rd out x12 = x13 then (graph_Idom.l3 k x3 num out preds chg x55 x56 (wrap64 (x57 + 1))) else (graph_Idom.l3 k x3 num (out.set (x12 : Int).toNat x13) preds true x55 x56 (wrap64 (x57 + 1)))) else (none)) else (none)
theorem up4 (x3 num out : List Int) (preds : List (List Int)) (chg : Bool) (x12 x13 : Int) (x55 : List Int) (x56 x57 : Int) (row : List Int) (x65 x66 : Int) (r : List Int) {k m : Nat} (hm : k ≤ m) (h : graph_Idom.l4 k x3 num out preds chg x12 x13 x55 x56 x57 row x65 x66 = some r) :
    graph_Idom.l4 m x3 num out preds chg x12 x13 x55 x56 x57 row x65 x66 = some r :=
  up (f := fun k => graph_Idom.l4 k x3 num out preds chg x12 x13 x55 x56 x57 row x65 x66) (fun k => (graph_Idom.mono_l k).2.2.2.2.1 _ _ _ _ _ _ _ _ _ _ _ _ _) hm h
theorem chk_l4 {E : Int → Int → Prop} {o : List Int} {n i : Nat} {par : Nat → Nat} {out num : List Int} (H : Ordd E n o) (hi0 : 0 < i) (hi : i ≤ o.length) (hN : Nm o n num) (hO : Ot o n i par out) (hd : Dn par) (x3 : List Int) (preds : List (List Int)) (chg : Bool) (x12 : Int) (x55 : List Int) (x56 x57 : Int) (row : List Int)
    (hrow : ∀ x ∈ row, 0 ≤ x ∧ x < (n : Int)) (hl : row.length ≤ 1000000) (r : List Int) : ∀ (d i66 : Nat) (best : Option Nat), i66 + d = row.length → (∀ p, best = some p → p < i) →
    (∃ k, contL x3 num out preds chg x12 x55 x56 x57 k (encB o ((row.drop i66).foldl (stepB num out par o.length) best)) = some r) →
    ∃ k, graph_Idom.l4 k x3 num out preds chg x12 (encB o best) x55 x56 x57 row row.length i66 = some r := by
  intro d
  induction d with
  | zero =>
    intro i66 best h66 hb hc
    obtain ⟨k, hk⟩ := hc
    rw [List.drop_of_length_le (by omega)] at hk
    refine ⟨k + 1, ?_⟩
    rw [graph_Idom.l4, if_neg (by omega)]
    exact hk
  | succ d ih =>
    intro i66 best h66 hb hc
    have hlt : i66 < row.length := by omega
    have hx : rd row i66 = row[i66] := by simp [rd, hlt]
    have hxr := hrow (rd row i66) (by rw [hx]; exact List.getElem_mem _)
    rw [List.drop_eq_getElem_cons hlt, List.foldl_cons, ← hx] at hc
    have hw : wrap64 ((i66 : Int) + 1) = ((i66 + 1 : Nat) : Int) := by unfold wrap64; omega
    have hnl := hN.len
    have hol := hO.len
    have hiff := hasP_iff H hi0 hi hN hO hd (rd row i66) hxr
    cases hp : hasP num out (rd row i66) with
    | false =>
      rw [show stepB num out par o.length best (rd row i66) = best from by unfold stepB; rw [hp]; rfl] at hc
      obtain ⟨k, hk⟩ := ih (i66 + 1) best (by omega) hb hc
      refine ⟨k + 1 + 1, ?_⟩
      rw [graph_Idom.l4, if_pos (by omega), if_pos (by omega), if_pos (by omega), if_pos hxr.1, if_pos (by omega)]
      have hj : graph_Idom.j5 (k + 1) x3 num out preds chg x12 (encB o best) (rd row i66) x55 x56 x57 row row.length i66 true = some r := by
        rw [graph_Idom.j5, if_pos rfl, hw]; exact hk
      unfold hasP at hp
      by_cases h1 : rd num (rd row i66) < 0
      · rw [if_pos h1]; exact hj
      · rw [if_neg h1]
        rw [decide_eq_true (by omega), Bool.true_and, Bool.or_eq_false_iff] at hp
        have h2 := of_decide_eq_false hp.1
        have h3 := of_decide_eq_false hp.2
        rw [if_neg h2, if_pos (by omega), decide_eq_true (by omega)]
        exact hj
    | true =>
      obtain ⟨j, hj, ej⟩ := hiff.1 hp
      have hnum : rd num (rd row i66) = j := by rw [ej]; exact hN.on j (by omega)
      have hin : ∃ k, graph_Idom.j5 k x3 num out preds chg x12 (encB o best) (rd row i66) x55 x56 x57 row row.length i66 false = some r := by
        cases best with
        | none =>
          rw [show stepB num out par o.length none (rd row i66) = some j from by unfold stepB; rw [if_pos hp, hnum]; rfl] at hc
          obtain ⟨k, hk⟩ := ih (i66 + 1) (some j) (by omega) (fun p e => by injection e with e; omega) hc
          refine ⟨k + 1, ?_⟩
          rw [graph_Idom.j5, if_neg (by decide), if_pos (show encB o none < 0 from by show (-1 : Int) < 0; omega), hw, ej]
          exact hk
        | some p =>
          rw [show stepB num out par o.length (some p) (rd row i66) = some (com par (2 * o.length) p j) from by unfold stepB; rw [if_pos hp, hnum]; rfl] at hc
          have hpi := hb p rfl
          have hcl := com_le hd (2 * o.length) p j (by omega)
          obtain ⟨k, hk⟩ := ih (i66 + 1) (some (com par (2 * o.length) p j)) (by omega) (fun q e => by injection e with e; omega) hc
          have hpr := H.rng _ (at_mem (show p < o.length by omega))
          refine ⟨(k + 2 * o.length) + 1, ?_⟩
          have hcm := up (f := fun k => graph_common.f k out num (at_ o p) (at_ o j)) (fun k => graph_common.mono _ _ _ _ _) (m := k + 2 * o.length) (by omega) (chk_common (fun x hx => H.rng x hx) hi hN hO hd (2 * o.length) p j hpi hj (by omega))
          rw [graph_Idom.j5, if_neg (by decide), if_neg (show ¬ (encB o (some p) < 0) from by show ¬ (at_ o p < 0); omega), ej]
          show (graph_common.f (k + 2 * o.length) out num (at_ o p) (at_ o j)).bind _ = _
          rw [hcm, Option.bind_some, hw]
          exact up4 _ _ _ _ _ _ _ _ _ _ _ _ _ _ (by omega) hk
      obtain ⟨k, hk⟩ := hin
      refine ⟨k + 1, ?_⟩
      rw [graph_Idom.l4, if_pos (by omega), if_pos (by omega), if_pos (by omega), if_pos hxr.1, if_pos (by omega), if_neg (by omega)]
      by_cases h0 : rd row i66 = 0
      · rw [if_pos h0]; exact hk
      · rw [if_neg h0, if_pos (by omega)]
        unfold hasP at hp
        rw [decide_eq_true (by omega), Bool.true_and, decide_eq_false h0, Bool.false_or, decide_eq_true_eq] at hp
        rw [decide_eq_false (by omega)]
        exact hk
end Go.Proofs.Ytnmeomdjhjgnfaa.X
namespace Go.Proofs.Ytnmeomdjhjgnfaa.X
open Go.RowKit Go.Proofs.YtnmeomdjhjgnfaaW.PrintWords Go.Proofs.YtnmeomdjhjgnfaaW.PrintLast Go.Proofs.YtnmeomdjhjgnfaaW.PrintMore
/-! ### the fold is the nearest one -/
def plN (num : List Int) (x : Int) : Nat := (rd num x).toNat
theorem fold_some (num out : List Int) (par : Nat → Nat) (m : Nat) : ∀ (l : List Int) (p : Nat), l.foldl (stepB num out par m) (some p) = some (nca par (2 * m) p ((l.filter (hasP num out)).map (plN num)))
  | [], p => rfl
  | x :: l, p => by
    rw [List.foldl_cons]
    by_cases h : hasP num out x = true
    · rw [show stepB num out par m (some p) x = some (com par (2 * m) p (plN num x)) from by unfold stepB; rw [if_pos h]; rfl, fold_some num out par m l, List.filter_cons, if_pos h]
      rfl
    · rw [show stepB num out par m (some p) x = some p from by unfold stepB; rw [if_neg h], fold_some num out par m l, List.filter_cons, if_neg h]
theorem fold_none (num out : List Int) (par : Nat → Nat) (m : Nat) : ∀ (l : List Int) (p : Nat) (ps : List Nat), (l.filter (hasP num out)).map (plN num) = p :: ps → l.foldl (stepB num out par m) none = some (nca par (2 * m) p ps)
  | [], p, ps, h => by simp at h
  | x :: l, p, ps, h => by
    rw [List.foldl_cons]
    by_cases hx : hasP num out x = true
    · rw [List.filter_cons, if_pos hx, List.map_cons] at h
      injection h with h1 h2
      rw [show stepB num out par m none x = some (plN num x) from by unfold stepB; rw [if_pos hx]; rfl, fold_some, h1, h2]
    · rw [List.filter_cons, if_neg hx] at h
      rw [show stepB num out par m none x = none from by unfold stepB; rw [if_neg hx]]
      exact fold_none num out par m l p ps h
/-- A parent is written. -/
theorem Ot.put {E : Int → Int → Prop} {o : List Int} {n i k v : Nat} {par : Nat → Nat} {out : List Int} (H : Ordd E n o) (h : Ot o n i par out) (hk0 : 0 < k) (hk : k < o.length) (hki : k ≤ i) (him : i ≤ o.length) (hv : v < o.length) :
    Ot o n (max i (k + 1)) (upd par k v) (out.set (at_ o k).toNat (at_ o v)) := by
  have hr := H.rng _ (at_mem hk)
  have hlen := h.len
  have hne : ∀ x, 0 ≤ x → x ≠ at_ o k → rd (out.set (at_ o k).toNat (at_ o v)) x = rd out x := fun x h0 hn => by
    unfold rd
    rw [List.getD_eq_getElem?_getD, List.getD_eq_getElem?_getD, List.getElem?_set_ne (by omega)]
  have heq : rd (out.set (at_ o k).toNat (at_ o v)) (at_ o k) = at_ o v := by
    unfold rd
    rw [List.getD_eq_getElem?_getD, List.getElem?_set_self (by omega)]
    rfl
  refine ⟨by simp [h.len], fun j h0 hj => ?_, ?_, fun j hj hm => ?_, fun x h0 h1 hx => ?_⟩
  · by_cases e : j = k
    · subst e; rw [heq]; unfold upd; rw [if_pos rfl]
    · rw [hne _ (H.rng _ (at_mem (by omega))).1 (fun hh => e (at_inj H.nodup (by omega) hk hh)), h.on j h0 (by omega)]
      unfold upd; rw [if_neg e]
  · rw [hne 0 (Int.le_refl 0) (fun hh => by have := at_inj H.nodup H.pos hk (H.head.trans hh); omega)]; exact h.root
  · rw [hne _ (H.rng _ (at_mem hm)).1 (fun hh => by have := at_inj H.nodup hm hk hh; omega)]; exact h.not j (by omega) hm
  · rw [hne x h0 (fun hh => hx (hh ▸ at_mem hk))]; exact h.off x h0 h1 hx
end Go.Proofs.Ytnmeomdjhjgnfaa.X
namespace Go.Proofs.Ytnmeomdjhjgnfaa.X
open Go.RowKit Go.Proofs.YtnmeomdjhjgnfaaW.PrintWords Go.Proofs.YtnmeomdjhjgnfaaW.PrintLast Go.Proofs.YtnmeomdjhjgnfaaW.PrintMore
/-! ### sweeps over the lists -/
/-- The places from which a place is come to. -/
def PP (o num : List Int) (preds : List (List Int)) (i : Nat) : List Nat := ((rd_L1 preds (at_ o i)).filter (fun x => decide (x ∈ o))).map (plN num)
theorem filt_map (p : Int → Bool) (q : Int → Bool) (f : Int → Nat) (t : Nat → Bool) : ∀ (l : List Int), (∀ x ∈ l, p x = (q x && t (f x))) → (l.filter p).map f = ((l.filter q).map f).filter t
  | [], _ => rfl
  | x :: l, h => by
    have ih := filt_map p q f t l (fun y hy => h y (List.mem_cons_of_mem _ hy))
    have hx := h x List.mem_cons_self
    rw [List.filter_cons, List.filter_cons]
    cases hq : q x with
    | false =>
      rw [hq, Bool.false_and] at hx
      rw [hx]
      simpa using ih
    | true =>
      rw [hq, Bool.true_and] at hx
      rw [hx]
      cases ht : t (f x) with
      | false => simp [ht, ih]
      | true => simp [ht, ih]
theorem rows_set {E : Int → Int → Prop} {o : List Int} {n i : Nat} {par : Nat → Nat} {out num : List Int} (H : Ordd E n o) (hi0 : 0 < i) (hi : i ≤ o.length) (hN : Nm o n num) (hO : Ot o n i par out) (hd : Dn par) (preds : List (List Int)) (b : Nat) (hrow : ∀ x ∈ rd_L1 preds (at_ o b), 0 ≤ x ∧ x < (n : Int)) :
    ((rd_L1 preds (at_ o b)).filter (hasP num out)).map (plN num) = (PP o num preds b).filter (fun q => decide (q < i)) := by
  unfold PP
  refine filt_map _ _ _ _ _ (fun x hx => ?_)
  rw [Bool.eq_iff_iff, hasP_iff H hi0 hi hN hO hd x (hrow x hx), Bool.and_eq_true, decide_eq_true_eq, decide_eq_true_eq]
  constructor
  · rintro ⟨j, hj, rfl⟩
    refine ⟨at_mem (by omega), ?_⟩
    unfold plN
    rw [hN.on j (by omega)]
    exact hj
  · rintro ⟨hm, hp⟩
    obtain ⟨j, hj, rfl⟩ := mem_at hm
    unfold plN at hp
    rw [hN.on j hj] at hp
    exact ⟨j, hp, rfl⟩
/-- One block's turn: what is written is the nearest one's block. -/
theorem chk_turn {E : Int → Int → Prop} {o : List Int} {n i b : Nat} {par : Nat → Nat} {out num : List Int} (H : Ordd E n o) (hi0 : 0 < i) (hi : i ≤ o.length) (hN : Nm o n num) (hO : Ot o n i par out) (hd : Dn par) (preds : List (List Int)) (hpl : preds.length = n) (hb0 : 0 < b) (hb : b < o.length) (hbi : b ≤ i)
    (hrow : ∀ x ∈ rd_L1 preds (at_ o b), 0 ≤ x ∧ x < (n : Int)) (hl : (rd_L1 preds (at_ o b)).length ≤ 1000000) (hol : o.length ≤ 1000000) (chg : Bool) (r : List Int) (p : Nat) (ps : List Nat) (hP : (PP o num preds b).filter (fun q => decide (q < i)) = p :: ps) (hv : nca par (2 * o.length) p ps < o.length)
    (hc : ∃ k, graph_Idom.l3 k o num (out.set (at_ o b).toNat (at_ o (nca par (2 * o.length) p ps))) preds (chg || decide (rd out (at_ o b) ≠ at_ o (nca par (2 * o.length) p ps))) (o.drop 1) ((o.drop 1).length : Int) ((b : Nat) : Int) = some r) :
    ∃ k, graph_Idom.l3 k o num out preds chg (o.drop 1) ((o.drop 1).length : Int) ((b : Int) - 1) = some r := by
  have hbr := H.rng _ (at_mem hb)
  have hlen := hO.len
  have hrd : rd (o.drop 1) ((b : Int) - 1) = at_ o b := by
    unfold rd at_
    rw [show ((b : Int) - 1).toNat = b - 1 from by omega, List.getD_eq_getElem?_getD, List.getElem?_drop, List.getD_eq_getElem?_getD, show 1 + (b - 1) = b from by omega]
  have hdl : (o.drop 1).length = o.length - 1 := List.length_drop
  have hw : wrap64 ((b : Int) - 1 + 1) = (b : Int) := by unfold wrap64; omega
  have hfold := fold_none num out par o.length (rd_L1 preds (at_ o b)) p ps (by rw [rows_set H hi0 hi hN hO hd preds b hrow]; exact hP)
  obtain ⟨k, hk⟩ := hc
  obtain ⟨k2, hk2⟩ := chk_l4 H hi0 hi hN hO hd o preds chg (at_ o b) (o.drop 1) ((o.drop 1).length : Int) ((b : Int) - 1) (rd_L1 preds (at_ o b)) hrow hl r (rd_L1 preds (at_ o b)).length 0 none (by omega) (fun p e => by cases e) ⟨k, by
    rw [List.drop_zero, hfold]
    unfold contL
    rw [if_pos hbr.1, if_pos (by omega), hw]
    show (if rd out (at_ o b) = at_ o (nca par (2 * o.length) p ps) then _ else _) = _
    by_cases e : rd out (at_ o b) = at_ o (nca par (2 * o.length) p ps)
    · rw [if_pos e]
      rw [decide_eq_false (fun h => h e), Bool.or_false] at hk
      have hset : out.set (at_ o b).toNat (at_ o (nca par (2 * o.length) p ps)) = out := by
        rw [← e]
        unfold rd
        rw [List.getD_eq_getElem?_getD, List.getElem?_eq_getElem (by omega)]
        exact List.set_getElem_self _
      rw [hset] at hk
      exact hk
    · rw [if_neg e]
      rw [decide_eq_true e, Bool.or_true] at hk
      exact hk⟩
  refine ⟨k2 + 1, ?_⟩
  rw [graph_Idom.l3, if_pos (by omega), if_pos (by omega), if_pos (by omega), hrd, if_pos hbr.1, if_pos (by omega)]
  exact hk2
end Go.Proofs.Ytnmeomdjhjgnfaa.X
namespace Go.Proofs.Ytnmeomdjhjgnfaa.X
open Go.RowKit Go.Proofs.YtnmeomdjhjgnfaaW.PrintWords Go.Proofs.YtnmeomdjhjgnfaaW.PrintLast Go.Proofs.YtnmeomdjhjgnfaaW.PrintMore
/-- The sum of the parents. -/
def sumP (par : Nat → Nat) : Nat → Nat
  | 0 => 0
  | m + 1 => sumP par m + par m
theorem sumP_upd (par : Nat → Nat) (b v : Nat) (hv : v ≤ par b) : ∀ m, sumP (upd par b v) m + (if b < m then par b - v else 0) = sumP par m
  | 0 => by simp [sumP]
  | m + 1 => by
    have ih := sumP_upd par b v hv m
    simp only [sumP]
    by_cases h : b = m
    · subst h
      have e : upd par b v b = v := by unfold upd; rw [if_pos rfl]
      rw [if_neg (Nat.lt_irrefl b)] at ih
      rw [if_pos (Nat.lt_succ_self b), e]
      omega
    · have e : upd par b v m = par m := by unfold upd; rw [if_neg (fun x => h x.symm)]
      rw [e]
      by_cases h2 : b < m
      · rw [if_pos h2] at ih; rw [if_pos (by omega)]; omega
      · rw [if_neg h2] at ih; rw [if_neg (by omega)]; omega
def FixAt (P : Nat → List Nat) (m : Nat) (par : Nat → Nat) (u : Nat) : Prop := ∃ p ps, P u = p :: ps ∧ nca par (2 * m) p ps = par u
theorem upd_self (par : Nat → Nat) (b : Nat) : upd par b (par b) = par := by
  funext u; unfold upd; split
  · rename_i h; rw [h]
  · rfl
theorem nonempty_cons {l : List Nat} {s : Nat} (h : s ∈ l) : ∃ p ps, l = p :: ps := by
  cases l with
  | nil => cases h
  | cons p ps => exact ⟨p, ps, rfl⟩
theorem filter_all (l : List Nat) (m : Nat) (h : ∀ q ∈ l, q < m) : l.filter (fun q => decide (q < m)) = l :=
  List.filter_eq_self.2 (fun q hq => decide_eq_true (h q hq))
section
variable {E : Int → Int → Prop} {o : List Int} {n : Nat} {num : List Int} {preds : List (List Int)} {Dm : Nat → Nat → Prop}
/-- A later sweep. -/
theorem chk_sweep (H : Ordd E n o) (hN : Nm o n num) (hpl : preds.length = n) (G : Gr o.length (PP o num preds) Dm) (hrow : ∀ b, b < o.length → ∀ x ∈ rd_L1 preds (at_ o b), 0 ≤ x ∧ x < (n : Int)) (hl : ∀ b, b < o.length → (rd_L1 preds (at_ o b)).length ≤ 1000000) (hol : o.length ≤ 1000000) (Q : List Int → Prop) (s0 : Nat) :
    ∀ (d b : Nat) (par : Nat → Nat) (out : List Int) (chg : Bool), b + d = o.length → 0 < b → Swp o.length (PP o num preds) Dm b par → Ot o n o.length par out → sumP par o.length ≤ s0 → (chg = true → sumP par o.length < s0) → (chg = false → ∀ u, 0 < u → u < b → FixAt (PP o num preds) o.length par u) →
    (∀ par' out' chg', Swp o.length (PP o num preds) Dm o.length par' → Ot o n o.length par' out' → (chg' = true → sumP par' o.length < s0) → (chg' = false → ∀ u, 0 < u → u < o.length → FixAt (PP o num preds) o.length par' u) → ∃ k r, graph_Idom.l2 k o num out' preds chg' = some r ∧ Q r) →
    ∃ k r, graph_Idom.l3 k o num out preds chg (o.drop 1) ((o.drop 1).length : Int) ((b : Int) - 1) = some r ∧ Q r := by
  intro d
  induction d with
  | zero =>
    intro b par out chg hb h0 hS hO hs1 hs2 hf hend
    obtain rfl : b = o.length := by omega
    obtain ⟨k, r, hk, hq⟩ := hend par out chg hS hO hs2 hf
    have hdl : (o.drop 1).length = o.length - 1 := List.length_drop
    refine ⟨k + 1, r, ?_, hq⟩
    rw [graph_Idom.l3, if_neg (by omega)]
    exact hk
  | succ d ih =>
    intro b par out chg hb h0 hS hO hs1 hs2 hf hend
    have hbm : b < o.length := by omega
    obtain ⟨s, hs, _⟩ := G.fwd b h0 hbm
    obtain ⟨p, ps, hP⟩ := nonempty_cons hs
    obtain ⟨hle, hS'⟩ := hS.step G h0 hbm hP
    have hdn := hS.dn b h0
    have hput := Ot.put H hO h0 hbm (by omega) (Nat.le_refl _) (show nca par (2 * o.length) p ps < o.length by omega)
    rw [show max o.length (b + 1) = o.length from by omega] at hput
    have hsum := sumP_upd par b (nca par (2 * o.length) p ps) hle o.length
    rw [if_pos hbm] at hsum
    have hout : rd out (at_ o b) = at_ o (par b) := hO.on b h0 hbm
    have hiff : rd out (at_ o b) ≠ at_ o (nca par (2 * o.length) p ps) ↔ nca par (2 * o.length) p ps ≠ par b := by
      rw [hout]
      constructor
      · exact fun h e => h (by rw [e])
      · exact fun h e => h (at_inj H.nodup (by omega) (by omega) e).symm
    obtain ⟨kr, r, hkr, hq⟩ := ih (b + 1) (upd par b (nca par (2 * o.length) p ps)) (out.set (at_ o b).toNat (at_ o (nca par (2 * o.length) p ps))) (chg || decide (rd out (at_ o b) ≠ at_ o (nca par (2 * o.length) p ps))) (by omega) (by omega) hS' hput (by omega) (fun hc => by
        rcases Bool.or_eq_true_iff.1 hc with h | h
        · have := hs2 h; omega
        · have := hiff.1 (of_decide_eq_true h); omega) (fun hc u hu0 hu => by
        obtain ⟨h1, h2⟩ := Bool.or_eq_false_iff.1 hc
        have h3 : nca par (2 * o.length) p ps = par b := Classical.byContradiction fun hn => of_decide_eq_false h2 (hiff.2 hn)
        rw [h3, upd_self]
        rcases Nat.lt_or_ge u b with h4 | h4
        · exact hf h1 u hu0 h4
        · obtain rfl : u = b := by omega
          exact ⟨p, ps, hP, h3⟩) hend
    have key := chk_turn H (i := o.length) H.pos (Nat.le_refl _) hN hO hS.dn preds hpl h0 hbm (by omega) (hrow b hbm) (hl b hbm) hol chg r p ps (by rw [filter_all _ _ (fun q hq => G.inb b hbm q hq)]; exact hP) (by omega) ⟨kr, by rw [show (((b + 1 : Nat) : Int) - 1) = (b : Int) from by omega] at hkr; exact hkr⟩
    exact ⟨key.choose, r, key.choose_spec, hq⟩
/-- The first sweep. -/
theorem chk_first (H : Ordd E n o) (hN : Nm o n num) (hpl : preds.length = n) (G : Gr o.length (PP o num preds) Dm) (hrow : ∀ b, b < o.length → ∀ x ∈ rd_L1 preds (at_ o b), 0 ≤ x ∧ x < (n : Int)) (hl : ∀ b, b < o.length → (rd_L1 preds (at_ o b)).length ≤ 1000000) (hol : o.length ≤ 1000000) (Q : List Int → Prop) :
    ∀ (d b : Nat) (par : Nat → Nat) (out : List Int) (chg : Bool), b + d = o.length → 0 < b → (1 < b → chg = true) → Fst o.length (PP o num preds) Dm b par → Ot o n b par out →
    (∀ par' out' chg', Fst o.length (PP o num preds) Dm o.length par' → Ot o n o.length par' out' → (1 < o.length → chg' = true) → ∃ k r, graph_Idom.l2 k o num out' preds chg' = some r ∧ Q r) →
    ∃ k r, graph_Idom.l3 k o num out preds chg (o.drop 1) ((o.drop 1).length : Int) ((b : Int) - 1) = some r ∧ Q r := by
  intro d
  induction d with
  | zero =>
    intro b par out chg hb h0 hc hS hO hend
    obtain rfl : b = o.length := by omega
    obtain ⟨k, r, hk, hq⟩ := hend par out chg hS hO hc
    have hdl : (o.drop 1).length = o.length - 1 := List.length_drop
    refine ⟨k + 1, r, ?_, hq⟩
    rw [graph_Idom.l3, if_neg (by omega)]
    exact hk
  | succ d ih =>
    intro b par out chg hb h0 hc hS hO hend
    have hbm : b < o.length := by omega
    obtain ⟨s, hs, hsb⟩ := G.fwd b h0 hbm
    obtain ⟨p, ps, hP⟩ := nonempty_cons (show s ∈ (PP o num preds b).filter (fun q => decide (q < b)) from List.mem_filter.2 ⟨hs, decide_eq_true hsb⟩)
    have hS' := hS.step G h0 hbm hP
    have hpb : ∀ q ∈ p :: ps, q < b := fun q hq => by rw [← hP] at hq; exact of_decide_eq_true (List.mem_filter.1 hq).2
    have hp := hpb p List.mem_cons_self
    have hvp : nca par (2 * o.length) p ps ≤ p := (((nca_an hS.dn o.length ps p (by omega) (fun q hq => by have := hpb q (List.mem_cons_of_mem _ hq); omega) _).1 .refl).1).le hS.dn
    have hput := Ot.put H hO h0 hbm (Nat.le_refl _) (by omega) (show nca par (2 * o.length) p ps < o.length by omega)
    rw [show max b (b + 1) = b + 1 from by omega] at hput
    have hout : rd out (at_ o b) = -1 := hO.not b (Nat.le_refl _) hbm
    have hv0 := (H.rng _ (at_mem (show nca par (2 * o.length) p ps < o.length by omega))).1
    obtain ⟨kr, r, hkr, hq⟩ := ih (b + 1) (upd par b (nca par (2 * o.length) p ps)) (out.set (at_ o b).toNat (at_ o (nca par (2 * o.length) p ps))) (chg || decide (rd out (at_ o b) ≠ at_ o (nca par (2 * o.length) p ps))) (by omega) (by omega) (fun _ => by rw [decide_eq_true (by omega), Bool.or_true]) hS' hput hend
    have key := chk_turn H h0 (by omega) hN hO hS.dn preds hpl h0 hbm (Nat.le_refl _) (hrow b hbm) (hl b hbm) hol chg r p ps hP (by omega) ⟨kr, by rw [show (((b + 1 : Nat) : Int) - 1) = (b : Int) from by omega] at hkr; exact hkr⟩
    exact ⟨key.choose, r, key.choose_spec, hq⟩
end
end Go.Proofs.Ytnmeomdjhjgnfaa.X
namespace Go.Proofs.Ytnmeomdjhjgnfaa.X
open Go.RowKit Go.Proofs.YtnmeomdjhjgnfaaW.PrintWords Go.Proofs.YtnmeomdjhjgnfaaW.PrintLast Go.Proofs.YtnmeomdjhjgnfaaW.PrintMore
section
variable {E : Int → Int → Prop} {o : List Int} {n : Nat} {num : List Int} {preds : List (List Int)} {Dm : Nat → Nat → Prop}
theorem l2_true (H : Ordd E n o) (hol : o.length ≤ 1000000) (out : List Int) (r : List Int) (h : ∃ k, graph_Idom.l3 k o num out preds false (o.drop 1) ((o.drop 1).length : Int) (((1 : Nat) : Int) - 1) = some r) : ∃ k, graph_Idom.l2 k o num out preds true = some r := by
  obtain ⟨k, hk⟩ := h
  have hp := H.pos
  have hmn : mn 1 (o.length : Int) = 1 := by unfold mn; split <;> omega
  refine ⟨k + 1, ?_⟩
  rw [graph_Idom.l2, if_pos rfl, hmn, if_pos (by omega), if_pos (by omega)]
  exact hk
/-- What the loops end in. -/
def Rest (o : List Int) (n : Nat) (num : List Int) (preds : List (List Int)) (Dm : Nat → Nat → Prop) (r : List Int) : Prop :=
  ∃ par, Swp o.length (PP o num preds) Dm 1 par ∧ Ot o n o.length par r ∧ ∀ u, 0 < u → u < o.length → FixAt (PP o num preds) o.length par u
/-- The later sweeps come to rest. -/
theorem chk_rest (H : Ordd E n o) (hN : Nm o n num) (hpl : preds.length = n) (G : Gr o.length (PP o num preds) Dm) (hrow : ∀ b, b < o.length → ∀ x ∈ rd_L1 preds (at_ o b), 0 ≤ x ∧ x < (n : Int)) (hl : ∀ b, b < o.length → (rd_L1 preds (at_ o b)).length ≤ 1000000) (hol : o.length ≤ 1000000) :
    ∀ (s : Nat) (par : Nat → Nat) (out : List Int), sumP par o.length < s → Swp o.length (PP o num preds) Dm 1 par → Ot o n o.length par out →
    ∃ k r, graph_Idom.l2 k o num out preds true = some r ∧ Rest o n num preds Dm r := by
  intro s
  induction s with
  | zero => intro par out h; omega
  | succ s ih =>
    intro par out hs hS hO
    have hp := H.pos
    obtain ⟨k, r, hk, hq⟩ := chk_sweep H hN hpl G hrow hl hol (Rest o n num preds Dm) (sumP par o.length) (o.length - 1) 1 par out false (by omega) (by omega) hS hO (Nat.le_refl _) (fun h => by cases h) (fun _ u h0 h1 => by omega) (fun par' out' chg' hS' hO' hlt hf => by
      cases chg' with
      | true => exact ih par' out' (by have := hlt rfl; omega) hS'.again hO'
      | false => exact ⟨1, out', by rw [graph_Idom.l2, if_neg (by decide)], par', hS'.again, hO', hf rfl⟩)
    obtain ⟨k2, hk2⟩ := l2_true H hol out r ⟨k, hk⟩
    exact ⟨k2, r, hk2, hq⟩
/-- From the lists as they are made. -/
theorem chk_all (H : Ordd E n o) (hN : Nm o n num) (hpl : preds.length = n) (G : Gr o.length (PP o num preds) Dm) (hrow : ∀ b, b < o.length → ∀ x ∈ rd_L1 preds (at_ o b), 0 ≤ x ∧ x < (n : Int)) (hl : ∀ b, b < o.length → (rd_L1 preds (at_ o b)).length ≤ 1000000) (hol : o.length ≤ 1000000)
    (hO : Ot o n 1 (fun _ => 0) (List.replicate n (-1))) : ∃ k r, graph_Idom.l2 k o num (List.replicate n (-1)) preds true = some r ∧ Rest o n num preds Dm r := by
  have hp := H.pos
  obtain ⟨k, r, hk, hq⟩ := chk_first H hN hpl G hrow hl hol (Rest o n num preds Dm) (o.length - 1) 1 (fun _ => 0) (List.replicate n (-1)) false (by omega) (by omega) (fun h => by omega) (Fst.start _ _ _) hO (fun par' out' chg' hS' hO' hc => by
    cases chg' with
    | true => exact chk_rest H hN hpl G hrow hl hol (sumP par' o.length + 1) par' out' (by omega) hS'.swp hO'
    | false =>
      have h1 : ¬ 1 < o.length := fun h => by cases hc h
      exact ⟨1, out', by rw [graph_Idom.l2, if_neg (by decide)], par', hS'.swp, hO', fun u h0 hu => by omega⟩)
  obtain ⟨k2, hk2⟩ := l2_true H hol _ r ⟨k, hk⟩
  exact ⟨k2, r, hk2, hq⟩
end
end Go.Proofs.Ytnmeomdjhjgnfaa.X
end
section
/-! Plain: who dominates, by ways; what graph.Idom tells of it. -/
set_option linter.unusedVariables false
set_option linter.unusedSimpArgs false
namespace Go.Proofs.Ytnmeomdjhjgnfaa.X
open Go.RowKit Go.Proofs.YtnmeomdjhjgnfaaW.PrintWords Go.Proofs.YtnmeomdjhjgnfaaW.PrintLast Go.Proofs.YtnmeomdjhjgnfaaW.PrintMore

/-- Come to from block 0 without z. -/
inductive RAv (E : Int → Int → Prop) (z : Int) : Int → Prop
  | start : z ≠ 0 → RAv E z 0
  | step {x y : Int} : RAv E z x → E x y → y ≠ z → RAv E z y
def Eg (g : List (List Int)) (x y : Int) : Prop := eB g x y = true
theorem RE_clean (g : List (List Int)) (x y : Int) : RE (cleanL g) x y ↔ Eg g x y := by
  unfold RE Eg
  rw [eB_iff]
  constructor
  · rintro ⟨h0, h⟩
    obtain ⟨j, rfl⟩ := Int.eq_ofNat_of_zero_le h0
    rcases Nat.lt_or_ge j g.length with hj | hj
    · have h2 : y ∈ rd_L1 (cleanL g) j := h
      rw [rd_clean g j hj, mem_keptL] at h2
      exact ⟨by omega, by omega, h2.2.1, h2.2.2, h2.1⟩
    · rw [List.getD_eq_getElem?_getD, List.getElem?_eq_none (by rw [cleanL_length]; omega)] at h
      cases h
  · rintro ⟨h1, h2, h3, h4, h5⟩
    obtain ⟨j, rfl⟩ := Int.eq_ofNat_of_zero_le h1
    refine ⟨h1, ?_⟩
    show y ∈ rd_L1 (cleanL g) j
    rw [rd_clean g j (by omega), mem_keptL]
    exact ⟨h5, h3, h4⟩
section
variable {E : Int → Int → Prop} {o : List Int} {n : Nat} {num : List Int} {preds : List (List Int)}
/-- Dominance, by places. -/
def DmP (E : Int → Int → Prop) (o : List Int) (d u : Nat) : Prop := d < o.length ∧ u < o.length ∧ (d = u ∨ ¬ RAv E (at_ o d) (at_ o u))
theorem ra_fwd (H : Ordd E n o) (d : Nat) (hd : d < o.length) : ∀ (k u : Nat), u ≤ k → u < d → RAv E (at_ o d) (at_ o u) := by
  intro k
  induction k with
  | zero =>
    intro u hu hud
    obtain rfl : u = 0 := by omega
    rw [H.head]
    exact .start (fun h => by have := at_inj H.nodup hd H.pos (h.trans H.head.symm); omega)
  | succ k ih =>
    intro u hu hud
    rcases Nat.eq_zero_or_pos u with rfl | h0
    · exact ih 0 (by omega) hud
    · obtain ⟨j, hj, he⟩ := H.fwd u h0 (by omega)
      exact .step (ih j (by omega) (by omega)) he (fun h => by have := at_inj H.nodup (by omega) hd h; omega)
theorem plN_at (hN : Nm o n num) {j : Nat} (hj : j < o.length) : plN num (at_ o j) = j := by
  unfold plN; rw [hN.on j hj]; rfl
theorem mem_PP (H : Ordd E n o) (hN : Nm o n num) (hpr : ∀ u, u < o.length → ∀ x, x ∈ rd_L1 preds (at_ o u) ↔ E x (at_ o u)) (u : Nat) (hu : u < o.length) (p : Nat) : p ∈ PP o num preds u ↔ p < o.length ∧ E (at_ o p) (at_ o u) := by
  unfold PP
  rw [List.mem_map]
  constructor
  · rintro ⟨x, hx, rfl⟩
    obtain ⟨h1, h2⟩ := List.mem_filter.1 hx
    obtain ⟨j, hj, rfl⟩ := mem_at (of_decide_eq_true h2)
    rw [plN_at hN hj]
    exact ⟨hj, (hpr u hu _).1 h1⟩
  · rintro ⟨hp, he⟩
    exact ⟨at_ o p, List.mem_filter.2 ⟨(hpr u hu _).2 he, decide_eq_true (at_mem hp)⟩, plN_at hN hp⟩
theorem gr_of (H : Ordd E n o) (hN : Nm o n num) (hpr : ∀ u, u < o.length → ∀ x, x ∈ rd_L1 preds (at_ o u) ↔ E x (at_ o u)) : Gr o.length (PP o num preds) (DmP E o) where
  inb := fun u hu p hp => ((mem_PP H hN hpr u hu p).1 hp).1
  fwd := fun u h0 hu => by
    obtain ⟨j, hj, he⟩ := H.fwd u h0 hu
    exact ⟨j, (mem_PP H hN hpr u hu j).2 ⟨by omega, he⟩, hj⟩
  dle := fun d u ⟨hd, hu, h⟩ => by
    rcases h with h | h
    · omega
    · rcases Nat.lt_or_ge u d with hlt | hlt
      · exact absurd (ra_fwd H d hd u u (Nat.le_refl _) hlt) h
      · exact hlt
  dstep := fun d u h0 hu ⟨hd, _, h⟩ hne p hp => by
    obtain ⟨hpm, he⟩ := (mem_PP H hN hpr u hu p).1 hp
    refine ⟨hd, hpm, ?_⟩
    by_cases hdp : d = p
    · exact .inl hdp
    · refine .inr (fun hr => ?_)
      exact h.resolve_left hne (.step hr he (fun e => hne (at_inj H.nodup hd hu e.symm)))
/-- At rest the chains are who dominates. -/
theorem rest_dom (H : Ordd E n o) (hN : Nm o n num) (hpr : ∀ u, u < o.length → ∀ x, x ∈ rd_L1 preds (at_ o u) ↔ E x (at_ o u)) (hE : ∀ x y, E x y → x ∈ o → y ∈ o) {r : List Int} (h : Rest o n num preds (DmP E o) r) :
    ∃ par, Dn par ∧ Ot o n o.length par r ∧ ∀ u, u < o.length → ∀ d, An par d u ↔ DmP E o d u := by
  obtain ⟨par, hS, hO, hf⟩ := h
  have G := gr_of H hN hpr
  refine ⟨par, hS.dn, hO, fun u hu d => ⟨fun ha => ?_, fun hd => ?_⟩⟩
  · have hle := ha.le hS.dn
    refine ⟨by omega, hu, ?_⟩
    by_cases hdu : d = u
    · exact .inl hdu
    · refine .inr (fun hr => ?_)
      have key : ∀ x, RAv E (at_ o d) x → x ∈ o ∧ ∀ w, w < o.length → x = at_ o w → ¬ An par d w := by
        intro x hx
        induction hx with
        | start h0 =>
          refine ⟨by rw [← H.head]; exact at_mem H.pos, fun w hw hxw ha => ?_⟩
          have := at_inj H.nodup H.pos hw (H.head.trans hxw)
          subst this
          have := ha.of_zero hS.dn
          subst this
          exact h0 H.head
        | @step x y hx he hne ih =>
          obtain ⟨hxo, ih⟩ := ih
          refine ⟨H.closed x hxo y he, fun w hw hyw ha => ?_⟩
          obtain ⟨j, hj, rfl⟩ := mem_at hxo
          have hnj := ih j hj rfl
          rcases ha.inv with hdw | ⟨hw0, ha⟩
          · subst hdw; exact hne hyw
          · obtain ⟨p, ps, hP, hv⟩ := hf w hw0 hw
            subst hyw
            have hjm : j ∈ PP o num preds w := (mem_PP H hN hpr w hw j).2 ⟨hj, he⟩
            rw [← hv, nca_an hS.dn o.length ps p (G.inb w hw p (by rw [hP]; exact List.mem_cons_self)) (fun q hq => G.inb w hw q (by rw [hP]; exact List.mem_cons_of_mem _ hq))] at ha
            rw [hP] at hjm
            rcases List.mem_cons.1 hjm with rfl | hjm
            · exact hnj ha.1
            · exact hnj (ha.2 j hjm)
      exact (key _ hr).2 u hu rfl ha
  · have key : ∀ (k u : Nat), u ≤ k → u < o.length → ∀ d, DmP E o d u → An par d u := by
      intro k
      induction k with
      | zero =>
        intro u hk hu d hd
        have := G.dle d u hd
        obtain rfl : d = u := by omega
        exact .refl
      | succ k ih =>
        intro u hk hu d hd
        by_cases hdu : d = u
        · subst hdu; exact .refl
        · have h1 := G.dle d u hd
          have h2 := hS.dn u (by omega)
          exact .up (by omega) (ih (par u) (by omega) (by omega) d (hS.dom u (by omega) hu d hd hdu))
    exact key u u (Nat.le_refl _) hu d hd
end
end Go.Proofs.Ytnmeomdjhjgnfaa.X
end
section
/-! Plain: graph.Order and graph.Idom end; what they tell. -/
set_option linter.unusedVariables false
set_option linter.unusedSimpArgs false
namespace Go.Proofs.Ytnmeomdjhjgnfaa.X
open Go.RowKit Go.Proofs.YtnmeomdjhjgnfaaW.PrintWords Go.Proofs.YtnmeomdjhjgnfaaW.PrintLast Go.Proofs.YtnmeomdjhjgnfaaW.PrintMore

theorem order_some (g : List (List Int)) (hok : okG g = true) (hn : 0 < g.length) (k : Nat) (hk : g.length ≤ k) : ∃ o, graph_Order.f k g = some o ∧ Ordd (Eg g) g.length o := by
  obtain ⟨t, o, h1, h2⟩ := order_of (cleanL g) g.length hn (cleanL_in g) k hk
  have e : RE (cleanL g) = Eg g := funext fun x => funext fun y => propext (RE_clean g x y)
  rw [e] at h2
  refine ⟨o.reverse, ?_, h2⟩
  unfold graph_Order.f
  rw [if_pos hok, if_neg (by omega), h1]
  rfl
theorem ordd_len {E : Int → Int → Prop} {n : Nat} {o : List Int} (H : Ordd E n o) : o.length ≤ n := by
  have key : ∀ (m : Nat) (l : List Int), l.Nodup → (∀ x ∈ l, 0 ≤ x ∧ x < (m : Int)) → l.length ≤ m := by
    intro m
    induction m with
    | zero =>
      intro l _ h
      cases l with
      | nil => simp
      | cons x l => have := h x List.mem_cons_self; omega
    | succ m ih =>
      intro l hn h
      have h1 := ih (l.filter (fun x => decide (x ≠ (m : Int)))) (hn.filter _) (fun x hx => by
        obtain ⟨h2, h3⟩ := List.mem_filter.1 hx
        have h4 := h x h2
        have h5 := of_decide_eq_true h3
        omega)
      have h2 : l.length ≤ (l.filter (fun x => decide (x ≠ (m : Int)))).length + 1 := by
        clear ih h1 h
        induction l with
        | nil => simp
        | cons x l ih =>
          rw [List.nodup_cons] at hn
          rw [List.filter_cons]
          by_cases hx : x = (m : Int)
          · rw [if_neg (by simp [hx])]
            have : l.filter (fun x => decide (x ≠ (m : Int))) = l := List.filter_eq_self.2 (fun y hy => by
              refine decide_eq_true (fun e => hn.1 ?_)
              rw [hx, ← e]; exact hy)
            rw [this]; simp
          · rw [if_pos (decide_eq_true hx)]
            have := ih hn.2
            simp only [List.length_cons]; omega
      omega
  exact key n o H.nodup H.rng
/-- Numbers are given. -/
theorem idom_l1 (g : List (List Int)) (hok : okG g = true) {E : Int → Int → Prop} {o : List Int} (H : Ordd E g.length o) (out r : List Int) (Hc : ∀ num, Nm o g.length num → ∃ k, graph_Idom.l2 k o num out (predsL g) true = some r) :
    ∀ (d i : Nat) (num : List Int), i + d = o.length → num.length = g.length → (∀ j, j < i → rd num (at_ o j) = j) → (∀ x, 0 ≤ x → x < (g.length : Int) → (∀ j, j < i → x ≠ at_ o j) → rd num x = -1) →
    ∃ k, graph_Idom.l1 k g o num out o o.length i = some r := by
  have hol := ordd_len H
  have hg := (okG_len hok).1
  intro d
  induction d with
  | zero =>
    intro i num hi hl h1 h2
    obtain ⟨k, hk⟩ := Hc num ⟨hl, fun j hj => h1 j (by omega), fun x h0 hx hm => h2 x h0 hx (fun j hj e => hm (e ▸ at_mem (by omega)))⟩
    refine ⟨k + 1, ?_⟩
    rw [graph_Idom.l1, if_neg (by omega), Preds_some g hok, Option.bind_some]
    exact hk
  | succ d ih =>
    intro i num hi hl h1 h2
    have hlt : i < o.length := by omega
    have hr := H.rng _ (at_mem hlt)
    have hrd : rd o i = at_ o i := rfl
    have hset : ∀ x, 0 ≤ x → x ≠ at_ o i → rd (num.set (at_ o i).toNat (i : Int)) x = rd num x := fun x h0 hn => by
      unfold rd
      rw [List.getD_eq_getElem?_getD, List.getD_eq_getElem?_getD, List.getElem?_set_ne (by omega)]
    have hself : rd (num.set (at_ o i).toNat (i : Int)) (at_ o i) = i := by
      unfold rd
      rw [List.getD_eq_getElem?_getD, List.getElem?_set_self (by omega)]
      rfl
    obtain ⟨k, hk⟩ := ih (i + 1) (num.set (at_ o i).toNat (i : Int)) (by omega) (by simpa using hl) (fun j hj => by
      by_cases e : j = i
      · subst e; exact hself
      · rw [hset _ (H.rng _ (at_mem (by omega))).1 (fun hh => e (at_inj H.nodup (by omega) hlt hh))]
        exact h1 j (by omega)) (fun x h0 hx hne => by
      rw [hset x h0 (hne i (by omega))]
      exact h2 x h0 hx (fun j hj => hne j (by omega)))
    refine ⟨k + 1, ?_⟩
    rw [graph_Idom.l1, if_pos (by omega), if_pos (by omega), if_pos (by omega), hrd, if_pos hr.1, if_pos (by omega), w64 (by omega) (by omega)]
    exact hk
theorem idom_l0 (g : List (List Int)) (hok : okG g = true) (o r : List Int) (Hc : ∃ k, graph_Idom.l1 k g o (List.replicate g.length (-1)) (List.replicate g.length (-1)) o o.length 0 = some r) :
    ∀ (d i : Nat) (x4 x5 : List Int), i + d = g.length → x4 = List.replicate i (-1) ++ List.replicate d 0 → x5 = List.replicate i (-1) ++ List.replicate d 0 → ∃ k, graph_Idom.l0 k g o x4 x5 g.length i = some r := by
  have hg := (okG_len hok).1
  intro d
  induction d with
  | zero =>
    intro i x4 x5 hi h4 h5
    obtain ⟨k, hk⟩ := Hc
    refine ⟨k + 1, ?_⟩
    rw [graph_Idom.l0, if_neg (by omega), h4, h5, List.replicate_zero, List.append_nil, show i = g.length from by omega]
    exact hk
  | succ d ih =>
    intro i x4 x5 hi h4 h5
    have hs : ∀ x : List Int, x = List.replicate i (-1) ++ List.replicate (d + 1) 0 → x.set i (-1) = List.replicate (i + 1) (-1) ++ List.replicate d 0 := by
      intro x hx
      rw [hx, List.set_append_right _ _ (by simp), List.length_replicate, Nat.sub_self, List.replicate_succ, List.set_cons_zero, List.replicate_succ', List.append_assoc]
      rfl
    obtain ⟨k, hk⟩ := ih (i + 1) (x4.set i (-1)) (x5.set i (-1)) (by omega) (hs x4 h4) (hs x5 h5)
    refine ⟨k + 1, ?_⟩
    have hl4 : x4.length = g.length := by rw [h4]; simp; omega
    have hl5 : x5.length = g.length := by rw [h5]; simp; omega
    rw [graph_Idom.l0, if_pos (by omega), if_pos (by omega), if_pos (by omega), if_pos (by omega), w64 (by omega) (by omega), Int.toNat_natCast]
    exact hk
/-- What graph.Idom tells. -/
structure IdomR (g : List (List Int)) (o r : List Int) (par : Nat → Nat) : Prop where
  ord : Ordd (Eg g) g.length o
  dn : Dn par
  lst : Ot o g.length o.length par r
  dom : ∀ u, u < o.length → ∀ d, An par d u ↔ DmP (Eg g) o d u
theorem idom_some (g : List (List Int)) (hok : okG g = true) (hn : 0 < g.length) (hn2 : g.length ≤ 1000) (o : List Int) (ho : ∃ k, graph_Order.f k g = some o) (H : Ordd (Eg g) g.length o) : ∃ k r par, graph_Idom.f k g = some r ∧ IdomR g o r par := by
  have hol := ordd_len H
  have hpr : ∀ u, u < o.length → ∀ x, x ∈ rd_L1 (predsL g) (at_ o u) ↔ Eg g x (at_ o u) := fun u hu x => mem_preds g x (at_ o u) (H.rng _ (at_mem hu))
  have hpl := predsL_len g
  have hrow : ∀ b, b < o.length → ∀ x ∈ rd_L1 (predsL g) (at_ o b), 0 ≤ x ∧ x < (g.length : Int) := fun b hb x hx => by
    have := eB_iff.1 ((hpr b hb x).1 hx)
    exact ⟨this.1, this.2.1⟩
  have hlen : ∀ b, b < o.length → (rd_L1 (predsL g) (at_ o b)).length ≤ 1000000 := fun b hb => by
    have hr := H.rng _ (at_mem hb)
    have e : rd_L1 (predsL g) (at_ o b) = (predsL g)[(at_ o b).toNat]'(by omega) := by
      unfold rd_L1
      rw [List.getD_eq_getElem?_getD, List.getElem?_eq_getElem (by omega)]
      rfl
    rw [e]
    exact (okG_len (okG_preds g hn2)).2 _ (List.getElem_mem _)
  have hO : Ot o g.length 1 (fun _ => 0) (List.replicate g.length (-1)) := by
    have hrep : ∀ x, 0 ≤ x → x < (g.length : Int) → rd (List.replicate g.length (-1)) x = -1 := fun x h0 h1 => by
      unfold rd
      rw [List.getD_eq_getElem?_getD, List.getElem?_replicate, if_pos (by omega)]
      rfl
    exact ⟨by simp, fun j h0 h1 => by omega, hrep 0 (Int.le_refl 0) (by omega), fun j _ hj => hrep _ (H.rng _ (at_mem hj)).1 (H.rng _ (at_mem hj)).2, fun x h0 h1 _ => hrep x h0 h1⟩
  -- the numbers that are given: one list
  have hnum : ∃ num, Nm o g.length num := by
    refine ⟨(List.range g.length).map (fun (x : Nat) => if (x : Int) ∈ o then ((o.idxOf (x : Int) : Nat) : Int) else -1), by simp, fun i hi => ?_, fun x h0 h1 hm => ?_⟩
    · have hr := H.rng _ (at_mem hi)
      unfold rd
      rw [List.getD_eq_getElem?_getD, List.getElem?_map, List.getElem?_range (by omega)]
      have e : (((at_ o i).toNat : Nat) : Int) = at_ o i := by omega
      simp only [Option.map_some, Option.getD_some, e, if_pos (at_mem hi)]
      have h1 : o.idxOf (at_ o i) < o.length := List.idxOf_lt_length_of_mem (at_mem hi)
      have hix : ∀ x ∈ o, at_ o (o.idxOf x) = x := fun x hx => by
        have h1 : o.idxOf x < o.length := List.idxOf_lt_length_of_mem hx
        unfold at_
        rw [List.getD_eq_getElem?_getD, List.getElem?_eq_getElem h1]
        exact List.getElem_idxOf h1
      have h2 := hix _ (at_mem hi)
      have := at_inj H.nodup h1 hi h2
      omega
    · unfold rd
      rw [List.getD_eq_getElem?_getD, List.getElem?_map, List.getElem?_range (by omega)]
      have e : ((x.toNat : Nat) : Int) = x := by omega
      simp only [Option.map_some, Option.getD_some, e, if_neg hm]
  have huniq : ∀ a b, Nm o g.length a → Nm o g.length b → a = b := by
    intro a b ha hb
    refine List.ext_getElem (ha.len.trans hb.len.symm) (fun i h1 h2 => ?_)
    have hg1 : ∀ l : List Int, (h : i < l.length) → rd l (i : Int) = l[i] := fun l h => by simp [rd, h]
    rw [← hg1 a h1, ← hg1 b h2]
    have hlt : i < g.length := by have := ha.len; omega
    by_cases hm : ((i : Nat) : Int) ∈ o
    · obtain ⟨j, hj, e⟩ := mem_at hm
      rw [← e, ha.on j hj, hb.on j hj]
    · rw [ha.off _ (by omega) (by omega) hm, hb.off _ (by omega) (by omega) hm]
  obtain ⟨num, hN⟩ := hnum
  have G := gr_of H hN hpr
  obtain ⟨k, r, hk, hR⟩ := chk_all H hN hpl G hrow hlen (by omega) hO
  obtain ⟨par, hd, hOt, hdom⟩ := rest_dom H hN hpr (fun x y he hx => H.closed x hx y he) hR
  obtain ⟨k1, hk1⟩ := idom_l1 g hok H (List.replicate g.length (-1)) r (fun num' hN' => by rw [huniq num' num hN' hN]; exact ⟨k, hk⟩) o.length 0 (List.replicate g.length (-1)) (by omega) (by simp) (fun j hj => by omega) (fun x h0 h1 _ => by
    unfold rd
    rw [List.getD_eq_getElem?_getD, List.getElem?_replicate, if_pos (by omega)]
    rfl)
  obtain ⟨k0, hk0⟩ := idom_l0 g hok o r ⟨k1, hk1⟩ g.length 0 (List.replicate g.length 0) (List.replicate g.length 0) (by omega) (by simp) (by simp)
  obtain ⟨k3, hk3⟩ := ho
  refine ⟨k3 + k0, r, par, ?_, ⟨H, hd, hOt, hdom⟩⟩
  have e1 := up (f := fun k => graph_Order.f k g) (fun k => graph_Order.mono _ _) (m := k3 + k0) (by omega) hk3
  have e2 := up (f := fun k => graph_Idom.l0 k g o (List.replicate g.length 0) (List.replicate g.length 0) g.length ((0 : Nat) : Int)) (fun k => (graph_Idom.mono_l k).1 _ _ _ _ _ _) (m := k3 + k0) (by omega) hk0
  unfold graph_Idom.f
  rw [e1, Option.bind_some, if_pos (by omega), if_pos (by omega), Int.toNat_natCast]
  exact e2
end Go.Proofs.Ytnmeomdjhjgnfaa.X
end
section
/-! Plain: dominance among blocks; what graph.Dominates tells by what graph.Idom tells. -/
set_option linter.unusedVariables false
set_option linter.unusedSimpArgs false
namespace Go.Proofs.Ytnmeomdjhjgnfaa.X
open Go.RowKit Go.Proofs.YtnmeomdjhjgnfaaW.PrintWords Go.Proofs.YtnmeomdjhjgnfaaW.PrintLast Go.Proofs.YtnmeomdjhjgnfaaW.PrintMore

/-- Come to from block 0. -/
def Rch (E : Int → Int → Prop) (x : Int) : Prop := RAv E (-1) x
/-- a dominates b. -/
def Dmb (E : Int → Int → Prop) (a b : Int) : Prop := Rch E a ∧ Rch E b ∧ (a = b ∨ ¬ RAv E a b)
theorem reach_iff {E : Int → Int → Prop} {n : Nat} {o : List Int} (H : Ordd E n o) (x : Int) : x ∈ o ↔ Rch E x := by
  constructor
  · intro hx
    have key : ∀ (k i : Nat), i ≤ k → i < o.length → Rch E (at_ o i) := by
      intro k
      induction k with
      | zero =>
        intro i hi hl
        obtain rfl : i = 0 := by omega
        rw [H.head]
        exact .start (by omega)
      | succ k ih =>
        intro i hi hl
        rcases Nat.eq_zero_or_pos i with rfl | h0
        · exact ih 0 (by omega) hl
        · obtain ⟨j, hj, he⟩ := H.fwd i h0 hl
          have := (H.rng _ (at_mem hl)).1
          exact .step (ih j (by omega) (by omega)) he (by omega)
    obtain ⟨i, hi, rfl⟩ := mem_at hx
    exact key i i (Nat.le_refl _) hi
  · intro h
    induction h with
    | start => rw [← H.head]; exact at_mem H.pos
    | step _ he _ ih => exact H.closed _ ih _ he
theorem Rch.of_av {E : Int → Int → Prop} {z x : Int} (hE : ∀ x y, E x y → 0 ≤ y) (h : RAv E z x) : Rch E x := by
  induction h with
  | start => exact .start (by omega)
  | step _ he _ ih => exact .step ih he (by have := hE _ _ he; omega)
theorem Rch.step {E : Int → Int → Prop} {x y : Int} (hE : ∀ x y, E x y → 0 ≤ y) (h : Rch E x) (he : E x y) : Rch E y := RAv.step h he (by have := hE _ _ he; omega)
theorem Eg_in {g : List (List Int)} {x y : Int} (h : Eg g x y) : 0 ≤ x ∧ x < g.length ∧ 0 ≤ y ∧ y < g.length := by
  have := eB_iff.1 h
  exact ⟨this.1, this.2.1, this.2.2.1, this.2.2.2.1⟩
theorem Eg_nn (g : List (List Int)) (x y : Int) (h : Eg g x y) : 0 ≤ y := (Eg_in h).2.2.1
theorem Rch.rng {g : List (List Int)} (hn : 0 < g.length) {x : Int} (h : Rch (Eg g) x) : 0 ≤ x ∧ x < g.length := by
  cases h with
  | start => omega
  | step _ he _ => have := Eg_in he; omega
theorem RAv.rng {g : List (List Int)} (hn : 0 < g.length) {z x : Int} (h : RAv (Eg g) z x) : 0 ≤ x ∧ x < g.length := by
  cases h with
  | start => omega
  | step _ he _ => have := Eg_in he; omega
section
variable {g : List (List Int)} {o r : List Int} {par : Nat → Nat}
theorem isB_iff (R : IdomR g o r par) (x : Int) : isB r x = true ↔ 0 ≤ x ∧ x < g.length := by
  unfold isB
  rw [R.lst.len, Bool.and_eq_true, decide_eq_true_eq, decide_eq_true_eq]
theorem loop_in (R : IdomR g o r par) (a : Int) (ha : 0 ≤ a) : ∀ (k u : Nat), u < k → u < o.length → (domLoop r a k (at_ o u) = true ↔ ∃ d, d < o.length ∧ a = at_ o d ∧ An par d u) := by
  intro k
  induction k with
  | zero => intro u h; omega
  | succ k ih =>
    intro u hk hu
    rw [domLoop]
    by_cases h : a = at_ o u
    · rw [if_pos h]
      exact ⟨fun _ => ⟨u, hu, h, .refl⟩, fun _ => rfl⟩
    · rw [if_neg h, if_pos ((isB_iff R _).2 (R.ord.rng _ (at_mem hu)))]
      rcases Nat.eq_zero_or_pos u with rfl | h0
      · rw [R.ord.head, R.lst.root]
        constructor
        · intro hh
          cases k with
          | zero => cases hh
          | succ k =>
            rw [domLoop, if_neg (by omega), if_neg (by rw [isB_iff R]; omega)] at hh
            cases hh
        · rintro ⟨d, hd, rfl, hA⟩
          have := hA.of_zero R.dn
          subst this
          exact absurd rfl h
      · have h2 := R.dn u h0
        rw [R.lst.on u h0 hu, ih (par u) (by omega) (by omega)]
        constructor
        · rintro ⟨d, hd, rfl, hA⟩
          exact ⟨d, hd, rfl, .up h0 hA⟩
        · rintro ⟨d, hd, rfl, hA⟩
          rcases hA.inv with rfl | ⟨_, hA⟩
          · exact absurd rfl h
          · exact ⟨d, hd, rfl, hA⟩
theorem loop_off (R : IdomR g o r par) (a b : Int) (ha : 0 ≤ a) (hb : 0 ≤ b ∧ b < g.length) (hm : b ∉ o) (k : Nat) : domLoop r a (k + 1) b = true ↔ a = b := by
  rw [domLoop]
  by_cases h : a = b
  · rw [if_pos h]; exact ⟨fun _ => h, fun _ => rfl⟩
  · rw [if_neg h, if_pos ((isB_iff R _).2 hb), R.lst.off b hb.1 hb.2 hm]
    refine ⟨fun hh => ?_, fun hh => absurd hh h⟩
    cases k with
    | zero => cases hh
    | succ k =>
      rw [domLoop, if_neg (by omega), if_neg (by rw [isB_iff R]; omega)] at hh
      cases hh
/-- What graph.Dominates tells by graph.Idom's list. -/
theorem domL_iff (R : IdomR g o r par) (a b : Int) : domL r a b = true ↔ (0 ≤ a ∧ a < g.length) ∧ (0 ≤ b ∧ b < g.length) ∧ (a = b ∨ Dmb (Eg g) a b) := by
  unfold domL
  rw [Bool.and_eq_true, Bool.and_eq_true, isB_iff R, isB_iff R, and_congr_right_iff]
  intro ha
  rw [and_congr_right_iff]
  intro hb
  by_cases hm : b ∈ o
  · obtain ⟨u, hu, rfl⟩ := mem_at hm
    have hol := ordd_len R.ord
    rw [loop_in R a ha.1 _ u (by rw [R.lst.len]; omega) hu]
    constructor
    · rintro ⟨d, hd, rfl, hA⟩
      refine .inr ⟨(reach_iff R.ord _).1 (at_mem hd), (reach_iff R.ord _).1 hm, ?_⟩
      rcases ((R.dom u hu d).1 hA).2.2 with h | h
      · exact .inl (by rw [h])
      · exact .inr h
    · rintro (rfl | ⟨h1, h2, h3⟩)
      · exact ⟨u, hu, rfl, .refl⟩
      · obtain ⟨d, hd, rfl⟩ := mem_at ((reach_iff R.ord _).2 h1)
        refine ⟨d, hd, rfl, (R.dom u hu d).2 ⟨hd, hu, ?_⟩⟩
        rcases h3 with h | h
        · exact .inl (at_inj R.ord.nodup hd hu h)
        · exact .inr h
  · rw [loop_off R a b ha.1 hb hm]
    constructor
    · exact .inl
    · rintro (h | ⟨_, h2, _⟩)
      · exact h
      · exact absurd ((reach_iff R.ord b).2 h2) hm
/-- Which edges go back. -/
theorem backL_iff (R : IdomR g o r par) (a b : Int) (ha : 0 ≤ a ∧ a < g.length) (hb : 0 ≤ b ∧ b < g.length) : backL r a b = true ↔ Dmb (Eg g) b a := by
  unfold backL
  rw [Bool.and_eq_true, Bool.or_eq_true, beq_iff_eq, decide_eq_true_eq, domL_iff R]
  have hr : (a = 0 ∨ 0 ≤ rd r a) ↔ Rch (Eg g) a := by
    rw [← reach_iff R.ord]
    constructor
    · rintro (rfl | h)
      · rw [← R.ord.head]; exact at_mem R.ord.pos
      · by_cases hm : a ∈ o
        · exact hm
        · rw [R.lst.off a ha.1 ha.2 hm] at h; omega
    · intro hm
      obtain ⟨u, hu, rfl⟩ := mem_at hm
      rcases Nat.eq_zero_or_pos u with rfl | h0
      · exact .inl R.ord.head
      · refine .inr ?_
        rw [R.lst.on u h0 hu]
        exact (R.ord.rng _ (at_mem (by have := R.dn u h0; omega))).1
  rw [hr]
  constructor
  · rintro ⟨h1, _, _, rfl | h⟩
    · exact ⟨h1, h1, .inl rfl⟩
    · exact h
  · intro h
    exact ⟨h.2.1, hb, ha, .inr h⟩
theorem dmb_an (R : IdomR g o r par) (a b : Int) : Dmb (Eg g) a b ↔ ∃ d u, d < o.length ∧ u < o.length ∧ a = at_ o d ∧ b = at_ o u ∧ An par d u := by
  constructor
  · rintro ⟨h1, h2, h3⟩
    obtain ⟨d, hd, rfl⟩ := mem_at ((reach_iff R.ord _).2 h1)
    obtain ⟨u, hu, rfl⟩ := mem_at ((reach_iff R.ord _).2 h2)
    refine ⟨d, u, hd, hu, rfl, rfl, (R.dom u hu d).2 ⟨hd, hu, h3.imp (fun h => at_inj R.ord.nodup hd hu h) id⟩⟩
  · rintro ⟨d, u, hd, hu, rfl, rfl, hA⟩
    exact ⟨(reach_iff R.ord _).1 (at_mem hd), (reach_iff R.ord _).1 (at_mem hu), ((R.dom u hu d).1 hA).2.2.imp (fun h => by rw [h]) id⟩
theorem dmb_places (R : IdomR g o r par) {d u : Nat} (hd : d < o.length) (hu : u < o.length) : Dmb (Eg g) (at_ o d) (at_ o u) ↔ An par d u := by
  rw [dmb_an R]
  constructor
  · rintro ⟨d', u', hd', hu', e1, e2, hA⟩
    rw [at_inj R.ord.nodup hd hd' e1, at_inj R.ord.nodup hu hu' e2]; exact hA
  · exact fun hA => ⟨d, u, hd, hu, rfl, rfl, hA⟩
theorem dmb_anti (R : IdomR g o r par) {a b : Int} (h : Dmb (Eg g) a b) (k : Dmb (Eg g) b a) : a = b := by
  obtain ⟨d, u, hd, hu, rfl, rfl, hA⟩ := (dmb_an R a b).1 h
  have hB := (dmb_places R hu hd).1 k
  have := hA.le R.dn
  have := hB.le R.dn
  rw [show d = u from by omega]
end
end Go.Proofs.Ytnmeomdjhjgnfaa.X
end
section
/-! Plain: what the laws share: rests, orders and dominators of a graph of plain numbers. -/
set_option linter.unusedVariables false
set_option linter.unusedSimpArgs false
namespace Go.Proofs.Ytnmeomdjhjgnfaa.X
open Go.RowKit Go.Proofs.YtnmeomdjhjgnfaaW.PrintWords Go.Proofs.YtnmeomdjhjgnfaaW.PrintLast Go.Proofs.YtnmeomdjhjgnfaaW.PrintMore

/-- Orders and dominators of a graph. -/
theorem get_idom (g : List (List Int)) (hok : okG g = true) (hn : 0 < g.length) (hn2 : g.length ≤ 1000) : ∃ k o r par, graph_Order.f k g = some o ∧ graph_Idom.f k g = some r ∧ IdomR g o r par := by
  obtain ⟨o, h1, H⟩ := order_some g hok hn g.length (Nat.le_refl _)
  obtain ⟨k, r, par, h2, R⟩ := idom_some g hok hn hn2 o ⟨_, h1⟩ H
  refine ⟨k + g.length, o, r, par, ?_, ?_, R⟩
  · exact up (f := fun k => graph_Order.f k g) (fun k => graph_Order.mono k g) (by omega) h1
  · exact up (f := fun k => graph_Idom.f k g) (fun k => graph_Idom.mono g k) (by omega) h2
theorem domf_some {g : List (List Int)} {o r : List Int} {par : Nat → Nat} (hok : okG g = true) (R : IdomR g o r par) (a b : Int) : graph_Dominates.f r a b = some (domL r a b) := by
  have := (okG_len hok).1
  have := R.lst.len
  unfold graph_Dominates.f
  rw [if_pos (by omega)]
end Go.Proofs.Ytnmeomdjhjgnfaa.X
end
section
/-! Plain: the reference's next, Without, Dom and Table: they end; what they tell. -/
set_option linter.unusedVariables false
set_option linter.unusedSimpArgs false
namespace Go.Proofs.Ytnmeomdjhjgnfaa.X
open Go.RowKit Go.Proofs.YtnmeomdjhjgnfaaW.PrintWords Go.Proofs.YtnmeomdjhjgnfaaW.PrintLast Go.Proofs.YtnmeomdjhjgnfaaW.PrintMore

/-- Some rounds suffice, and what comes out is Q. -/
def Ends {α : Type} (f : Nat → Option α) (Q : α → Prop) : Prop := ∃ k r, f k = some r ∧ Q r
theorem Ends.mono {α : Type} {f : Nat → Option α} {Q R : α → Prop} (h : Ends f Q) (hqr : ∀ r, Q r → R r) : Ends f R := by
  obtain ⟨k, r, hk, hq⟩ := h
  exact ⟨k, r, hk, hqr r hq⟩
theorem Ends.step {α : Type} {f g : Nat → Option α} {Q : α → Prop} (h : Ends g Q) (e : ∀ k, f (k + 1) = g k) : Ends f Q := by
  obtain ⟨k, r, hk, hq⟩ := h
  exact ⟨k + 1, r, (e k).trans hk, hq⟩
theorem Ends.same {α : Type} {f g : Nat → Option α} {Q : α → Prop} (h : Ends g Q) (e : ∀ k, f k = g k) : Ends f Q := by
  obtain ⟨k, r, hk, hq⟩ := h
  exact ⟨k, r, (e k).trans hk, hq⟩
/-- From some rounds on. -/
theorem Ends.late {α : Type} {f g : Nat → Option α} {Q : α → Prop} (m : Nat) (hg : ∀ k, LeO (g k) (g (k + 1))) (h : Ends g Q) (e : ∀ k, m ≤ k → f (k + 1) = g k) : Ends f Q := by
  obtain ⟨k, r, hk, hq⟩ := h
  exact ⟨k + m + 1, r, (e (k + m) (by omega)).trans (up hg (by omega) hk), hq⟩
theorem Ends.bind {α β : Type} {f : Nat → Option α} {g : Nat → α → Option β} {P : α → Prop} {Q : β → Prop} (hf : ∀ k, LeO (f k) (f (k + 1))) (hg : ∀ a k, LeO (g k a) (g (k + 1) a)) (h : Ends f P) (h2 : ∀ a, P a → Ends (fun k => g k a) Q) : Ends (fun k => (f k).bind (g k)) Q := by
  obtain ⟨k, a, hk, hp⟩ := h
  obtain ⟨m, r, hm, hq⟩ := h2 a hp
  refine ⟨k + m, r, ?_, hq⟩
  show (f (k + m)).bind (g (k + m)) = some r
  rw [up hf (m := k + m) (by omega) hk, Option.bind_some]
  exact up (f := fun k => g k a) (hg a) (by omega) hm

/-- The numbers from i on, d of them, that P holds of. -/
def upto (P : Int → Bool) : Nat → Int → List Int
  | 0, _ => []
  | d + 1, i => if P i = true then i :: upto P d (i + 1) else upto P d (i + 1)
theorem mem_upto (P : Int → Bool) : ∀ (d : Nat) (i x : Int), x ∈ upto P d i ↔ (i ≤ x ∧ x < i + d) ∧ P x = true
  | 0, i, x => by simp [upto]; omega
  | d + 1, i, x => by
    rw [upto]
    by_cases h : P i = true
    · rw [if_pos h, List.mem_cons, mem_upto P d (i + 1) x]
      constructor
      · rintro (rfl | ⟨h1, h2⟩)
        · exact ⟨by omega, h⟩
        · exact ⟨by omega, h2⟩
      · rintro ⟨h1, h2⟩
        by_cases e : x = i
        · exact .inl e
        · exact .inr ⟨by omega, h2⟩
    · rw [if_neg h, mem_upto P d (i + 1) x]
      constructor
      · rintro ⟨h1, h2⟩; exact ⟨by omega, h2⟩
      · rintro ⟨h1, h2⟩
        by_cases e : x = i
        · subst e; exact absurd h2 h
        · exact ⟨by omega, h2⟩
theorem upto_sorted (P : Int → Bool) : ∀ (d : Nat) (i : Int), (upto P d i).Pairwise (· < ·)
  | 0, _ => List.Pairwise.nil
  | d + 1, i => by
    rw [upto]
    split
    · exact List.pairwise_cons.2 ⟨fun x hx => by have := ((mem_upto P d (i + 1) x).1 hx).1; omega, upto_sorted P d (i + 1)⟩
    · exact upto_sorted P d (i + 1)
theorem upto_nodup (P : Int → Bool) (d : Nat) (i : Int) : (upto P d i).Nodup := (upto_sorted P d i).imp (fun h e => by omega)
/-- Rising rows of the same numbers are the same. -/
theorem sorted_eq {l m : List Int} (hl : l.Pairwise (· < ·)) (hm : m.Pairwise (· < ·)) (h : ∀ x, x ∈ l ↔ x ∈ m) : l = m := by
  refine List.Perm.eq_of_pairwise (le := (· < ·)) (fun a b _ _ h1 h2 => by omega) hl hm ?_
  exact (List.perm_ext_iff_of_nodup (hl.imp (fun h e => by omega)) (hm.imp (fun h e => by omega))).2 h
theorem upto_len (P : Int → Bool) : ∀ (d : Nat) (i : Int), (upto P d i).length ≤ d
  | 0, _ => by simp [upto]
  | d + 1, i => by
    have ih := upto_len P d (i + 1)
    rw [upto]
    split
    · simp; omega
    · omega
theorem upto_congr {P Q : Int → Bool} : ∀ (d : Nat) (i : Int), (∀ x, i ≤ x → x < i + d → P x = Q x) → upto P d i = upto Q d i
  | 0, _, _ => rfl
  | d + 1, i, h => by
    rw [upto, upto, h i (by omega) (by omega), upto_congr d (i + 1) (fun x h1 h2 => h x (by omega) (by omega))]
theorem upto_range (P : Int → Bool) : ∀ (d i : Nat), upto P d i = ((List.range' i d).map (fun (b : Nat) => (b : Int))).filter P
  | 0, _ => rfl
  | d + 1, i => by
    have ih := upto_range P d (i + 1)
    rw [upto, List.range'_succ, List.map_cons, List.filter_cons, ← ih]
    rfl
theorem keptL_upto (row : List Int) (n : Nat) : keptL row n = upto (fun b => row.contains b) n 0 := by
  have := upto_range (fun b => row.contains b) n 0
  rw [← List.range_eq_range'] at this
  unfold keptL
  rw [Int.toNat_natCast]
  exact this.symm

/-! ### next -/
def nextL (g : List (List Int)) (a : Int) : List Int := upto (eB g a) g.length 0
theorem mem_nextL (g : List (List Int)) (a b : Int) : b ∈ nextL g a ↔ Eg g a b := by
  unfold nextL
  rw [mem_upto]
  constructor
  · exact fun h => h.2
  · intro h
    have := Eg_in h
    exact ⟨by omega, h⟩
theorem next_l0 (g : List (List Int)) (hg : okG g = true) (a : Int) : ∀ (d : Nat) (x5 : List Int) (x6 : Int) (k : Nat), 0 ≤ x6 → x6 + d = g.length → (x5.length : Int) ≤ x6 → d + 1000003 ≤ k → jacquardref02_next.l0 (k + 1) g a x5 x6 = some (x5 ++ upto (eB g a) d x6) := by
  have hl := (okG_len hg).1
  intro d
  induction d with
  | zero =>
    intro x5 x6 k h0 hd h5 hk
    rw [jacquardref02_next.l0, if_neg (by omega)]
    simp [upto]
  | succ d ih =>
    intro x5 x6 k h0 hd h5 hk
    obtain ⟨k, rfl⟩ : ∃ m, k = m + 1 := ⟨k - 1, by omega⟩
    rw [jacquardref02_next.l0, if_pos (by omega), edge_some g hg _ _ (by omega), Option.bind_some, w64 (by omega) (by omega), upto]
    by_cases h : eB g a x6 = true
    · rw [if_pos h, if_pos h, if_pos (by omega), ih (x5 ++ [x6]) (x6 + 1) k (by omega) (by omega) (by rw [List.length_append]; simp; omega) (by omega)]
      simp
    · rw [if_neg h, if_neg h, ih x5 (x6 + 1) k (by omega) (by omega) (by omega) (by omega)]
theorem next_some (g : List (List Int)) (hg : okG g = true) (a : Int) {k : Nat} (hk : 2000005 ≤ k) : jacquardref02_next.f k g a = some (nextL g a) := by
  have hl := (okG_len hg).1
  obtain ⟨k, rfl⟩ : ∃ m, k = m + 1 := ⟨k - 1, by omega⟩
  unfold jacquardref02_next.f
  rw [next_l0 g hg a g.length [] 0 k (by omega) (by omega) (by simp) (by omega)]
  rfl

/-! ### Without -/
theorem cf_eq : ∀ (t s : List Bool), t.length = s.length → (∀ i, t.getD i false = true → s.getD i false = true) → cf t ≤ cf s → t = s := by
  unfold cf
  intro t
  induction t with
  | nil => intro s h _ _; exact (List.length_eq_zero_iff.1 h.symm).symm
  | cons x t ih =>
    intro s h hm hc
    cases s with
    | nil => simp at h
    | cons y s =>
      have hm2 : ∀ i, t.getD i false = true → s.getD i false = true := fun i => by have := hm (i + 1); simpa using this
      have h1 := cf_mono t s (by simpa using h) hm2
      have h2 := hm 0
      unfold cf at h1
      simp only [List.getD_cons_zero] at h2
      simp only [List.count_cons] at hc
      have e : x = y := by cases x <;> cases y <;> simp_all <;> omega
      subst e
      rw [ih s (by simpa using h) hm2 (by simpa using hc)]
theorem on_rd {t : List Bool} {y : Int} : rdOf false t y = true ↔ on t y := Iff.rfl
theorem on_setv {t : List Bool} {a y : Int} {v : Bool} (ha : 0 ≤ a ∧ a < t.length) (hy : 0 ≤ y) : on (t.set a.toNat v) y ↔ (y ≠ a ∧ on t y) ∨ (y = a ∧ v = true) := by
  unfold on
  rw [List.getD_eq_getElem?_getD, List.getD_eq_getElem?_getD]
  by_cases h : a.toNat = y.toNat
  · have e : y = a := by omega
    subst e
    rw [List.getElem?_set_self (by omega)]
    simp
  · have e : y ≠ a := fun e => h (by rw [e])
    rw [List.getElem?_set_ne h]
    simp [e]
section
variable {g : List (List Int)} {z : Int} {Q : List Bool → Prop}
theorem wo_l2 (x6 x7 : Int) (l : List Int) (hl : ∀ y ∈ l, 0 ≤ y ∧ y < (g.length : Int)) (hll : l.length ≤ 1000000) : ∀ (d : Nat) (x9 : Nat) (out : List Bool), x9 + d = l.length → out.length = g.length →
    (∀ out' : List Bool, out'.length = g.length → (∀ x, 0 ≤ x → (on out' x ↔ on out x ∨ (x ∈ l.drop x9 ∧ x ≠ z))) → Ends (fun k => jacquardref02_Without.l1 k g z out' x6 (wrap64 (x7 + 1))) Q) →
    Ends (fun k => jacquardref02_Without.l2 k g z out x6 x7 l x9) Q := by
  intro d
  induction d with
  | zero =>
    intro x9 out hd ho hc
    refine (hc out ho (fun x hx => by rw [List.drop_of_length_le (by omega)]; simp)).step (fun k => ?_)
    rw [jacquardref02_Without.l2, if_neg (by omega)]
  | succ d ih =>
    intro x9 out hd ho hc
    have hlt : x9 < l.length := by omega
    have hrd : rd l x9 = l[x9] := by simp [rd, hlt]
    have hy := hl (rd l x9) (by rw [hrd]; exact List.getElem_mem _)
    have hw : wrap64 ((x9 : Int) + 1) = ((x9 + 1 : Nat) : Int) := by rw [w64 (by omega) (by omega)]; omega
    have hdrop : l.drop x9 = rd l x9 :: l.drop (x9 + 1) := by rw [hrd]; exact List.drop_eq_getElem_cons hlt
    by_cases hon : on out (rd l x9)
    · refine (ih (x9 + 1) (out.set (rd l x9).toNat true) (by omega) (by simpa using ho) (fun out' ho' hx => hc out' ho' (fun x h0 => ?_))).step (fun k => ?_)
      · rw [hx x h0, hdrop, on_set (by omega) h0, List.mem_cons]
        constructor
        · rintro ((h | h) | h)
          · exact .inl h
          · subst h; exact .inl hon
          · exact .inr ⟨.inr h.1, h.2⟩
        · rintro (h | ⟨h1 | h1, h2⟩)
          · exact .inl (.inl h)
          · exact .inl (.inr h1)
          · exact .inr ⟨h1, h2⟩
      · rw [jacquardref02_Without.l2, if_pos (by omega), if_pos (by omega), if_pos hy.1, if_pos (by omega), if_pos (on_rd.2 hon), hw]
    · refine (ih (x9 + 1) (out.set (rd l x9).toNat ((rd l x9) != z)) (by omega) (by simpa using ho) (fun out' ho' hx => hc out' ho' (fun x h0 => ?_))).step (fun k => ?_)
      · rw [hx x h0, hdrop, on_setv (by omega) h0, List.mem_cons, bne_iff_ne]
        constructor
        · rintro ((h | h) | h)
          · exact .inl h.2
          · exact .inr ⟨.inl h.1, by rw [h.1]; exact h.2⟩
          · exact .inr ⟨.inr h.1, h.2⟩
        · rintro (h | ⟨h1 | h1, h2⟩)
          · exact .inl (.inl ⟨fun e => hon (e ▸ h), h⟩)
          · exact .inl (.inr ⟨h1, by rw [← h1]; exact h2⟩)
          · exact .inr ⟨h1, h2⟩
      · rw [jacquardref02_Without.l2, if_pos (by omega), if_pos (by omega), if_pos hy.1, if_pos (by omega), if_neg (fun h => hon (on_rd.1 h)), hw]
theorem nextL_in (g : List (List Int)) (a : Int) : ∀ y ∈ nextL g a, 0 ≤ y ∧ y < (g.length : Int) := fun y hy => by
  have := Eg_in ((mem_nextL g a y).1 hy)
  exact ⟨this.2.2.1, this.2.2.2⟩
theorem wo_l1 (hg : okG g = true) (x6 : Int) : ∀ (d : Nat) (x7 : Int) (out : List Bool), 0 ≤ x7 → x7 + d = g.length → out.length = g.length → (∀ x, 0 ≤ x → on out x → RAv (Eg g) z x) →
    (∀ out' : List Bool, out'.length = g.length → (∀ x, 0 ≤ x → on out' x → RAv (Eg g) z x) → (∀ x, 0 ≤ x → on out x → on out' x) → (∀ a, x7 ≤ a → on out a → ∀ b, Eg g a b → b ≠ z → on out' b) → Ends (fun k => jacquardref02_Without.l0 k g z out' (wrap64 (x6 + 1))) Q) →
    Ends (fun k => jacquardref02_Without.l1 k g z out x6 x7) Q := by
  have hn := (okG_len hg).1
  intro d
  induction d with
  | zero =>
    intro x7 out h0 hd ho hs hc
    refine (hc out ho hs (fun x _ h => h) (fun a ha hon b he _ => ?_)).step (fun k => ?_)
    · have := Eg_in he
      omega
    · rw [jacquardref02_Without.l1, if_neg (by omega)]
  | succ d ih =>
    intro x7 out h0 hd ho hs hc
    have hw : wrap64 (x7 + 1) = x7 + 1 := w64 (by omega) (by omega)
    by_cases hon : on out x7
    · have h2 := wo_l2 (g := g) (z := z) (Q := Q) x6 x7 (nextL g x7) (nextL_in g x7) (by have := upto_len (eB g x7) g.length 0; unfold nextL; omega) (nextL g x7).length 0 out (by omega) ho (fun out1 ho1 hx1 => by
        rw [hw]
        have hx1' : ∀ x, 0 ≤ x → (on out1 x ↔ on out x ∨ (Eg g x7 x ∧ x ≠ z)) := fun x hx => by rw [hx1 x hx, List.drop_zero, mem_nextL]
        refine ih (x7 + 1) out1 (by omega) (by omega) ho1 (fun x hx h => ?_) (fun out' ho' hs' hm' hcl' => hc out' ho' hs' (fun x hx h => hm' x hx ((hx1' x hx).2 (.inl h))) (fun a ha hona b he hb => ?_))
        · rcases (hx1' x hx).1 h with h | ⟨h1, h2⟩
          · exact hs x hx h
          · exact .step (hs x7 h0 hon) h1 h2
        · have hr := Eg_in he
          by_cases e : a = x7
          · subst e
            exact hm' b hr.2.2.1 ((hx1' b hr.2.2.1).2 (.inr ⟨he, hb⟩))
          · exact hcl' a (by omega) ((hx1' a (by omega)).2 (.inl hona)) b he hb)
      refine Ends.late 2000005 (fun k => (jacquardref02_Without.mono_l k).2.2.2 _ _ _ _ _ _ _) h2 (fun k hk => ?_)
      rw [jacquardref02_Without.l1, if_pos (by omega), if_pos h0, if_pos (by omega), if_pos (on_rd.2 hon), next_some g hg x7 hk]
      rfl
    · refine (ih (x7 + 1) out (by omega) (by omega) ho hs (fun out' ho' hs' hm' hcl' => hc out' ho' hs' hm' (fun a ha hona => hcl' a (by
        by_cases e : a = x7
        · subst e; exact absurd hona hon
        · omega) hona))).step (fun k => ?_)
      rw [jacquardref02_Without.l1, if_pos (by omega), if_pos h0, if_pos (by omega), if_neg (fun h => hon (on_rd.1 h)), hw]
theorem getD_on {t : List Bool} {i : Nat} : t.getD i false = true ↔ on t (i : Int) := by unfold on; rw [Int.toNat_natCast]
theorem wo_l0 (hg : okG g = true) (hn : 0 < g.length) (hz : z ≠ 0) : ∀ (d : Nat) (x6 : Int) (out : List Bool), 0 ≤ x6 → x6 + d = g.length → out.length = g.length → on out 0 → (∀ x, 0 ≤ x → on out x → RAv (Eg g) z x) →
    ((∀ x, RAv (Eg g) z x → on out x) ∨ cf out ≤ d) → Ends (fun k => jacquardref02_Without.l0 k g z out x6) (fun r => r.length = g.length ∧ ∀ x, 0 ≤ x → (on r x ↔ RAv (Eg g) z x)) := by
  have hl := (okG_len hg).1
  intro d
  induction d with
  | zero =>
    intro x6 out h0 hd ho hon hs hm
    refine ⟨1, out, by show jacquardref02_Without.l0 (0 + 1) g z out x6 = _; rw [jacquardref02_Without.l0, if_neg (by omega)], ho, fun x hx => ⟨hs x hx, fun h => ?_⟩⟩
    rcases hm with hm | hm
    · exact hm x h
    · have hr : 0 ≤ x ∧ x < g.length := by
        cases h with
        | start => omega
        | step _ he _ => have := Eg_in he; omega
      by_cases hx : on out x
      · exact hx
      · have := cf_set out x.toNat (by omega) (by unfold on at hx; simpa using hx)
        omega
  | succ d ih =>
    intro x6 out h0 hd ho hon hs hm
    refine (wo_l1 hg x6 g.length 0 out (by omega) (by omega) ho hs (fun out' ho' hs' hm' hcl' => ?_)).step (fun k => by rw [jacquardref02_Without.l0, if_pos (by omega)])
    rw [w64 (by omega) (by omega)]
    refine ih (x6 + 1) out' (by omega) (by omega) ho' (hm' 0 (by omega) hon) hs' ?_
    have hmm : ∀ i, out.getD i false = true → out'.getD i false = true := fun i h => getD_on.2 (hm' _ (by omega) (getD_on.1 h))
    rcases hm with hm | hm
    · refine .inl (fun x hx => hm' x ?_ (hm x hx))
      cases hx with
      | start => omega
      | step _ he _ => have := Eg_in he; omega
    · by_cases hc : cf out ≤ cf out'
      · have e := cf_eq out out' (ho.trans ho'.symm) hmm hc
        subst e
        refine .inl (fun x hx => ?_)
        induction hx with
        | start => exact hon
        | step hx he hb ihx =>
          have := Eg_in he
          exact hcl' _ this.1 ihx _ he hb
      · exact .inr (by omega)
end
/-- What the reference's Without tells. -/
def WoR (g : List (List Int)) (z : Int) (r : List Bool) : Prop := r.length = g.length ∧ ∀ x, 0 ≤ x → (on r x ↔ RAv (Eg g) z x)
theorem wo_some (g : List (List Int)) (hg : okG g = true) (hn : 0 < g.length) (z : Int) : Ends (fun k => jacquardref02_Without.f k g z) (WoR g z) := by
  have hl := (okG_len hg).1
  by_cases hz : z = 0
  · subst hz
    refine ⟨1, List.replicate g.length false, ?_, by simp, fun x hx => ⟨fun h => ?_, fun h => ?_⟩⟩
    · show jacquardref02_Without.f (0 + 1) g 0 = _
      unfold jacquardref02_Without.f
      rw [if_pos (by omega), if_pos (by omega), Option.bind_some, if_neg (by omega), jacquardref02_Without.j0, if_pos (by rfl), Int.toNat_natCast]
    · unfold on at h
      rw [List.getD_eq_getElem?_getD, List.getElem?_replicate] at h
      split at h <;> cases h
    · have : ∀ y, RAv (Eg g) 0 y → False := by
        intro y hy
        induction hy with
        | start h => exact h rfl
        | step _ _ _ ih => exact ih
      exact (this x h).elim
  · have hrep : (List.replicate g.length false).length = g.length := by simp
    have h := wo_l0 (g := g) (z := z) hg hn hz g.length 0 ((List.replicate g.length false).set (0 : Int).toNat true) (by omega) (by omega) (by simp) ((on_set (by omega) (by omega)).2 (.inr rfl)) (fun x hx h => by
      rw [on_set (by omega) hx] at h
      rcases h with h | h
      · unfold on at h
        rw [List.getD_eq_getElem?_getD, List.getElem?_replicate] at h
        split at h <;> cases h
      · subst h; exact .start hz) (.inr (by
        have := cf_set (List.replicate g.length false) 0 (by omega) (by rw [List.getD_eq_getElem?_getD, List.getElem?_replicate]; split <;> rfl)
        have h2 : cf (List.replicate g.length false) ≤ g.length := by have := List.count_le_length (a := false) (l := List.replicate g.length false); unfold cf; omega
        show cf ((List.replicate g.length false).set 0 true) ≤ g.length
        omega))
    refine h.step (fun k => ?_)
    have hb : (z == 0) = false := by simpa using hz
    unfold jacquardref02_Without.f
    rw [if_pos (by omega), if_pos (by omega), Option.bind_some, if_neg (by omega), hb, jacquardref02_Without.j0, if_neg (by decide), Int.toNat_natCast, if_pos (by rw [hrep]; omega)]
theorem WoR.rd {g : List (List Int)} {z : Int} {r : List Bool} (h : WoR g z r) (x : Int) (hx : 0 ≤ x) : rdOf false r x = true ↔ RAv (Eg g) z x := h.2 x hx
end Go.Proofs.Ytnmeomdjhjgnfaa.X
end
section
/-! Plain: the reference's Dom; rests. -/
set_option linter.unusedVariables false
set_option linter.unusedSimpArgs false
namespace Go.Proofs.Ytnmeomdjhjgnfaa.X
open Go.RowKit Go.Proofs.YtnmeomdjhjgnfaaW.PrintWords Go.Proofs.YtnmeomdjhjgnfaaW.PrintLast Go.Proofs.YtnmeomdjhjgnfaaW.PrintMore

theorem dom_some (g : List (List Int)) (hg : okG g = true) (hn : 0 < g.length) (a b : Int) : Ends (fun k => jacquardref02_Dom.f k g a b) (fun r => r = true ↔ Dmb (Eg g) a b) := by
  refine Ends.bind (f := fun k => jacquardref02_Without.f k g (-1)) (fun k => jacquardref02_Without.mono _ _ k) (fun all k => ?_) (wo_some g hg hn (-1)) (fun all hall => ?_)
  · refine LeO.ite (LeO.refl _) (LeO.ite (LeO.refl _) (LeO.ite (LeO.refl _) (LeO.ite (LeO.refl _) (LeO.ite (LeO.ite (LeO.ite (LeO.ite (LeO.ite (LeO.ite (LeO.ite (LeO.refl _) ?_) (LeO.refl _)) (LeO.refl _)) (LeO.refl _)) (LeO.refl _)) (LeO.refl _)) (LeO.refl _)))))
    exact LeO.bind (jacquardref02_Without.mono _ _ _) (fun _ => LeO.refl _)
  · have hl := hall.1
    have no : (¬ Dmb (Eg g) a b) → ((false : Bool) = true ↔ Dmb (Eg g) a b) := fun h => ⟨fun h2 => (nomatch h2), fun h2 => absurd h2 h⟩
    by_cases h1 : a < 0
    · exact ⟨0, false, by simp only [if_pos h1], no (fun h => by have := RAv.rng hn h.1; omega)⟩
    by_cases h2 : a ≥ (g.length : Int)
    · exact ⟨0, false, by simp only [if_neg h1, if_pos h2], no (fun h => by have := RAv.rng hn h.1; omega)⟩
    by_cases h3 : b < 0
    · exact ⟨0, false, by simp only [if_neg h1, if_neg h2, if_pos h3], no (fun h => by have := RAv.rng hn h.2.1; omega)⟩
    by_cases h4 : b ≥ (g.length : Int)
    · exact ⟨0, false, by simp only [if_neg h1, if_neg h2, if_neg h3, if_pos h4], no (fun h => by have := RAv.rng hn h.2.1; omega)⟩
    have e1 : 0 ≤ a := by omega
    have e2 : a < (all.length : Int) := by omega
    have e3 : 0 ≤ b := by omega
    have e4 : b < (all.length : Int) := by omega
    by_cases h5 : rdOf false all a = true
    · by_cases h6 : rdOf false all b = true
      · have ra := (hall.rd a e1).1 h5
        have rb := (hall.rd b e3).1 h6
        by_cases h7 : a = b
        · exact ⟨0, true, by simp only [if_neg h1, if_neg h2, if_neg h3, if_neg h4, if_pos e1, if_pos e2, if_pos h5, if_pos e3, if_pos e4, if_pos h6, if_pos h7], ⟨fun _ => ⟨ra, rb, .inl h7⟩, fun _ => rfl⟩⟩
        · obtain ⟨k, r, hk, hr⟩ := wo_some g hg hn a
          have e5 : b < (r.length : Int) := by have := hr.1; omega
          refine ⟨k, !(rdOf false r b), ?_, ?_⟩
          · replace hk : jacquardref02_Without.f k g a = some r := hk
            simp only [if_neg h1, if_neg h2, if_neg h3, if_neg h4, if_pos e1, if_pos e2, if_pos h5, if_pos e3, if_pos e4, if_pos h6, if_neg h7]
            rw [hk, Option.bind_some, if_pos e5]
          · show (!(rdOf false r b)) = true ↔ Dmb (Eg g) a b
            rw [Bool.not_eq_true', ← Bool.not_eq_true, hr.rd b e3]
            exact ⟨fun h => ⟨ra, rb, .inr h⟩, fun h => h.2.2.resolve_left h7⟩
      · exact ⟨0, false, by simp only [if_neg h1, if_neg h2, if_neg h3, if_neg h4, if_pos e1, if_pos e2, if_pos h5, if_pos e3, if_pos e4, if_neg h6], no (fun h => h6 ((hall.rd b e3).2 h.2.1))⟩
    · exact ⟨0, false, by simp only [if_neg h1, if_neg h2, if_neg h3, if_neg h4, if_pos e1, if_pos e2, if_neg h5], no (fun h => h5 ((hall.rd a e1).2 h.1))⟩

theorem rest_some (a n : Int) (h0 : 0 < n) (h1 : n ≤ 1000000) : ∃ x, jacquardlaw02_rest.f a n = some x ∧ 0 ≤ x ∧ x < n := by
  have hm1 := Int.tmod_lt_of_pos a h0
  have hm2 := Int.lt_tmod_of_pos a h0
  have e4 : wrap64 (Int.tmod a n + n) = Int.tmod a n + n := w64 (by omega) (by omega)
  refine ⟨_, by unfold jacquardlaw02_rest.f; rw [if_neg (by omega)], ?_, ?_⟩
  · rw [e4]; exact Int.tmod_nonneg _ (by omega)
  · exact Int.tmod_lt_of_pos _ h0
end Go.Proofs.Ytnmeomdjhjgnfaa.X
end
section
/-! The plain law of GraphIdom. -/
set_option linter.unusedSimpArgs false
set_option linter.unusedVariables false
namespace Go.Proofs.Ytnmeomdjhjgnfaa.Pure
open Go.RowKit Go.Proofs.Ytnmeomdjhjgnfaa.X Go.Proofs.YtnmeomdjhjgnfaaW.PrintWords Go.Proofs.YtnmeomdjhjgnfaaW.PrintLast

theorem idom_j0 {g : List (List Int)} {o r : List Int} {par : Nat → Nat} (hok : okG g = true) (hn : 0 < g.length) (R : IdomR g o r par) (x y : Int) (hx : 0 ≤ x ∧ x < (g.length : Int)) (hy : 0 ≤ y ∧ y < (g.length : Int)) (fl : Bool) (hf : fl = true → ¬ (Rch (Eg g) x ∧ Rch (Eg g) y)) (hf2 : fl = false → Rch (Eg g) x ∧ Rch (Eg g) y) :
    ∃ k, jacquardlaw02_GraphIdom.j0 k true g r x y fl = some true := by
  cases fl with
  | true =>
    refine ⟨0 + 1, ?_⟩
    rw [jacquardlaw02_GraphIdom.j0, if_pos rfl, if_pos rfl]
    by_cases e : x = y
    · rw [if_pos e]
    · rw [if_neg e, domf_some hok R, Option.bind_some]
      have : domL r x y = false := by
        rw [← Bool.not_eq_true, domL_iff R]
        rintro ⟨_, _, h | h⟩
        · exact e h
        · exact hf rfl ⟨h.1, h.2.1⟩
      rw [this]; rfl
  | false =>
    obtain ⟨k, b, hk, hb⟩ := dom_some g hok hn x y
    replace hk : jacquardref02_Dom.f k g x y = some b := hk
    refine ⟨k + 1, ?_⟩
    rw [jacquardlaw02_GraphIdom.j0, if_neg (by decide), hk, Option.bind_some, if_pos rfl, domf_some hok R, Option.bind_some]
    have hr := hf2 rfl
    have : domL r x y = b := by
      rw [Bool.eq_iff_iff, domL_iff R, hb]
      constructor
      · rintro ⟨_, _, rfl | h⟩
        · exact ⟨hr.1, hr.2, .inl rfl⟩
        · exact h
      · exact fun h => ⟨hx, hy, .inr h⟩
    rw [this]
    simp
theorem GraphIdom : jacquardlaw02_GraphIdom.Pure := by
  intro l0 a1 a2 _ hs _ _ _
  obtain ⟨k1, g, hk1, hG⟩ := made_some l0 hs
  have hf := hG.few
  have hn := hG.pos
  obtain ⟨k2, o, r, par, _, hk2, R⟩ := get_idom g hG.ok (by omega) (by omega)
  obtain ⟨x, hx, hx0, hx1⟩ := rest_some a1 g.length (by omega) (by omega)
  obtain ⟨y, hy, hy0, hy1⟩ := rest_some a2 g.length (by omega) (by omega)
  obtain ⟨k3, all, hk3, hall⟩ := wo_some g hG.ok (by omega) (-1)
  replace hk3 : jacquardref02_Without.f k3 g (-1) = some all := hk3
  have hal := hall.1
  have key : ∀ (fl : Bool), (fl = true → ¬ (Rch (Eg g) x ∧ Rch (Eg g) y)) → (fl = false → Rch (Eg g) x ∧ Rch (Eg g) y) → ∃ K, ∀ k, K ≤ k → jacquardlaw02_GraphIdom.j0 k true g r x y fl = some true := fun fl h1 h2 => by
    obtain ⟨k, hk⟩ := idom_j0 hG.ok (by omega) R x y ⟨hx0, hx1⟩ ⟨hy0, hy1⟩ fl h1 h2
    exact ⟨k, fun m hm => up (f := fun k => jacquardlaw02_GraphIdom.j0 k true g r x y fl) (fun k => jacquardlaw02_GraphIdom.mono_l k _ _ _ _ _ _) hm hk⟩
  have fin : ∃ K, ∀ k, K ≤ k → (if 0 ≤ x then (if x < (all.length : Int) then (if rdOf false all x = true then (if 0 ≤ y then (if y < (all.length : Int) then (jacquardlaw02_GraphIdom.j0 k true g r x y (!(rdOf false all y))) else (none)) else (none)) else (jacquardlaw02_GraphIdom.j0 k true g r x y true)) else (none)) else (none)) = some true := by
    by_cases h1 : rdOf false all x = true
    · obtain ⟨K, hK⟩ := key (!(rdOf false all y)) (fun h => by
        rw [Bool.not_eq_true', ← Bool.not_eq_true, hall.rd y hy0] at h
        exact fun hh => h hh.2) (fun h => by
        rw [Bool.not_eq_false', hall.rd y hy0] at h
        exact ⟨(hall.rd x hx0).1 h1, h⟩)
      refine ⟨K, fun k hk => ?_⟩
      rw [if_pos hx0, if_pos (by omega), if_pos h1, if_pos hy0, if_pos (by omega)]
      exact hK k hk
    · obtain ⟨K, hK⟩ := key true (fun _ hh => h1 ((hall.rd x hx0).2 hh.1)) (fun h => (nomatch h))
      refine ⟨K, fun k hk => ?_⟩
      rw [if_pos hx0, if_pos (by omega), if_neg h1]
      exact hK k hk
  obtain ⟨K, hK⟩ := fin
  refine ⟨k1 + k2 + k3 + K, ?_⟩
  have e1 := up (f := fun k => jacquardref02_Made.f k l0) (fun k => jacquardref02_Made.mono _ _) (m := k1 + k2 + k3 + K) (by omega) hk1
  have e2 := up (f := fun k => graph_Idom.f k g) (fun k => graph_Idom.mono g k) (m := k1 + k2 + k3 + K) (by omega) hk2
  have e3 := up (f := fun k => jacquardref02_Without.f k g (-1)) (fun k => jacquardref02_Without.mono _ _ k) (m := k1 + k2 + k3 + K) (by omega) hk3
  unfold jacquardlaw02_GraphIdom.f
  unfold jacquardlaw02_awake.f
  simp only [Option.bind_some]
  rw [e1]
  simp only [Option.bind_some]
  rw [e2]
  simp only [Option.bind_some]
  rw [hx]
  simp only [Option.bind_some]
  rw [hy]
  simp only [Option.bind_some]
  rw [e3]
  simp only [Option.bind_some]
  exact hK _ (by omega)
end Go.Proofs.Ytnmeomdjhjgnfaa.Pure
end
