/- graph.Body, by hand. -/
import Derived.Test.YtnmeomdjhjgnfaaGred
set_option linter.unusedSimpArgs false
namespace Go.Proofs.Ytnmeomdjhjgnfaa.X
open Go.RowKit Go.Shelf Go.Proofs.YtnmeomdjhjgnfaaW.PrintWords Go.Proofs.YtnmeomdjhjgnfaaW.PrintLast Go.Proofs.YtnmeomdjhjgnfaaW.PrintMore
set_option linter.unusedVariables false
attribute [local go_sem] Oper.semAt_some

def opL (d : List Int) (h : Int) (es : List (Int × Int)) : List Int := (es.filter fun e => e.2 == h && backL d e.1 e.2).map (·.1)
theorem opL_snoc (d : List Int) (h : Int) (es : List (Int × Int)) (a b : Int) : opL d h (es ++ [(a, b)]) = if (b == h && backL d a b) = true then opL d h es ++ [a] else opL d h es := by
  unfold opL
  rw [List.filter_append, List.map_append]
  simp only [List.filter_cons, List.filter_nil]
  split <;> simp
theorem opL_length (d : List Int) (h : Int) (es : List (Int × Int)) : (opL d h es).length ≤ es.length := by
  unfold opL; rw [List.length_map]; exact List.length_filter_le _ _

/-- The code's end is a return. -/
def onlyRet (Q : Exit → Act → World → Prop) : Exit → Act → World → Prop
  | .ret, a, w => Q .ret a w
  | _, _, _ => False
theorem wpIn_onlyRet {F : Fence} {n : Nat} {P : Program} {c : Code} {Q : Exit → Act → World → Prop} {a : Act} {w : World} (h : c.wpIn F n P (onlyRet Q) a w) : c.wpIn F n P Q a w :=
  wpIn_mono h (fun e a w h => by cases e <;> first | exact h | exact h.elim)
theorem preds_in_fold (n : Nat) (es : List (Int × Int)) : ∀ rows : List (List Int), (∀ r ∈ rows, ∀ x ∈ r, 0 ≤ x ∧ x < (n : Int)) → (∀ e ∈ es, 0 ≤ e.1 ∧ e.1 < n) → ∀ r ∈ es.foldl predStep rows, ∀ x ∈ r, 0 ≤ x ∧ x < n := by
  induction es with
  | nil => intro rows h _; exact h
  | cons e es ih =>
    intro rows h he
    refine ih _ (fun r hr x hx => ?_) (fun e' h' => he e' (List.mem_cons_of_mem _ h'))
    rcases List.mem_or_eq_of_mem_set hr with hr | rfl
    · exact h r hr x hx
    · rcases List.mem_append.1 hx with hx | hx
      · rcases getD_mem rows e.2.toNat with h2 | h2
        · rw [h2] at hx; cases hx
        · exact h _ h2 x hx
      · rw [List.mem_singleton.1 hx]; exact he e List.mem_cons_self
theorem predsL_in (g : List (List Int)) : ∀ r ∈ predsL g, ∀ x ∈ r, 0 ≤ x ∧ x < g.length :=
  preds_in_fold g.length (edgesL g) _ (fun r hr x hx => by rw [List.eq_of_mem_replicate hr] at hx; cases hx) (fun e he => (edgesL_in g e he).1)
theorem getD_mem' (l : List (List Int)) (i : Nat) : ∀ x ∈ l.getD i [], l.getD i [] ∈ l := by
  intro x hx
  rcases getD_mem l i with h | h
  · rw [h] at hx; cases hx
  · exact h
theorem MB.same {w w' : World} {b n : Nat} {f : Int → Bool} (h : MB w b n f) (he : w'.heap[b]? = w.heap[b]?) : MB w' b n f := by
  obtain ⟨D, ⟨es, clock, hb', F, hs, hD⟩, hf⟩ := h.own
  exact ⟨D, ⟨es, clock, he.trans hb', F, hs, hD⟩, hf⟩
/-- Memory while the loop's blocks are gathered. -/
structure BdIn (w wL : World) (b9 bm D : Nat) (o s : List Int) (W : World) : Prop where
  box : ∃ v, W.heap[b9]? = some (.cells #[v] 23 (0, 0)) ∧ (Kd.int .i64).R 3 W wL.heap.size (fun _ => True) v o
  map : MB W bm s.length (fun x => s.contains x)
  stay : ∀ k, k < b9 → k ≠ bm → W.heap[k]? = wL.heap[k]?
  below : Below w.heap.size w W
  defer : W.heap[D]? = some (.deferred (some []))
  far : wL.heap.size ≤ W.heap.size
theorem bd_store {w wL W : World} {b9 bm D : Nat} {o' s : List Int} {v v' : Value} (hv : W.heap[b9]? = some (.cells #[v] 23 (0, 0))) (hmap : MB W bm s.length (fun x => s.contains x)) (hstay : ∀ k, k < b9 → k ≠ bm → W.heap[k]? = wL.heap[k]?) (hbelow : Below w.heap.size w W)
    (hdefer : W.heap[D]? = some (.deferred (some []))) (hf : wL.heap.size ≤ W.heap.size) (hw : w.heap.size ≤ bm) (h1 : bm < b9) (h2 : b9 < wL.heap.size) (h3 : wL.heap.size ≤ D) (hR : (Kd.int .i64).R 3 W wL.heap.size (fun _ => True) v' o') :
    BdIn w wL b9 bm D o' s (W.setCell ⟨b9, 0, none⟩ v') := by
  have hg := grownBy_setCell_b W b9 0 v'
  have hne : ∀ k, k < W.heap.size → k ≠ b9 → (W.setCell ⟨b9, 0, none⟩ v').heap[k]? = W.heap[k]? := fun k hk hn => hg.block k hk (by intro e; injection e with e; exact hn e)
  refine ⟨⟨v', heap_box hv _, Kd.R_mono (Kd.R_step (Kd.R_bound hR) (fun k hk hlt => hne k hlt (by have := hk.2.1; omega))) (fun _ _ => trivial)⟩, hmap.same (hne bm (by omega) (by omega)), fun k hk hn => (hne k (by omega) (by omega)).trans (hstay k hk hn),
    hbelow.grown hg hbelow.size (fun k e => by injection e with e; omega), (hne D (Array.getElem?_eq_some_iff.1 hdefer).1 (by omega)).trans hdefer, Nat.le_trans hf hg.size⟩
theorem BdIn.pop {w wL W : World} {b9 bm D : Nat} {o o' s : List Int} {v' : Value} (h : BdIn w wL b9 bm D o s W) (hw : w.heap.size ≤ bm) (h1 : bm < b9) (h2 : b9 < wL.heap.size) (h3 : wL.heap.size ≤ D) (hR : (Kd.int .i64).R 3 W wL.heap.size (fun _ => True) v' o') :
    BdIn w wL b9 bm D o' s (W.setCell ⟨b9, 0, none⟩ v') := by
  obtain ⟨v, hv, _⟩ := h.box
  exact bd_store hv h.map h.stay h.below h.defer h.far hw h1 h2 h3 hR
theorem BdIn.put {w wL W W' : World} {b9 bm D : Nat} {o s s' : List Int} (h : BdIn w wL b9 bm D o s W) (hw : w.heap.size ≤ bm) (h1 : bm < b9) (h2 : b9 < wL.heap.size) (h3 : wL.heap.size ≤ D) (hg : W.grownBy W' (some bm)) (hM : MB W' bm s'.length (fun x => s'.contains x)) :
    BdIn w wL b9 bm D o s' W' := by
  obtain ⟨v, hv, hR⟩ := h.box
  have hne : ∀ k, k < W.heap.size → k ≠ bm → W'.heap[k]? = W.heap[k]? := fun k hk hn => hg.block k hk (by intro e; injection e with e; exact hn e)
  have hf := h.far
  refine ⟨⟨v, (hne b9 (by omega) (by omega)).trans hv, Kd.R_mono (Kd.R_step (Kd.R_bound hR) (fun k hk hlt => hne k hlt (by have := hk.2.1; omega))) (fun _ _ => trivial)⟩, hM, fun k hk hn => (hne k (by omega) hn).trans (h.stay k hk hn),
    h.below.grown hg h.below.size (fun k e => by injection e with e; omega), (hne D (Array.getElem?_eq_some_iff.1 h.defer).1 (by omega)).trans h.defer, Nat.le_trans h.far hg.size⟩
theorem BdIn.grow {w wL W W' : World} {b9 bm D : Nat} {o s : List Int} {v : Value} (h : BdIn w wL b9 bm D o s W) (h1 : bm < b9) (h2 : b9 < wL.heap.size) (hw : w.heap.size ≤ wL.heap.size)
    (hv : W.heap[b9]? = some (.cells #[v] 23 (0, 0))) (hR : (Kd.int .i64).R 3 W wL.heap.size (fun _ => True) v o) (hg : W.grownBy W' v.ownBlock) :
    W'.heap[b9]? = some (.cells #[v] 23 (0, 0)) ∧ MB W' bm s.length (fun x => s.contains x) ∧ (∀ k, k < b9 → k ≠ bm → W'.heap[k]? = wL.heap[k]?) ∧ Below w.heap.size w W' ∧ W'.heap[D]? = some (.deferred (some [])) ∧ wL.heap.size ≤ W'.heap.size := by
  have hb := Kd.R_base hR
  have hf := h.far
  have hne : ∀ k, k < wL.heap.size → W'.heap[k]? = W.heap[k]? := fun k hk => hg.block k (by omega) (fun e => by have := hb k e.symm; omega)
  refine ⟨(hne b9 h2).trans hv, h.map.same (hne bm (by omega)), fun k hk hn => (hne k (by omega)).trans (h.stay k hk hn), h.below.grown hg h.below.size (fun k e => by have := hb k e; omega), ?_, Nat.le_trans hf hg.size⟩
  refine (hg.block D (Array.getElem?_eq_some_iff.1 h.defer).1 (fun e => ?_)).trans h.defer
  obtain ⟨c, hc⟩ := Kd.R_typed hR D e.symm
  have := h.defer
  rw [hc] at this
  cases this
theorem BdIn.app {w wL W W' : World} {b9 bm D : Nat} {o o' s : List Int} {v v' : Value} (h : BdIn w wL b9 bm D o s W) (hw : w.heap.size ≤ bm) (h1 : bm < b9) (h2 : b9 < wL.heap.size) (h3 : wL.heap.size ≤ D)
    (hv : W.heap[b9]? = some (.cells #[v] 23 (0, 0))) (hR : (Kd.int .i64).R 3 W wL.heap.size (fun _ => True) v o) (hg : W.grownBy W' v.ownBlock) (hR' : (Kd.int .i64).R 3 W' wL.heap.size (fun _ => True) v' o') :
    BdIn w wL b9 bm D o' s (W'.setCell ⟨b9, 0, none⟩ v') := by
  obtain ⟨k1, k2, k3, k4, k5, k6⟩ := h.grow h1 h2 (by omega) hv hR hg
  exact bd_store k1 k2 k3 k4 k5 k6 hw h1 h2 h3 hR'
set_option maxHeartbeats 8000000 in
set_option maxRecDepth 100000 in
theorem graph_Body.calls (k : Nat) (A0 : Option Addr) (c0 : Nat) (l0 : List (List Int)) (a1 : Int) (r : List Int) (w : World) (hr0 : Kd.C (Kd.slice 3 (Kd.int .i64)) w A0 l0.length l0) (hc0 : l0.length ≤ c0) (h : graph_Body.f k l0 a1 = some r) :
    Calls Try.prog 39 #[.slice A0 l0.length c0, .int .i64 a1] w fun e w' => ∃ v0_ : Value, e = .returned (v0_) ∧ Kd.R (Kd.int .i64) 3 w' w.heap.size (fun _ => True) v0_ r ∧ Below w.heap.size w w' := by
  unfold graph_Body.f at h
  split at h
  case isFalse => cases h
  rename_i hok
  obtain ⟨d, hd, h⟩ := Option.bind_eq_some_iff.1 h
  obtain ⟨o, ho, h⟩ := Option.bind_eq_some_iff.1 h
  split at h
  case isFalse => cases h
  rename_i hdl
  obtain ⟨hdl, hel, hol, hob, ha0, ha1⟩ := hdl
  have hlen := (okG_len hok).1
  have HR := Aside0.mk hr0
  have HC0 := Aside0.mk hc0
  have HOK := Aside0.mk hok
  have HE := Aside0.mk h
  have HD := Aside0.mk hd
  have HO := Aside0.mk ho
  have HDL := Aside0.mk hdl
  have HEL := Aside0.mk hel
  have HOL := Aside0.mk hol
  have HOB := Aside0.mk hob
  clear hr0 hc0 hok h hd ho hdl hol hob hel
  have hmm := @run_makeMap Try.prog
  refine (callsIn_wide (n := 6)).1 ?_
  refine callsIn_of_wp_marks Try.func39 rfl trivial ?_ rfl
  simp only [Try.ntmps39, List.size_toArray, List.length_cons, List.length_nil, Nat.reduceAdd, Nat.reduceSub, Array.replicate_succ, Array.replicate_zero, List.push_toArray, List.append_toArray, List.nil_append, List.cons_append]
  refine wpIn_seq (wpIn_wide.2 ?_)
  go_wp2
  have hb0 : Below w.heap.size w (w.alloc (.cells #[.int .i64 a1] 3)) := below_alloc (Below.refl _ _) _
  have hcr := cell_new_c' w (.int .i64 a1) 3
  obtain ⟨W1, hW1⟩ : ∃ W1, w.alloc (.cells #[.int .i64 a1] 3) = W1 := ⟨_, rfl⟩
  have hs1 : W1.heap.size = w.heap.size + 1 := by rw [← hW1]; simp
  rw [hW1] at hb0 hcr ⊢
  have HCR := Aside0.mk hcr.1
  have HB1 := Aside0.mk hb0
  have HS1 := Aside0.mk hs1
  clear hb0 hcr hs1 hW1
  refine wpIn_seq (wpIn_wide.2 ?_)
  go_wp2_with fail
  refine (back_calls k A0 c0 l0 d _ (Kd.C_below HR.out HB1.out) HC0.out HD.out).mono ?_
  rintro e W2 ⟨bk, Ad, cd, rfl, hbk, hbx, hRd, hB2⟩
  have HBX := Aside0.mk hbx
  have HRd := Aside0.mk (Kd.R_reads' hRd)
  have HB2 := Aside0.mk (HB1.out.trans (hB2.mono HB1.out.size))
  have HCR2 := Aside0.mk ((hB2.cell (World.block_lt_of_cell? _ _ HCR.out)).trans HCR.out)
  have hbk2 := blk_lt hbx
  clear hbx hRd hB2 HCR HB1 HS1
  go_wp2
  have hb3 : Below W2.heap.size W2 (W2.alloc (.cells #[.func (.func 103) #[] #[.pointer (some ⟨bk, 0, none⟩)]] 53)) := below_alloc (Below.refl _ _) _
  have hc3 := cell_new_c' W2 (.func (.func 103) #[] #[.pointer (some ⟨bk, 0, none⟩)]) 53
  obtain ⟨W3, hW3⟩ : ∃ W3, W2.alloc (.cells #[.func (.func 103) #[] #[.pointer (some ⟨bk, 0, none⟩)]] 53) = W3 := ⟨_, rfl⟩
  have hs3 : W3.heap.size = W2.heap.size + 1 := by rw [← hW3]; simp
  rw [hW3] at hb3 hc3 ⊢
  have HC3 := Aside0.mk hc3.1
  have HB3 := Aside0.mk hb3
  have HS3 := Aside0.mk hs3
  have HB03 := Aside0.mk (HB2.out.trans (hb3.mono HB2.out.size))
  clear hb3 hc3 hs3 hW3
  refine wpIn_seq (wpIn_wide.2 ?_)
  go_wp2_with fail
  refine (graph_Preds.calls A0 c0 l0 (predsL l0) _ (Kd.C_below HR.out HB03.out) HC0.out (by unfold graph_Preds.f; rw [if_pos HOK.out])).mono ?_
  rintro e W4 ⟨v17, rfl, hS17, hB4⟩
  obtain ⟨Ap, cp, rfl, _, _⟩ := Kd.S_reads hS17
  rw [predsL_length] at hS17 ⊢
  have HP4 := Aside0.mk hS17
  have HB4 := Aside0.mk hB4
  clear hS17 hB4
  go_wp2
  refine wpIn_seq (wpIn_wide.2 ?_)
  go_wp2_with fail
  refine (graph_Order.calls k A0 c0 l0 o _ (Kd.C_below HR.out (HB03.out.trans (HB4.out.mono HB03.out.size))) HC0.out HO.out).mono ?_
  rintro e W5 ⟨v21, rfl, hRo, hB5⟩
  obtain ⟨Ao, co, rfl⟩ := Kd.R_slice hRo
  have HO5 := Aside0.mk (Kd.R_reads' hRo)
  have HB35 := Aside0.mk (HB4.out.trans (hB5.mono HB4.out.size))
  have HP5 := Aside0.mk (Kd.S_mono (ok' := fun k => k < W4.heap.size) (Kd.S_bound (Kd.S_below (Kd.S_mono (ok' := fun k => k < W4.heap.size) (Kd.S_bound HP4.out) (fun k hk => hk.2.2.1)) hB5)) (fun k hk => hk.1))
  have hs45 := hB5.size
  clear hRo hB5 HP4
  go_wp2
  have hHM := World.alloc_heap_new W5 (.map #[] 0)
  obtain ⟨W6, hrun6, hM6, hg6⟩ := (MB.made W5).put (x := a1) true (wf64_of (by omega) (by omega)) (by unfold maxLen; omega)
  have hc6 : (W5.alloc (.map #[] 0)).cell? ⟨w.heap.size, 0, none⟩ = some (.int .i64 a1) := cell_alloc' _ ((HB35.out.cell (World.block_lt_of_cell? _ _ ((HB3.out.cell (World.block_lt_of_cell? _ _ HCR2.out)).trans HCR2.out))).trans ((HB3.out.cell (World.block_lt_of_cell? _ _ HCR2.out)).trans HCR2.out))
  have hs56 : W5.heap.size + 1 ≤ W6.heap.size := by have := hg6.size; simpa using this
  have HB56 : Aside0 (Below W5.heap.size W5 W6) := ⟨(below_alloc (Below.refl _ _) _).grown hg6 (by simp) (fun k e => by injection e with e; omega)⟩
  have HM6 := Aside0.mk hM6
  clear hM6 hg6 hHM
  refine wpIn_seq (wpIn_wide.2 ?_)
  go_wp2
  have hM6 := HM6.out.below (below_alloc (Below.refl _ W6) (.cells #[.slice none 0 0] 23))
  have k9 := World.alloc_heap_new W6 (.cells #[.slice none 0 0] 23)
  have hB67 : Below W6.heap.size W6 (W6.alloc (.cells #[.slice none 0 0] 23)) := below_alloc (Below.refl _ _) _
  refine wpIn_seq (wpIn_wide.2 ?_)
  go_wp2
  obtain ⟨W7, hW7⟩ : ∃ W7, W6.alloc (.cells #[.slice none 0 0] 23) = W7 := ⟨_, rfl⟩
  have hs67 : W7.heap.size = W6.heap.size + 1 := by rw [← hW7]; simp
  rw [hW7] at hM6 k9 hB67 ⊢
  have hfn : (fun y : Int => if y = a1 then true else false) = fun y => [a1].contains y := by
    funext y
    by_cases hy : y = a1 <;> simp [hy]
  rw [hfn] at hM6
  have hB57 : Below W5.heap.size W5 W7 := HB56.out.trans (hB67.mono (by omega))
  have hB37 : Below W3.heap.size W3 W7 := HB35.out.trans (hB57.mono (by have := HB35.out.size; omega))
  have hB27 : Below W2.heap.size W2 W7 := HB3.out.trans (hB37.mono (by have := HB3.out.size; omega))
  have hB07 : Below w.heap.size w W7 := HB2.out.trans (hB27.mono (by have := HB2.out.size; omega))
  have K1 := Aside0.mk ((hB27.cell (World.block_lt_of_cell? _ _ HCR2.out)).trans HCR2.out)
  have K3 := Aside0.mk ((hB37.cell (World.block_lt_of_cell? _ _ HC3.out)).trans HC3.out)
  have KX := Aside0.mk ((hB27.block bk hbk2).trans HBX.out)
  have KD := Aside0.mk HRd.out.2.2
  have HB27 := Aside0.mk hB27
  have KDc := Aside0.mk HRd.out.2.1
  have KP := HP5
  have KO := Aside0.mk HO5.out.2.2
  have HB57 := Aside0.mk hB57
  have KOc := Aside0.mk HO5.out.2.1
  have KM := Aside0.mk hM6
  have K9 := Aside0.mk k9
  have HB7 := Aside0.mk hB07
  have HW := Aside0.mk (show w.heap.size ≤ W2.heap.size ∧ W2.heap.size < W3.heap.size ∧ W3.heap.size ≤ W4.heap.size ∧ W4.heap.size ≤ W5.heap.size ∧ W5.heap.size < W6.heap.size ∧ W7.heap.size = W6.heap.size + 1 from ⟨HB2.out.size, by have := HS3.out; omega, HB4.out.size, hs45, hs56, hs67⟩)
  clear hM6 k9 hB67 hW7 hs67 hfn hB57 hB37 hB27 hB07 HM6 HB56 hs56 hc6 hrun6 HO5 hs45 HP5 HB35 HB4 HB03 HS3 HB3 HC3 HCR2 HB2 HBX HRd hmm
  refine wpIn_seq (wpIn_seq ?_)
  gi_wp2
  refine ⟨trivial, ?_⟩
  refine (callsIn_wide.2 (edges_calls A0 l0.length c0 _)).mono ?_
  rintro e w' ⟨rfl, rfl⟩
  gi_wp2
  have c10 := cell_new_c' W7 (.slice A0 l0.length c0) 22
  have hBL : Below W7.heap.size W7 (W7.alloc (.cells #[.slice A0 l0.length c0] 22)) := below_alloc (Below.refl _ _) _
  have hsL : (W7.alloc (.cells #[.slice A0 l0.length c0] 22)).heap.size = W7.heap.size + 1 := by simp
  obtain ⟨wL, hwL⟩ : ∃ wL, W7.alloc (.cells #[.slice A0 l0.length c0] 22) = wL := ⟨_, rfl⟩
  rw [hwL] at c10 hBL hsL ⊢
  have k9L : wL.heap[W6.heap.size]? = some (.cells #[.slice none 0 0] 23 (0, 0)) := (hBL.block _ (blk_lt K9.out)).trans K9.out
  have HI0 := Aside0.mk (OutIn.start (d := Kd.int .i64) (e := 3) k9L)
  have hMW := HI0.out.names
  have hbL : W6.heap.size < wL.heap.size := by have := HW.out.2.2.2.2.2; omega
  have hMd : Told wL.heap.size (BxM W6.heap.size) := BxM.told hbL
  have HBL := Aside0.mk hBL
  have HSL := Aside0.mk hsL
  clear hBL hsL hwL k9L
  refine wpIn_rangeFunc_ownG rfl (by omega) (gf := 104) (lb := #[.pointer (some ⟨W7.heap.size, 0, none⟩)]) rfl trivial (enters_of Try.func104 (by kernel_rfl) rfl)
    (edges_stops 5 (by omega) W7.heap.size A0 c0 l0 HOK.out (BxM W6.heap.size) wL hMd hMW (Kd.C_below HR.out (HB7.out.trans (HBL.out.mono HB7.out.size))) HC0.out c10.1) EdKp.trans (EdKp.put hMd) (Below.refl _ _) (fun _ => rfl)
    (fun pre W => OutIn wL W6.heap.size (Kd.int .i64) 3 23 (opL d a1 (pre.map Subtype.val)) W)
    (fun _ _ _ => False)
    (fun s A B row hs hg hr => hs.kept hg hr (by omega))
    (fun _ _ _ _ _ hs _ _ => hs)
    HI0.out
    (fun x => { tmps := #[Value.slice A0 l0.length c0, Value.int IntKind.i64 a1, undef,
          Value.pointer (some { block := w.heap.size, off := 0 }), Value.slice none 0 0,
          Value.pointer (some { block := W2.heap.size, off := 0 }), Value.slice Ap l0.length cp,
          Value.slice Ao o.length co, Value.map (some W5.heap.size),
          Value.pointer (some { block := W6.heap.size, off := 0 }), .int .i64 x.1.1, .int .i64 x.1.2, undef, undef, undef, undef,
          Value.slice A0 l0.length c0, Value.func (Fn.func 103) #[] #[Value.pointer (some { block := bk, off := 0 })],
          Value.slice A0 l0.length c0, Value.slice Ap l0.length cp, Value.slice A0 l0.length c0,
          Value.slice Ao o.length co, Value.map (some W5.heap.size), Value.int IntKind.i64 a1,
          Value.map (some W5.heap.size), Value.slice A0 l0.length c0,
          Value.func (Fn.func 104) #[] #[Value.pointer (some { block := W7.heap.size, off := 0 })], .int .i64 x.1.1, .int .i64 x.1.2, undef, undef, undef, undef, undef, undef, undef, undef, undef, undef, undef, undef, undef, undef, undef, undef, undef, undef, undef, undef, undef, undef, undef, undef, undef, undef, undef, undef, undef, undef, undef, undef, undef, undef, undef, undef, undef, undef, undef, undef, undef, undef, undef, undef, undef, undef, undef, undef, undef, undef, undef, undef, undef, undef, undef, undef, undef, undef, undef], defers := [] }) ?assign ?body ?done ?stop
  case assign =>
    intro l x W K hK
    simp only [edEnc]
    gi_wp2
    exact hK
  case body =>
    rintro l pre ⟨⟨a, b⟩, hq0, hq1, hb0, hb1⟩ W hI hlt
    clear hMd hMW c10 HI0
    simp only at hq0 hq1 hb0 hb1
    obtain ⟨out, hout⟩ : ∃ out, opL d a1 (pre.map Subtype.val) = out := ⟨_, rfl⟩
    rw [hout] at hI
    have HOL : Aside0 (out.length ≤ 1000000000000) := ⟨by
      have h1 := opL_length d a1 (pre.map Subtype.val)
      rw [hout, List.length_map] at h1
      have h2 := HEL.out
      omega⟩
    have hsnoc : opL d a1 ((pre ++ [(⟨(a, b), by omega⟩ : Ed l0.length)]).map Subtype.val) = if (b == a1 && backL d a b) = true then out ++ [a] else out := by
      rw [List.map_append, ← hout]
      exact opL_snoc _ _ _ _ _
    have HSN := Aside0.mk hsnoc
    have HIN := Aside0.mk hI
    clear hsnoc hout
    have hf := hI.far
    have hstay : Below W6.heap.size W7 W := (HBL.out.mono (by have := HW.out.2.2.2.2.2; omega)).trans hI.stay
    have hc1 : W.cell? ⟨w.heap.size, 0, none⟩ = some (.int .i64 a1) := (hstay.cell (p := ⟨w.heap.size, 0, none⟩) (by have := HW.out; simp only; omega)).trans K1.out
    have hc3 : W.cell? ⟨W2.heap.size, 0, none⟩ = some (.func (.func 103) #[] #[.pointer (some ⟨bk, 0, none⟩)]) := (hstay.cell (p := ⟨W2.heap.size, 0, none⟩) (by have := HW.out; simp only; omega)).trans K3.out
    have hcon := back1_calls bk Ad cd d a b W ((hstay.cell (p := ⟨bk, 0, none⟩) (by have := HW.out; simp only; omega)).trans (cell_of_box' KX.out).1) (Kd.C_below KD.out (HB27.out.trans (hstay.mono (by have := HW.out; omega)))) KDc.out (by have := HDL.out; omega) hq0 (by have := HDL.out; omega)
    have HCON := Aside0.mk hcon
    clear hcon hI hstay
    by_cases hba : b = a1
    · have kba : (b == a1) = true := by simpa using hba
      cases hback : backL d a b with
      | false =>
        have HSN2 := HSN.out
        rw [hback, kba] at HSN2
        rw [hback] at HCON
        have HSN3 := Aside0.mk HSN2
        clear HSN2 hba
        gi_wp2
        refine ⟨trivial, ?_⟩
        refine (CallsIn.inRound l (callsIn_wide.2 HCON.out)).mono ?_
        rintro e W' ⟨rfl, hB⟩
        gi_wp2
        have hr := HIN.out.call hB (by omega)
        refine ⟨hr.1, hr.2.1, ?_⟩
        show OutIn _ _ _ _ _ (opL d a1 _) _
        rw [HSN3.out]
        exact hr.2.2
      | true =>
        have HSN2 := HSN.out
        rw [hback, kba] at HSN2
        rw [hback] at HCON
        have HSN3 := Aside0.mk HSN2
        clear HSN2 hba
        refine wpIn_block ?_
        refine wpIn_seq ?_
        refine wpIn_mono (Q := Exit.then (fun a' w' => Below W.heap.size W w' ∧ a' = { tmps := #[Value.slice A0 l0.length c0, Value.int IntKind.i64 a1, undef,
          Value.pointer (some { block := w.heap.size, off := 0 }), Value.slice none 0 0,
          Value.pointer (some { block := W2.heap.size, off := 0 }), Value.slice Ap l0.length cp,
          Value.slice Ao o.length co, Value.map (some W5.heap.size),
          Value.pointer (some { block := W6.heap.size, off := 0 }), .int .i64 a, .int .i64 b, undef, undef, undef, undef,
          Value.slice A0 l0.length c0, Value.func (Fn.func 103) #[] #[Value.pointer (some { block := bk, off := 0 })],
          Value.slice A0 l0.length c0, Value.slice Ap l0.length cp, Value.slice A0 l0.length c0,
          Value.slice Ao o.length co, Value.map (some W5.heap.size), Value.int IntKind.i64 a1,
          Value.map (some W5.heap.size), Value.slice A0 l0.length c0,
          Value.func (Fn.func 104) #[] #[Value.pointer (some { block := W7.heap.size, off := 0 })], .int .i64 a, .int .i64 b, .int .i64 b, .int .i64 a1, .bool true, .bool true, .func (.func 103) #[] #[.pointer (some ⟨bk, 0, none⟩)], .int .i64 a, .int .i64 b, .bool true, .bool true, undef, undef, undef, undef, undef, undef, undef, undef, undef, undef, undef, undef, undef, undef, undef, undef, undef, undef, undef, undef, undef, undef, undef, undef, undef, undef, undef, undef, undef, undef, undef, undef, undef, undef, undef, undef, undef, undef, undef, undef, undef, undef, undef, undef, undef, undef, undef, undef, undef, undef], defers := [] }) (fun _ _ _ => False)) ?first ?rest
        case first =>
          gi_wp2
          refine ⟨trivial, ?_⟩
          refine (CallsIn.inRound l (callsIn_wide.2 HCON.out)).mono ?_
          rintro e W' ⟨rfl, hB⟩
          gi_wp2
          exact ⟨hB, trivial⟩
        case rest =>
          intro e a' W' h'
          cases e <;> first | exact h'.elim | skip
          obtain ⟨hB, rfl⟩ := h'
          obtain ⟨hk1, hk2, hI2⟩ := HIN.out.call hB (by omega)
          obtain ⟨v, h5, hRv⟩ := hI2.box
          obtain ⟨hc5, hf5⟩ := cell_of_box' h5
          obtain ⟨Av, cv, rfl⟩ := Kd.R_slice hRv
          have HRv := Aside0.mk hRv
          have H5 := Aside0.mk h5
          have HK := Aside0.mk (And.intro hk1 hk2)
          have HI2 := Aside0.mk hI2
          have hf2 := hI2.far
          clear hRv h5 hk1 hk2 hI2
          refine wpIn_cond_true rfl ?_
          refine wpIn_list_plain (by kernel_rfl) (fun ⟨_, _, h'⟩ => h') ?_
          go_wp2_with (first | ((with_reducible refine gate_builtin (b := .append) (xs := #[.tmp 38, .tmp 40]) rfl ?_); at_builtin; refine Kd.R_append (Kd.int .i64) (w0 := W') (W := W') wL.heap.size rfl (.tmp 38) (.tmp 40) 23 3 (.int .i64 0) 8 rfl Try.underlying23 info3 rfl (by decide) (by omega) (.slice Av out.length cv) out a [.int .i64 a] (fun _ => True) (fun _ => False) rfl rfl ?aP (fun _ hk => hk.elim) ?aF ?aO ?aB ?aS ?aL ?_; (case aP => rfl); (case aF => exact fun _ _ => trivial); (case aO => exact HRv.out); (case aB => exact Below.refl _ _); (case aS => exact hf2); (case aL => have := HOL.out; omega); intro v20 W7' ho hb hg hat; obtain ⟨A20, n20, c20, rfl⟩ : ∃ A n c, v20 = .slice A n c := ⟨_, _, _, (Kd.R_slice ho).choose_spec.choose_spec⟩; obtain ⟨hc57, hf57⟩ := cell_of_box' ((hg.block W6.heap.size (blk_lt H5.out) (fun h => by have := Kd.R_base HRv.out _ h.symm; omega)).trans H5.out)) | fail)
          obtain ⟨hr1, hr2, hr3⟩ := HI2.out.append (by omega) H5.out HRv.out ho hg hat
          refine ⟨HK.out.1.trans hr1, HK.out.2.trans hr2, ?_⟩
          show OutIn _ _ _ _ _ (opL d a1 _) _
          rw [HSN3.out]
          exact hr3
    · have kba : (b == a1) = false := by simpa using hba
      have HSN2 := HSN.out
      rw [kba] at HSN2
      have HSN3 := Aside0.mk HSN2
      clear HSN2 hba
      gi_wp2
      refine ⟨fun f h => (by cases h), ?_⟩
      gi_wp2
      refine ⟨KeepsFrom.refl _ _, EdKp.refl _ _ _, ?_⟩
      show OutIn _ _ _ _ _ (opL d a1 _) _
      rw [HSN3.out]
      exact HIN.out
  case done =>
    rintro D ys W hD hys hI hK
    clear hMd hMW c10 HI0
    obtain ⟨op, hop⟩ : ∃ op, opL d a1 (ys.map Subtype.val) = op := ⟨_, rfl⟩
    have hop2 : openL l0 d a1 = op := by rw [← hop, hys]; rfl
    have HOPL : Aside0 (op.length ≤ 100000000) := ⟨by
      have h1 := opL_length d a1 (ys.map Subtype.val)
      rw [hop, hys] at h1
      have h2 := HEL.out
      omega⟩
    rw [hop] at hI
    have hE := HE.out
    rw [hop2] at hE
    have hbW : Below w.heap.size w W := HB7.out.trans ((HBL.out.mono HB7.out.size).trans (hI.stay.mono (by have := HW.out; omega)))
    obtain ⟨v, h5, hRv⟩ := hI.box
    have hM1 : MB W W5.heap.size [a1].length (fun x => [a1].contains x) := (KM.out.below HBL.out).same (hI.stay.block _ (by have := HW.out; omega))
    have HST : Aside0 (BdIn w wL W6.heap.size W5.heap.size D op [a1] W) := ⟨⟨v, h5, hRv⟩, hM1, fun k hk _ => hI.stay.block k hk, hbW, hK, hI.far⟩
    have HE' := Aside0.mk hE
    have hopx : ((ys.map Subtype.val).filter fun e => e.2 == a1 && backL d e.1 e.2).map (·.1) = op := hop
    clear hE HE h5 hRv hM1 hI hop2 hop HOK h hbW hK
    refine wpIn_onlyRet (wpIn_wide.2 ?_)
    obtain ⟨v, h5, hRv⟩ := HST.out.box
    obtain ⟨hc5, hf5⟩ := cell_of_box' h5
    obtain ⟨Av, cv, rfl⟩ := Kd.R_slice hRv
    have H5 := Aside0.mk h5
    have HRv := Aside0.mk hRv
    clear h5 hRv
    by_cases hz : op = []
    · subst hz
      have hr : r = [] := by have := HE'.out; simpa using this.symm
      subst hr
      go_wp2
      refine ⟨by simp, .inl ⟨_, _, rfl, run_takeDeferred HST.out.defer, ?_⟩⟩
      refine ⟨_, results_tmp rfl _ _ _, _, rfl, ?_, ?_⟩
      · exact Kd.R_nil _ _ _ _ _
      · exact HST.out.below.grown (grownBy_putObj' _ D _) HST.out.below.size (fun k e => by cases e; have := HW.out; have := HSL.out; omega)
    · have hpos : 0 < op.length := List.length_pos_iff.2 hz
      have hz2 : ((op.length : Int) == 0) = false := by simp; omega
      have hE := HE'.out
      rw [if_neg hz] at hE
      obtain ⟨sf, hsf, hr⟩ := Option.map_eq_some_iff.1 hE
      have HRF := Aside0.mk hr
      have HSF := Aside0.mk hsf
      have HRG : Aside0 (∀ x ∈ op, 0 ≤ x ∧ x < l0.length) := ⟨by
        rw [← hopx]
        intro x hx
        obtain ⟨e, he, rfl⟩ := List.mem_map.1 hx
        have := (List.mem_filter.1 he).1
        rw [hys] at this
        exact (edgesL_in l0 e this).1⟩
      clear hE hr hsf HE' hopx hys
      go_wp2
      clear hc5 hf5 hz2 hpos hz
      go_loopg [12] k (fun kq v12 W' => ∃ (ol s : List Int), Aside0 (bodyLoop (predsL l0) kq ol s = some sf) ∧ Aside0 (BdIn w wL W6.heap.size W5.heap.size D ol s W') ∧ Aside0 (ol.length ≤ 1000000000) ∧ Aside0 (∀ x ∈ ol, 0 ≤ x ∧ x < l0.length))
      case atStart => exact ⟨op, [a1], HSF, HST, ⟨by have := HOPL.out; omega⟩, HRG⟩
      case round =>
        obtain ⟨ol, s, HA, HI, HL, HG⟩ := hrel
        clear HRG HOPL HST HRv H5 HSF
        cases gk with
        | zero => exact absurd HA.out (by simp [bodyLoop])
        | succ k1 =>
          have hX5 : ∀ k, k < W5.heap.size → wr.heap[k]? = W5.heap[k]? := fun k hk => (HI.out.stay k (by have := HW.out; omega) (by omega)).trans ((HBL.out.block k (by have := HW.out; omega)).trans (HB57.out.block k hk))
          rcases List.eq_nil_or_concat ol with rfl | ⟨ol', a, hcc⟩
          · have hs : s = sf := by have := HA.out; simpa [bodyLoop] using this
            subst hs
            obtain ⟨v, h5, hRv⟩ := HI.out.box
            obtain ⟨hc5, hf5⟩ := cell_of_box' h5
            obtain ⟨Av, cv, rfl⟩ := Kd.R_slice hRv
            obtain ⟨wq, ewq⟩ : ∃ wq, wq = wr := ⟨_, rfl⟩
            subst ewq
            have hFar := HI.out.far
            have hMs := Aside0.mk HI.out.map
            clear h5 hRv
            go_wp2
            clear hc5 hf5
            go_loopg [13, 73] o.length (fun kq v13 v73 W' => ∃ i : Nat, v73 = .int .i64 i ∧ Aside0 (kq + i = o.length) ∧ Aside0 (Kd.R (Kd.int .i64) 3 W' wq.heap.size (fun _ => True) v13 ((o.take i).filter (fun b => s.contains b))) ∧ Aside0 (Below wq.heap.size wq W'))
            case atStart => exact ⟨0, rfl, ⟨rfl⟩, ⟨by simpa using Kd.R_nil _ _ _ _ _⟩, ⟨Below.refl _ _⟩⟩
            case round =>
              obtain ⟨i, rfl, HJ, HO, HB⟩ := hrel
              cases gk with
              | zero =>
                have hi : i = o.length := by have := HJ.out; omega
                subst hi
                rw [List.take_length] at HO
                have hl2 : (o.filter (fun b => s.contains b)).length ≤ 100000000 := Nat.le_trans (List.length_filter_le _ _) (by have := HOL.out; omega)
                go_wp2_with fail
                refine (sort_R HO.out hl2).mono ?_
                rintro e W9 ⟨rfl, hs, hg⟩
                have HB9 := Aside0.mk (HB.out.grown hg (HB.out.size) (fun k hk => Kd.R_base HO.out k hk))
                have HS9 := Aside0.mk hs
                clear hs hg
                go_wp2
                have hD9 := (HB9.out.block D (Array.getElem?_eq_some_iff.1 HI.out.defer).1).trans HI.out.defer
                have hbw := HI.out.below
                refine ⟨by simp, .inl ⟨_, _, rfl, run_takeDeferred hD9, ?_⟩⟩
                refine ⟨_, results_tmp rfl _ _ _, _, rfl, ?_, ?_⟩
                · have h2 := HS9.out
                  rw [HRF.out] at h2
                  exact Kd.R_mono (Kd.R_lower (R_nocells h2 (grownBy_putObj' _ D _) (fun r e => by cases e; exact ⟨_, hD9, rfl⟩)) hbw.size) (fun _ _ => trivial)
                · exact (hbw.trans (HB9.out.mono hbw.size)).grown (grownBy_putObj' _ D _) (by have := hbw.size; have := HB9.out.size; omega) (fun k e => by cases e; have := HW.out; have := HSL.out; omega)
              | succ k2 =>
                have hi : i < o.length := by have := HJ.out; omega
                obtain ⟨ad, eao, hc⟩ := Kd.at_int KO.out (i : Int) (by omega) (by omega)
                subst eao
                simp only [Int.toNat_natCast] at hc
                have hbl := World.block_lt_of_cell? _ _ hc
                replace hc := (World.cell?_of_block (hX5 _ hbl)).trans hc
                replace hc := (HB.out.cell (World.block_lt_of_cell? _ _ hc)).trans hc
                have hmem : rd o i ∈ o := by
                  have e : rd o i = o[i] := by simp [rd, hi]
                  rw [e]; exact List.getElem_mem _
                have hbo := HOB.out _ hmem
                have hol := HOL.out
                have hlook := (hMs.out.below HB.out).look (x := rd o i) (wf64_of (by omega) (by omega))
                have HLE := Aside0.mk (take_filter_le o (fun b => s.contains b) i)
                cases hct : s.contains (rd o i) with
                | true =>
                  rw [hct] at hlook
                  have HF := Aside0.mk (take_filter_yes o (fun b => s.contains b) i hi hct)
                  go_wp2_with (first | ((with_reducible refine gate_builtin (b := .append) (xs := #[.tmp 80, .tmp 82]) rfl ?_); at_builtin; refine Kd.R_append (Kd.int .i64) (w0 := wq) (W := wr) wq.heap.size rfl (.tmp 80) (.tmp 82) 23 3 (.int .i64 0) 8 rfl Try.underlying23 info3 rfl (by decide) (by omega) u13 ((o.take i).filter (fun b => s.contains b)) (rd o i) [.int .i64 (rd o i)] (fun _ => True) (fun _ => False) rfl rfl ?aP (fun _ hk => hk.elim) ?aF ?aO ?aB ?aS ?aL ?_; (case aP => rfl); (case aF => exact fun _ _ => trivial); (case aO => exact HO.out); (case aB => exact HB.out); (case aS => exact HB.out.size); (case aL => have := HLE.out; have := HOL.out; omega); intro v83 W8 ho hb hg hat; rw [← HF.out] at ho; have HO8 := Aside0.mk ho; have HB8 := Aside0.mk hb; clear ho hb hg hat HO HB) | fail)
                  go_roundg k2
                  case measure => omega
                  case rel => exact ⟨i + 1, by go_num, ⟨by have := HJ.out; omega⟩, HO8, HB8⟩
                | false =>
                  rw [hct] at hlook
                  have HF := Aside0.mk (take_filter_no o (fun b => s.contains b) i hi hct)
                  go_wp2
                  go_roundg k2
                  case measure => omega
                  case rel => exact ⟨i + 1, by go_num, ⟨by have := HJ.out; omega⟩, ⟨by rw [HF.out]; exact HO.out⟩, HB⟩
          · rw [List.concat_eq_append] at hcc
            subst hcc
            have H := HA.out
            simp only [bodyLoop, List.getLast?_concat, List.dropLast_concat] at H
            have hG := HG.out
            have haR := hG a (by simp)
            obtain ⟨v, h5, hRv⟩ := HI.out.box
            obtain ⟨hc5, hf5⟩ := cell_of_box' h5
            obtain ⟨Av, n, cv, rfl⟩ : ∃ A n c, v = .slice A n c := ⟨_, _, _, (Kd.R_slice hRv).choose_spec.choose_spec⟩
            have hn : n = ol'.length + 1 := by have := (Kd.R_reads' hRv).1; simpa using this
            have hl : n ≤ 1000000000 := by have := HL.out; simp at this; omega
            have hsub : wrap64 ((n : Int) - 1) = (ol'.length : Int) := by unfold wrap64; omega
            obtain ⟨ad, eav, hca⟩ := Kd.at_int (Kd.R_reads' hRv).2.2 (ol'.length : Int) (by omega) (by simp only [List.length_append, List.length_cons, List.length_nil]; omega)
            subst eav
            have hrd : rd (ol' ++ [a]) (ol'.length : Int) = a := by simp [rd]
            rw [hrd, Int.toNat_natCast] at hca
            obtain ⟨i3, hi3, _, _, _⟩ := info_parts info3
            have hcut := cut_to (P := Try.prog) 23 3 .i64 Try.underlying23 hi3 (some ad) n cv (ol'.length : Int) (by omega) (by omega) (Kd.R_reads' hRv).2.1
            simp only [Int.toNat_natCast] at hcut
            have hcv0 : ol'.length ≤ cv := by have := (Kd.R_reads' hRv).2.1; omega
            have hRp := Kd.R_take (m := ol'.length) hRv (by simp)
            rw [List.take_left' rfl] at hRp
            have HI1 := Aside0.mk (HI.out.pop (by have := HW.out; omega) (by have := HW.out; omega) hbL hD hRp)
            have hlook := HI1.out.map.look (x := a) (wf64_of (by omega) (by omega))
            clear h5 hRv hRp hG HA
            have HH := Aside0.mk H
            clear H
            cases hct : s.contains a with
            | true =>
              rw [hct] at hlook
              have HN : Aside0 (bodyLoop (predsL l0) k1 ol' s = some sf) := ⟨by have := HH.out; rwa [if_pos hct] at this⟩
              have HL' : Aside0 (ol'.length ≤ 1000000000) := ⟨by omega⟩
              have HG' : Aside0 (∀ x ∈ ol', 0 ≤ x ∧ x < l0.length) := ⟨fun x hx => HG.out x (by simp [hx])⟩
              go_wp2
              go_roundg k1
              case measure => omega
              case rel => exact ⟨ol', s, HN, HI1, HL', HG'⟩
            | false =>
              rw [hct] at hlook
              have H := HH.out
              rw [if_neg (by rw [hct]; simp)] at H
              split at H
              case isFalse => cases H
              rename_i hcond
              obtain ⟨hq0, hq1, hq2, hq3⟩ := hcond
              have HN : Aside0 (bodyLoop (predsL l0) k1 (ol' ++ (predsL l0).getD a.toNat []) (a :: s) = some sf) := ⟨H⟩
              clear H HH
              obtain ⟨W2', hrun, hM', hg'⟩ := HI1.out.map.put (x := a) true (wf64_of (by omega) (by omega)) (by unfold maxLen; omega)
              have hfn : (fun y => if y = a then true else s.contains y) = fun y => (a :: s).contains y := by
                funext y
                by_cases hy : y = a <;> simp [hy]
              rw [hfn] at hM'
              have HI2 := Aside0.mk (HI1.out.put (s' := a :: s) (by have := HW.out; omega) (by have := HW.out; omega) hbL hD hg' hM')
              clear hM' hg' hfn
              go_wp2
              clear hrun hlook hcut hcv0 hca hc5 hf5 hX5 hsub
              have hX5 : ∀ k, k < W5.heap.size → W2'.heap[k]? = W5.heap[k]? := fun k hk => (HI2.out.stay k (by have := HW.out; omega) (by omega)).trans ((HBL.out.block k (by have := HW.out; omega)).trans (HB57.out.block k hk))
              obtain ⟨v, h5, hRv⟩ := HI2.out.box
              obtain ⟨v, h5, hRv, hvv⟩ : ∃ v, W2'.heap[W6.heap.size]? = some (.cells #[v] 23 (0, 0)) ∧ (Kd.int .i64).R 3 W2' wL.heap.size (fun _ => True) v ol' ∧ True := ⟨v, h5, hRv, trivial⟩
              obtain ⟨hc5, hf5⟩ := cell_of_box' h5
              obtain ⟨Av, n', cv', rfl⟩ : ∃ A n c, v = .slice A n c := ⟨_, _, _, (Kd.R_slice hRv).choose_spec.choose_spec⟩
              obtain ⟨i, rfl⟩ := Int.eq_ofNat_of_zero_le hq0
              have hpl := predsL_length l0
              obtain ⟨adp, _, _, eap, _⟩ := at_L1 (Kd.S_reads' KP.out).2.2 (i : Int) (by omega) (by omega)
              subst eap
              obtain ⟨Ar, cr, hxr, hRow⟩ := row_own (Kd.S_mono (ok' := fun _ => True) KP.out (fun _ _ => trivial)) i (by omega)
              obtain ⟨row, hrow⟩ : ∃ row, rd_L1 (predsL l0) i = row := ⟨_, rfl⟩
              have hrow2 : (predsL l0).getD (i : Int).toNat [] = row := hrow
              rw [hrow] at hxr hRow
              rw [hrow2] at HN hq2
              have hxr2 : W2'.cell? (adp.add i) = some (.slice Ar row.length cr) := (World.cell?_of_block (hX5 _ (World.block_lt_of_cell? _ _ hxr))).trans hxr
              have hRow2 := (Kd.R_reads' (Kd.R_step (Kd.R_bound hRow) (fun k hk hlt => hX5 k hlt))).2.2
              have hRow3 := Kd.C_drew hRow2
              have HRowIn : Aside0 (∀ x ∈ row, 0 ≤ x ∧ x < l0.length) := ⟨by
                rw [← hrow2]
                intro x hx
                exact predsL_in l0 _ (getD_mem' _ _ x hx) x hx⟩
              have HRW := Aside0.mk hRow3
              have H5 := Aside0.mk h5
              have HRv := Aside0.mk hRv
              have HQ2 := Aside0.mk hq2
              clear hRow hRow2 hRow3 h5 hRv hX5 hrow hrow2 hq2 hpl
              refine start_ (n := 7) (S := fun w' => w'.cell? ⟨W6.heap.size, 0, none⟩ = some (.slice Av n' cv') ∧ w'.cell? (adp.add i) = some (.slice Ar row.length cr)) (ds := [5, 6]) #[false, false, false, false, false, false, false] (by kernel_rfl) rfl rfl ⟨hc5, hxr2⟩ (fun hHeld => ?_)
              have R1 := Aside0.mk (Kd.R_drew HRv.out)
              have D1 : Aside0 (∀ W', W2'.drew.grownBy W' (Value.slice Av n' cv').ownBlock → W2'.grownBy W' (Value.slice Av n' cv').ownBlock) := ⟨fun W7 h => ⟨h.os, h.tape, h.output, h.size, h.block⟩⟩
              have F1 : Aside0 (wL.heap.size ≤ W2'.drew.heap.size) := ⟨HI2.out.far⟩
              obtain ⟨Wd, hWd⟩ : ∃ Wd, W2'.drew = Wd := ⟨_, rfl⟩
              rw [hWd] at hHeld HRW R1 D1 F1 ⊢
              clear hWd hc5 hf5 hxr2
              refine pure_ (i := 1) (N := some 66) (v := ?_) (a' := ?_) #[false, true, false, false, false, false, false] rfl rfl (by kernel_rfl) (fun _ _ _ h => h) (Or.inl ⟨by rfl, ?_⟩) ?_ ?_
              rotate_left
              · intro w'
                go_simp
                with_reducible rfl
              rotate_left
              · simp only [Act.put, List.setIfInBounds_toArray, List.set_cons_zero, List.set_cons_succ]
                rfl
              refine pure_ (i := 2) (N := some 67) (v := ?_) (a' := ?_) #[false, true, true, false, false, false, false] rfl rfl (by kernel_rfl) (fun _ _ _ h => h) (Or.inl ⟨by rfl, ?_⟩) ?_ ?_
              rotate_left
              · intro w'
                go_simp
                with_reducible rfl
              rotate_left
              · simp only [Act.put, List.setIfInBounds_toArray, List.set_cons_zero, List.set_cons_succ]
                rfl
              refine pure_ (i := 3) (N := some 68) (v := ?_) (a' := ?_) #[false, true, true, true, false, false, false] rfl rfl (by kernel_rfl) (fun _ _ _ h => h) (Or.inl ⟨by rfl, ?_⟩) ?_ ?_
              rotate_left
              · intro w'
                go_simp
                with_reducible rfl
              rotate_left
              · simp only [Act.put, List.setIfInBounds_toArray, List.set_cons_zero, List.set_cons_succ]
                rfl
              refine take_ (i := 0) (N := some 65) (v := ?_) (a' := ?_) #[true, true, true, true, false, false, false] rfl rfl (by kernel_rfl) (fun _ _ _ h => h) (Or.inl ⟨by rfl, ?_⟩) (by assumption) ?_ ?_
              rotate_left
              · rintro w' ⟨s0, s1⟩
                go_simp
                with_reducible rfl
              rotate_left
              · simp only [Act.put, List.setIfInBounds_toArray, List.set_cons_zero, List.set_cons_succ]
                rfl
              refine take_ (i := 4) (N := some 69) (v := ?_) (a' := ?_) #[true, true, true, true, true, false, false] rfl rfl (by kernel_rfl) (fun _ _ _ h => h) (Or.inl ⟨by rfl, ?_⟩) (by assumption) ?_ ?_
              rotate_left
              · rintro w' ⟨s0, s1⟩
                go_simp
                with_reducible rfl
              rotate_left
              · simp only [Act.put, List.setIfInBounds_toArray, List.set_cons_zero, List.set_cons_succ]
                rfl
              refine last_ (i := 5) (N := some 70) #[true, true, true, true, true, true, false] rfl rfl (by kernel_rfl) (by decide) (fun K hK => ?_)
              refine Kd.R_append_rows_step (Kd.int .i64) (Rr := (Kd.int .i64).K Wd) (w0 := Wd) (W := Wd) wL.heap.size (by rfl) (.tmp 65) (.tmp 69) 23 3 (.int .i64 0) 8 rfl Try.underlying23 info3 rfl (by decide) (by omega) (.slice Av n' cv') ol' row Ar row.length cr (fun _ => True) (fun _ => False) rfl rfl ?aO ?aR ?aK (fun _ hk => hk.elim) (fun _ _ => trivial) (Below.refl _ _) F1.out ?aL ?_
              case aO => exact R1.out
              case aR => exact HRW.out
              case aK => exact fun _ _ h => h
              case aL => have := HQ2.out; simp only [List.length_append] at this; omega
              intro v70 W8 hR8 hb8 hg8 hat8
              obtain ⟨A70, n70, c70, rfl⟩ : ∃ A n c, v70 = .slice A n c := ⟨_, _, _, (Kd.R_slice hR8).choose_spec.choose_spec⟩
              have hgr := HI2.out.grow (by have := HW.out; omega) hbL (by have := HW.out; omega) H5.out HRv.out (D1.out _ hg8)
              obtain ⟨hc58, hf58⟩ := cell_of_box' hgr.1
              have HI3 := Aside0.mk (HI2.out.app (by have := HW.out; omega) (by have := HW.out; omega) hbL hD H5.out HRv.out (D1.out _ hg8) hR8)
              clear hR8 hb8 hg8 hat8 hgr
              refine hK.out _ _ ?_
              clear hK K
              refine norm_ (a' := ?_) ?_ ?_
              rotate_left
              · show Act.put _ (some 70) _ = _
                simp only [Act.put, List.setIfInBounds_toArray, List.set_cons_zero, List.set_cons_succ]
                rfl
              refine last_ (i := 6) (N := none) #[true, true, true, true, true, true, true] rfl rfl (by kernel_rfl) (by decide) (fun K hK => ?_)
              refine skip_ (w1 := W8.setCell ⟨W6.heap.size, 0, none⟩ (.slice A70 n70 c70)) (by rfl) rfl ?_ ?_
              · go_simp
              · refine hK.out _ _ ?_
                refine done_ (by kernel_rfl) ?_
                clear hK K
                go_wp2
                go_roundg k1
                case measure => omega
                case rel => exact ⟨ol' ++ row, (i : Int) :: s, HN, HI3, HQ2, ⟨fun x hx => by
                  rcases List.mem_append.1 hx with hx | hx
                  · exact HG.out x (by simp [hx])
                  · exact HRowIn.out x hx⟩⟩
  case stop =>
    rintro D c pre W _ _ h _
    exact h.elim
end Go.Proofs.Ytnmeomdjhjgnfaa.X
