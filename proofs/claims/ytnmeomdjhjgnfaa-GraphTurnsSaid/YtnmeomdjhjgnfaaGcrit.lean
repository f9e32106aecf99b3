/- graph.Critical, by hand. -/
import Derived.Test.YtnmeomdjhjgnfaaGpreds
set_option linter.unusedSimpArgs false
namespace Go.Proofs.Ytnmeomdjhjgnfaa.X
open Go.RowKit Go.Shelf Go.Proofs.YtnmeomdjhjgnfaaW.PrintWords Go.Proofs.YtnmeomdjhjgnfaaW.PrintLast Go.Proofs.YtnmeomdjhjgnfaaW.PrintMore
set_option linter.unusedVariables false
attribute [local go_sem] Oper.semAt_some

/-- What a box's row owns. -/
def BxM (bx : Nat) (W : World) (k : Nat) : Prop := ∃ v, W.cell? ⟨bx, 0, none⟩ = some v ∧ v.ownBlock = some k
theorem BxM.told {bx B : Nat} (h : bx < B) : Told B (BxM bx) := by
  rintro W W' hb k ⟨v, hc, hk⟩
  exact ⟨v, (World.cell?_of_block (a := ⟨bx, 0, none⟩) (hb _ h)).symm.trans hc, hk⟩
theorem KeepsFrom.of_below {B : Nat} {W W' : World} (h : Below W.heap.size W W') : KeepsFrom B W W' :=
  ⟨h.size, fun k o _ hk _ => (h.block k (Array.getElem?_eq_some_iff.1 hk).1).trans hk⟩
theorem EdKp.of_below {B : Nat} {M : World → Nat → Prop} {W W' : World} (hM : Told B M) (hB : B ≤ W.heap.size) (h : Below W.heap.size W W') : EdKp B M W W' :=
  ⟨h.size, fun k c t f _ _ hk => (h.block k (Array.getElem?_eq_some_iff.1 hk).1).trans hk, fun k hk => .inl (hM _ _ (fun b hb => h.block b (by omega)) k hk)⟩
/-- A round that appends to the box's row. -/
theorem BxM.round {B bx : Nat} {W W7 : World} {v18 v21 : Value} {e : TypeId} {cells : Array Value} (hgc : W.heap[bx]? = some (.cells cells e (0, 0))) (hB : bx < B)
    (hc : W.cell? ⟨bx, 0, none⟩ = some v18) (hne : v18.ownBlock ≠ some bx) (ht : ∀ k, v18.ownBlock = some k → ∃ c q, W.heap[k]? = some (.cells c q (0, 0)))
    (hg7 : W.grownBy W7 v18.ownBlock) (hat : v21.ownBlock = v18.ownBlock ∨ ∃ k, v21.ownBlock = some k ∧ W.heap.size ≤ k) :
    KeepsFrom B W (W7.setCell ⟨bx, 0, none⟩ v21) ∧ EdKp B (BxM bx) W (W7.setCell ⟨bx, 0, none⟩ v21) := by
  have h := PrM.round (b := 0) (n := 1) hgc hB (by omega) hc hne ht hg7 hat
  refine ⟨h.1, h.2.size, fun k c t f hBk hM hk => h.2.same k c t f hBk (fun h2 => hM ?_) hk, fun k hk => ?_⟩
  · obtain ⟨ad, i, v, ead, hi, hv, hk⟩ := h2
    injection ead with ead
    subst ead
    obtain rfl : i = 0 := by omega
    exact ⟨v, hv, hk⟩
  · obtain ⟨v, hv, hk⟩ := hk
    refine (h.2.mine k ⟨_, 0, v, rfl, by omega, hv, hk⟩).imp (fun h2 => ?_) id
    obtain ⟨ad, i, v, ead, hi, hv, hk⟩ := h2
    injection ead with ead
    subst ead
    obtain rfl : i = 0 := by omega
    exact ⟨v, hv, hk⟩
theorem R_nocells {α : Type} {d : Kd α} {e base : Nat} {ok : Nat → Prop} {W W' : World} {v : Value} {xs : List α} {row : Option Nat} (h : d.R e W base ok v xs) (hg : W.grownBy W' row)
    (hr : ∀ r, row = some r → ∃ o : Obj, W.heap[r]? = some o ∧ o.isCells = false) : d.R e W' base ok v xs := by
  refine Kd.R_mono (Kd.R_step (Kd.R_bound h) (fun k hk hlt => hg.block k hlt (fun he => ?_))) (fun _ hk => hk.1)
  obtain ⟨_, _, _, q, _, cells, hc⟩ := hk
  obtain ⟨o, ho, hn⟩ := hr k he.symm
  rw [hc] at ho; cases ho; cases hn

theorem heap_box {W : World} {B : Nat} {v : Value} {t : TypeId} (h : W.heap[B]? = some (.cells #[v] t (0, 0))) (u : Value) : (W.setCell ⟨B, 0, none⟩ u).heap[B]? = some (.cells #[u] t (0, 0)) := by
  simp [World.setCell, Array.getElem?_modify, h]
def crB (rows preds : List (List Int)) (e : Int × Int) : Bool := decide (1 < (rows.getD e.1.toNat []).length) && decide (1 < (preds.getD e.2.toNat []).length)
def crL (rows preds : List (List Int)) (es : List (Int × Int)) : List S73 := (es.filter (crB rows preds)).map fun e => ⟨e.1, e.2⟩
structure CrIn (w : World) (b3 : Nat) (n c9 c11 : Nat) (A9 A11 : Option Addr) (rows preds : List (List Int)) (bl : Nat) (out : List S73) (W : World) : Prop where
  cell3 : W.cell? ⟨b3, 0, none⟩ = some (.slice A9 n c9)
  cell4 : W.cell? ⟨b3 + 1, 0, none⟩ = some (.slice A11 n c11)
  own3 : Kd.S (Kd.slice 3 (Kd.int .i64)) 23 W w.heap.size (fun k => k < b3) (.slice A9 n c9) rows
  own4 : Kd.S (Kd.slice 3 (Kd.int .i64)) 23 W w.heap.size (fun k => k < b3) (.slice A11 n c11) preds
  out5 : ∃ v, W.heap[b3 + 2]? = some (.cells #[v] 74 (0, 0)) ∧ Kd.R k73 73 W w.heap.size (fun k => bl ≤ k) v out
  below : Below w.heap.size w W
  far : bl ≤ W.heap.size
theorem CrIn.kept {w : World} {b3 n c9 c11 bl : Nat} {A9 A11 : Option Addr} {rows preds : List (List Int)} {out : List S73} {W W' : World} {row : Option Nat} (h : CrIn w b3 n c9 c11 A9 A11 rows preds bl out W) (hg : W.grownBy W' row)
    (hr : ∀ r, row = some r → w.heap.size ≤ r ∧ ∃ o : Obj, W.heap[r]? = some o ∧ o.isCells = false) : CrIn w b3 n c9 c11 A9 A11 rows preds bl out W' := by
  obtain ⟨v, hv, hR⟩ := h.out5
  refine ⟨cell_kept h.cell3 hg (fun r e => (hr r e).2), cell_kept h.cell4 hg (fun r e => (hr r e).2), S_nocells h.own3 hg (fun r e => (hr r e).2), S_nocells h.own4 hg (fun r e => (hr r e).2), ⟨v, ?_, R_nocells hR hg (fun r e => (hr r e).2)⟩, h.below.grown hg h.below.size (fun k e => (hr k e).1), Nat.le_trans h.far hg.size⟩
  exact (grownBy_keeps_cells hg (fun r e => (hr r e).2) hv rfl).trans hv
theorem preds_fold_length (es : List (Int × Int)) : ∀ rows : List (List Int), (es.foldl predStep rows).length = rows.length := by
  induction es with
  | nil => intro rows; rfl
  | cons e es ih => intro rows; rw [List.foldl_cons, ih]; simp [predStep]
theorem predsL_length (g : List (List Int)) : (predsL g).length = g.length := by unfold predsL; rw [preds_fold_length]; simp
set_option maxHeartbeats 4000000 in
set_option maxRecDepth 100000 in
theorem graph_Critical.calls (A0 : Option Addr) (c0 : Nat) (l0 : List (List Int)) (r : List S73) (w : World) (hr0 : Kd.C (Kd.slice 3 (Kd.int .i64)) w A0 l0.length l0) (hc0 : l0.length ≤ c0) (h : graph_Critical.f l0 = some r) :
    Calls Try.prog 48 #[.slice A0 l0.length c0] w fun e w' => ∃ v0_ : Value, e = .returned (v0_) ∧ Kd.R k73 73 w' w.heap.size (fun _ => True) v0_ r ∧ Below w.heap.size w w' := by
  unfold graph_Critical.f at h
  split at h
  case isFalse => cases h
  rename_i hok
  injection h with h
  have hlen := (okG_len hok).1
  have HR := Aside0.mk hr0
  have HC0 := Aside0.mk hc0
  have HOK := Aside0.mk hok
  have HE := Aside0.mk h
  clear hr0 hc0 hok h
  refine (callsIn_wide (n := 6)).1 ?_
  refine callsIn_of_wp_marks Try.func48 rfl trivial ?_ rfl
  simp only [Try.ntmps48, List.size_toArray, List.length_cons, List.length_nil, Nat.reduceAdd, Nat.reduceSub, Array.replicate_succ, Array.replicate_zero, List.push_toArray, List.append_toArray, List.nil_append, List.cons_append]
  refine wpIn_seq (wpIn_wide.2 ?_)
  go_wp2
  refine wpIn_seq (wpIn_wide.2 ?_)
  go_wp2_with fail
  refine (graph_clean.calls (l0.length + 1) A0 c0 l0 (cleanL l0) _ HR.out HC0.out (clean_some l0 HOK.out)).mono ?_
  rintro e W2 ⟨v9, rfl, hS9, hB2⟩
  obtain ⟨A9, c9, rfl, _, _⟩ := Kd.S_reads hS9
  rw [cleanL_length] at hS9 ⊢
  have H9 := Aside0.mk hS9
  have HB2 := Aside0.mk hB2
  clear hS9 hB2
  go_wp2_with fail
  refine (graph_Preds.calls A0 c0 l0 (predsL l0) _ (Kd.C_below HR.out HB2.out) HC0.out (by unfold graph_Preds.f; rw [if_pos HOK.out])).mono ?_
  rintro e W4 ⟨v11, rfl, hS11, hB4⟩
  obtain ⟨A11, c11, rfl, _, _⟩ := Kd.S_reads hS11
  rw [predsL_length] at hS11 ⊢
  have H11 := Aside0.mk (Kd.S_lower hS11 HB2.out.size)
  have H92 := Aside0.mk (Kd.S_below H9.out hB4)
  have HB4 := Aside0.mk (below_step HB2.out hB4)
  clear hS11 hB4 H9
  go_wp2_with fail
  refine wpIn_seq (wpIn_wide.2 ?_)
  go_wp2
  refine wpIn_seq (wpIn_seq ?_)
  gi_wp2
  refine ⟨trivial, ?_⟩
  refine (callsIn_wide.2 (edges_calls A0 l0.length c0 _)).mono ?_
  rintro e w' ⟨rfl, rfl⟩
  gi_wp2
  have c3 := cell_new_c' W4 (.slice A9 l0.length c9) 22
  have c4 := cell_new_c' (W4.alloc (.cells #[.slice A9 l0.length c9] 22)) (.slice A11 l0.length c11) 22
  have c5 := World.alloc_heap_new ((W4.alloc (.cells #[.slice A9 l0.length c9] 22)).alloc (.cells #[.slice A11 l0.length c11] 22)) (.cells #[.slice none 0 0] 74)
  have c6 := cell_new_c' (((W4.alloc (.cells #[.slice A9 l0.length c9] 22)).alloc (.cells #[.slice A11 l0.length c11] 22)).alloc (.cells #[.slice none 0 0] 74)) (.slice A0 l0.length c0) 22
  have hB5 : Below W4.heap.size W4 ((((W4.alloc (.cells #[.slice A9 l0.length c9] 22)).alloc (.cells #[.slice A11 l0.length c11] 22)).alloc (.cells #[.slice none 0 0] 74)).alloc (.cells #[.slice A0 l0.length c0] 22)) := below_alloc (below_alloc (below_alloc (below_alloc (Below.refl _ _) _) _) _) _
  simp only [World.size_alloc] at c4 c5 c6
  obtain ⟨wL, hwL⟩ : ∃ wL, ((((W4.alloc (.cells #[.slice A9 l0.length c9] 22)).alloc (.cells #[.slice A11 l0.length c11] 22)).alloc (.cells #[.slice none 0 0] 74)).alloc (.cells #[.slice A0 l0.length c0] 22)) = wL := ⟨_, rfl⟩
  have hsz : wL.heap.size = W4.heap.size + 4 := by rw [← hwL]; simp
  have HI0 : Aside0 (CrIn w W4.heap.size l0.length c9 c11 A9 A11 (cleanL l0) (predsL l0) wL.heap.size [] wL) := ⟨by
    have k5 : wL.heap[W4.heap.size + 2]? = some (.cells #[.slice none 0 0] 74 (0, 0)) := by
      rw [← hwL]
      exact (below_alloc (Below.refl _ _) _ : Below _ _ _).block _ (by simp) |>.trans c5
    refine ⟨?_, ?_, Kd.S_below (Kd.S_mono (Kd.S_bound H92.out) (fun k hk => hk.2.2.1)) ?_, Kd.S_below (Kd.S_mono (Kd.S_bound H11.out) (fun k hk => hk.2.2.1)) ?_, ⟨_, k5, Kd.R_nil _ _ _ _ _⟩, ?_, Nat.le_refl _⟩
    · rw [← hwL]; exact cell_alloc' _ (cell_alloc' _ (cell_alloc' _ c3.1))
    · rw [← hwL]; exact cell_alloc' _ (cell_alloc' _ c4.1)
    · rw [← hwL]; exact hB5
    · rw [← hwL]; exact hB5
    · rw [← hwL]; exact HB4.out.trans (hB5.mono HB4.out.size)⟩
  have hMW : ∀ k, BxM (W4.heap.size + 2) wL k → k < wL.heap.size := by
    rintro k ⟨v, hv, hk⟩
    obtain ⟨v2, h2, h3⟩ := HI0.out.out5
    have h4 := (cell_of_box' h2).1
    rw [h4] at hv
    injection hv with hv
    subst hv
    exact Kd.R_lt h3 k hk
  have hMd : Told wL.heap.size (BxM (W4.heap.size + 2)) := BxM.told (by omega)
  rw [hwL] at c6 hB5 ⊢
  refine wpIn_rangeFunc_ownG rfl (by omega) (gf := 104) (lb := #[.pointer (some ⟨W4.heap.size + 1 + 1 + 1, 0, none⟩)]) rfl trivial (enters_of Try.func104 (by kernel_rfl) rfl)
    (edges_stops 5 (by omega) (W4.heap.size + 1 + 1 + 1) A0 c0 l0 HOK.out (BxM (W4.heap.size + 2)) wL hMd hMW (Kd.C_below HR.out (HB4.out.trans (hB5.mono HB4.out.size))) HC0.out c6.1) EdKp.trans (EdKp.put hMd) (Below.refl _ _) (fun _ => rfl)
    (fun pre W => CrIn w W4.heap.size l0.length c9 c11 A9 A11 (cleanL l0) (predsL l0) wL.heap.size (crL (cleanL l0) (predsL l0) (pre.map Subtype.val)) W)
    (fun _ _ _ => False)
    (fun s A B row hs hg hr => hs.kept hg (fun r e => ⟨by have := (hr r e).1; have := HB4.out.size; omega, (hr r e).2⟩))
    (fun _ _ _ _ _ hs _ _ => hs)
    HI0.out
    (fun x => { tmps := #[Value.slice A0 l0.length c0, undef, Value.slice none 0 0,
          Value.pointer (some { block := W4.heap.size, off := 0 }),
          Value.pointer (some { block := W4.heap.size + 1, off := 0 }),
          Value.pointer (some { block := W4.heap.size + 1 + 1, off := 0 }), .int .i64 x.1.1, .int .i64 x.1.2, Value.slice A0 l0.length c0,
          Value.slice A9 l0.length c9, Value.slice A0 l0.length c0, Value.slice A11 l0.length c11,
          Value.slice A0 l0.length c0,
          Value.func (Fn.func 104) #[] #[Value.pointer (some { block := W4.heap.size + 1 + 1 + 1, off := 0 })], .int .i64 x.1.1, .int .i64 x.1.2,
          undef, undef, undef, undef, undef, undef, undef, undef, undef, undef, undef, undef, undef,
          undef, undef, undef, undef, undef, undef, undef, undef], defers := [] }) ?assign ?body ?done ?stop
  case assign =>
    intro l x W K hK
    simp only [edEnc]
    gi_wp2
    exact hK
  case body =>
    rintro l pre ⟨⟨a, b⟩, ha0, ha1, hb0, hb1⟩ W hI hlt
    clear hMd hMW hB5 c3 c4 c5 c6 HI0 hwL H11 H92
    simp only at ha0 ha1 hb0 hb1
    obtain ⟨out, hout⟩ : ∃ out, crL (cleanL l0) (predsL l0) (pre.map Subtype.val) = out := ⟨_, rfl⟩
    rw [hout] at hI
    have HOL : Aside0 (out.length ≤ 1000000000000) := ⟨by
      have h1 : out.length ≤ pre.length := by
        rw [← hout]; unfold crL; rw [List.length_map]; exact Nat.le_trans (List.length_filter_le _ _) (by simp)
      have h2 := edgesL_length l0
      have h3 : l0.length * l0.length ≤ 1000000 * 1000000 := Nat.mul_le_mul hlen hlen
      omega⟩
    have hfin : ∀ W', CrIn w W4.heap.size l0.length c9 c11 A9 A11 (cleanL l0) (predsL l0) wL.heap.size (if crB (cleanL l0) (predsL l0) (a, b) = true then out ++ [⟨a, b⟩] else out) W' →
        CrIn w W4.heap.size l0.length c9 c11 A9 A11 (cleanL l0) (predsL l0) wL.heap.size (crL (cleanL l0) (predsL l0) ((pre ++ [(⟨(a, b), by omega⟩ : Ed l0.length)]).map Subtype.val)) W' := by
      intro W' h'
      have e : crL (cleanL l0) (predsL l0) ((pre ++ [(⟨(a, b), by omega⟩ : Ed l0.length)]).map Subtype.val) = if crB (cleanL l0) (predsL l0) (a, b) = true then out ++ [⟨a, b⟩] else out := by
        rw [List.map_append, ← hout]
        unfold crL
        rw [List.filter_append, List.map_append]
        simp only [List.map_cons, List.map_nil, List.filter_cons, List.filter_nil]
        split <;> simp
      rw [e]
      exact h'
    have HFIN := Aside0.mk hfin
    have HIN := Aside0.mk hI
    clear hfin hout
    obtain ⟨hcell3, hcell4, hown3, hown4, ⟨v, h5, hRv⟩, hbel, hfar⟩ := hI
    obtain ⟨i, rfl⟩ := Int.eq_ofNat_of_zero_le ha0
    obtain ⟨j, rfl⟩ := Int.eq_ofNat_of_zero_le hb0
    obtain ⟨ad3, _, _, ear, _⟩ := at_L1 (Kd.S_reads' hown3).2.2 (i : Int) (by omega) (by have := cleanL_length l0; omega)
    subst ear
    obtain ⟨ad4, _, _, ear, _⟩ := at_L1 (Kd.S_reads' hown4).2.2 (j : Int) (by omega) (by have := predsL_length l0; omega)
    subst ear
    obtain ⟨Ar3, cr3, hx3, _⟩ := row_own (Kd.S_mono (ok' := fun _ => True) hown3 (fun _ _ => trivial)) i (by omega)
    obtain ⟨Ar4, cr4, hx4, _⟩ := row_own (Kd.S_mono (ok' := fun _ => True) hown4 (fun _ _ => trivial)) j (by omega)
    obtain ⟨hc5, hf5⟩ := cell_of_box' h5
    obtain ⟨Av, cv, rfl⟩ := Kd.R_slice hRv
    have HRv := Aside0.mk hRv
    have HBEL := Aside0.mk hbel
    have H5 := Aside0.mk h5
    have HO3 := Aside0.mk hown3
    have HO4 := Aside0.mk hown4
    clear hRv hbel h5 hown3 hown4
    obtain ⟨n3, hn3⟩ : ∃ n3, (rd_L1 (cleanL l0) i).length = n3 := ⟨_, rfl⟩
    obtain ⟨n4, hn4⟩ : ∃ n4, (rd_L1 (predsL l0) j).length = n4 := ⟨_, rfl⟩
    rw [hn3] at hx3
    rw [hn4] at hx4
    have HCR : Aside0 (crB (cleanL l0) (predsL l0) ((i : Int), (j : Int)) = (decide (1 < n3) && decide (1 < n4))) := ⟨by
      rw [← hn3, ← hn4]; rfl⟩
    clear hn3 hn4
    by_cases h3 : 1 < n3
    · have k3 : decide ((1 : Int) < (n3 : Int)) = true := decide_eq_true (by omega)
      by_cases h4 : 1 < n4
      · have k4 : decide ((1 : Int) < (n4 : Int)) = true := decide_eq_true (by omega)
        refine wpIn_block ?_
        refine wpIn_seq (wpIn_list_plain (by kernel_rfl) (fun ⟨_, _, h'⟩ => h') ?_)
        go_wp2
        refine wpIn_cond_true rfl ?_
        refine wpIn_list_plain (by kernel_rfl) (fun ⟨_, _, h'⟩ => h') ?_
        go_wp2_with (first | ((with_reducible refine gate_builtin (b := .append) (xs := #[.tmp 30, .tmp 34]) rfl ?_); at_builtin; refine Kd.R_append k73 (w0 := w) (W := W) w.heap.size rfl (.tmp 30) (.tmp 34) 74 73 (.agg #[(.int .i64 0), (.int .i64 0)]) 16 rfl Try.underlying74 info73 rfl (by decide) (by omega) (.slice Av out.length cv) out (⟨i, j⟩ : S73) [.int .i64 i, .int .i64 j] (fun k => wL.heap.size ≤ k) (fun _ => False) rfl rfl ?aP (fun _ hk => hk.elim) ?aF ?aO ?aB ?aS ?aL ?_; (case aP => exact k73_mkM _ _ _ (⟨i, j⟩ : S73)); (case aF => intro k hk; omega); (case aO => exact HRv.out); (case aB => exact HBEL.out); (case aS => exact HBEL.out.size); (case aL => have := HOL.out; omega); intro v35 W7 ho hb hg hat; obtain ⟨A35, n35, c35, rfl⟩ : ∃ A n c, v35 = .slice A n c := ⟨_, _, _, (Kd.R_slice ho).choose_spec.choose_spec⟩; have hA : ∀ k, (Value.slice Av out.length cv).ownBlock = some k → wL.heap.size ≤ k := HRv.out.1; have h57 := (hg.block (W4.heap.size + 2) (blk_lt H5.out) (fun h => by have := hA _ h.symm; omega)).trans H5.out; obtain ⟨hc57, hf57⟩ := cell_of_box' h57) | fail)
        have e : crB (cleanL l0) (predsL l0) ((i : Int), (j : Int)) = true := by rw [HCR.out]; simp [h3, h4]
        have hround := BxM.round (B := wL.heap.size) (bx := W4.heap.size + 2) (v21 := .slice A35 n35 c35) H5.out (by omega) hc5 (fun h => by have := hA _ h; omega) (fun k hk => ⟨_, _, (Kd.R_typed HRv.out k hk).choose_spec⟩) hg hat
        have hF := HFIN.out (W7.setCell ⟨W4.heap.size + 2, 0, none⟩ (.slice A35 n35 c35))
        rw [e, if_pos rfl] at hF
        have hg8 := grownBy_setCell_b W7 (W4.heap.size + 2) 0 (.slice A35 n35 c35)
        have hg78 : ∀ k, k < W4.heap.size + 2 → (W7.setCell ⟨W4.heap.size + 2, 0, none⟩ (.slice A35 n35 c35)).heap[k]? = W.heap[k]? := fun k hk =>
          (hg8.block k (by have := hg.size; omega) (by intro h; injection h with h; omega)).trans (hg.block k (by omega) (fun h => by have := hA _ h.symm; omega))
        refine ⟨hround.1, hround.2, hF ⟨(World.cell?_of_block (hg78 _ (by simp))).trans hcell3, (World.cell?_of_block (hg78 _ (by simp))).trans hcell4, Kd.S_step HO3.out (fun k hk _ => hg78 k (by omega)), Kd.S_step HO4.out (fun k hk _ => hg78 k (by omega)), ⟨.slice A35 n35 c35, ?_, ?_⟩, hb.grown hg8 hb.size (fun k e => by cases e; have := HB4.out.size; omega), by have := hg8.size; have := hg.size; omega⟩⟩
        · exact heap_box h57 _
        · exact Kd.R_mono (Kd.R_step (Kd.R_bound ho) (fun k hk hlt => hg8.block k hlt (fun h => by injection h with h; omega))) (fun _ hk => hk.1)
      · have k4 : decide ((1 : Int) < (n4 : Int)) = false := decide_eq_false (by omega)
        gi_wp2
        have e : crB (cleanL l0) (predsL l0) ((i : Int), (j : Int)) = false := by rw [HCR.out]; simp [h4]
        have hF := HFIN.out W
        rw [e] at hF
        exact ⟨KeepsFrom.refl _ _, EdKp.refl _ _ _, hF HIN.out⟩
    · have k3 : decide ((1 : Int) < (n3 : Int)) = false := decide_eq_false (by omega)
      gi_wp2
      have e : crB (cleanL l0) (predsL l0) ((i : Int), (j : Int)) = false := by rw [HCR.out]; simp [h3]
      have hF := HFIN.out W
      rw [e] at hF
      exact ⟨KeepsFrom.refl _ _, EdKp.refl _ _ _, hF HIN.out⟩
  case done =>
    rintro D ys W hD hys hI hK
    have hr : crL (cleanL l0) (predsL l0) (ys.map Subtype.val) = r := by rw [hys]; exact HE.out
    rw [hr] at hI
    obtain ⟨v, h5, hRv⟩ := hI.out5
    obtain ⟨hc5, hf5⟩ := cell_of_box' h5
    obtain ⟨Av, cv, rfl⟩ := Kd.R_slice hRv
    gi_wp2
    refine ⟨by simp, .inl ⟨_, _, rfl, run_takeDeferred hK, ?_⟩⟩
    refine ⟨_, results_tmp rfl _ _ _, _, rfl, ?_, ?_⟩
    · exact Kd.R_mono (R_nocells hRv (grownBy_putObj' _ D _) (fun r e => by cases e; exact ⟨_, hK, rfl⟩)) (fun _ _ => trivial)
    · exact hI.below.grown (grownBy_putObj' _ D _) hI.below.size (fun k e => by cases e; have := HB4.out.size; omega)
  case stop =>
    rintro D c pre W _ _ h _
    exact h.elim
end Go.Proofs.Ytnmeomdjhjgnfaa.X
/-! A range over graph.edges whose body appends to one boxed row: what stays, what a round does. -/
namespace Go.Proofs.Ytnmeomdjhjgnfaa.X
open Go.RowKit Go.Shelf Go.Proofs.YtnmeomdjhjgnfaaW.PrintWords Go.Proofs.YtnmeomdjhjgnfaaW.PrintLast Go.Proofs.YtnmeomdjhjgnfaaW.PrintMore
set_option linter.unusedVariables false
variable {α : Type} {d : Kd α} {e t : TypeId} {wL W W' W7 : World} {bx : Nat} {out : List α}

structure OutIn (wL : World) (bx : Nat) (d : Kd α) (e t : TypeId) (out : List α) (W : World) : Prop where
  stay : Below bx wL W
  box : ∃ v, W.heap[bx]? = some (.cells #[v] t (0, 0)) ∧ d.R e W wL.heap.size (fun _ => True) v out
  far : wL.heap.size ≤ W.heap.size
theorem OutIn.kept (h : OutIn wL bx d e t out W) {row : Option Nat} (hg : W.grownBy W' row) (hr : ∀ r, row = some r → wL.heap.size ≤ r ∧ ∃ o : Obj, W.heap[r]? = some o ∧ o.isCells = false) (hbx : bx < wL.heap.size) : OutIn wL bx d e t out W' := by
  obtain ⟨v, hv, hR⟩ := h.box
  refine ⟨h.stay.grown hg (by have := h.far; omega) (fun k e => by have := (hr k e).1; omega), ⟨v, ?_, R_nocells hR hg (fun r e => (hr r e).2)⟩, Nat.le_trans h.far hg.size⟩
  exact (grownBy_keeps_cells hg (fun r e => (hr r e).2) hv rfl).trans hv
theorem OutIn.call (h : OutIn wL bx d e t out W) (hb : Below W.heap.size W W') (hbx : bx < wL.heap.size) : KeepsFrom wL.heap.size W W' ∧ EdKp wL.heap.size (BxM bx) W W' ∧ OutIn wL bx d e t out W' := by
  obtain ⟨v, hv, hR⟩ := h.box
  have hf := h.far
  refine ⟨KeepsFrom.of_below hb, EdKp.of_below (BxM.told hbx) h.far hb, h.stay.trans (hb.mono (by omega)), ⟨v, ?_, Kd.R_below hR hb⟩, Nat.le_trans hf hb.size⟩
  exact (hb.block bx (by omega)).trans hv
theorem OutIn.append (h : OutIn wL bx d e t out W) (hbx : bx < wL.heap.size) {v18 v21 : Value} {x : α} (hv : W.heap[bx]? = some (.cells #[v18] t (0, 0))) (hR : d.R e W wL.heap.size (fun _ => True) v18 out)
    (hR7 : d.R e W7 wL.heap.size (fun _ => True) v21 (out ++ [x])) (hg : W.grownBy W7 v18.ownBlock) (hat : v21.ownBlock = v18.ownBlock ∨ ∃ k, v21.ownBlock = some k ∧ W.heap.size ≤ k) :
    KeepsFrom wL.heap.size W (W7.setCell ⟨bx, 0, none⟩ v21) ∧ EdKp wL.heap.size (BxM bx) W (W7.setCell ⟨bx, 0, none⟩ v21) ∧ OutIn wL bx d e t (out ++ [x]) (W7.setCell ⟨bx, 0, none⟩ v21) := by
  have hf := h.far
  have hA : ∀ k, v18.ownBlock = some k → wL.heap.size ≤ k := Kd.R_base hR
  have hround := BxM.round (B := wL.heap.size) (v21 := v21) hv hbx (cell_of_box' hv).1 (fun h => by have := hA _ h; omega) (fun k hk => ⟨_, _, (Kd.R_typed hR k hk).choose_spec⟩) hg hat
  have hg8 := grownBy_setCell_b W7 bx 0 v21
  have h57 := (hg.block bx (blk_lt hv) (fun h => by have := hA _ h.symm; omega)).trans hv
  have hs := hg.size
  have hs8 := hg8.size
  refine ⟨hround.1, hround.2, ?_, ⟨v21, heap_box h57 _, Kd.R_mono (Kd.R_step (Kd.R_bound hR7) (fun k hk hlt => hg8.block k hlt (fun h => by injection h with h; have := hk.2.1; omega))) (fun _ _ => trivial)⟩, by omega⟩
  exact (h.stay.grown hg (by omega) (fun k e => by have := hA k e; omega)).grown hg8 (by omega) (fun k e => by injection e with e; omega)
/-- The box as the loop begins. -/
theorem OutIn.start (hv : wL.heap[bx]? = some (.cells #[.slice none 0 0] t (0, 0))) : OutIn wL bx d e t [] wL := ⟨Below.refl _ _, ⟨_, hv, Kd.R_nil _ _ _ _ _⟩, Nat.le_refl _⟩
theorem OutIn.names (h : OutIn wL bx d e t out wL) : ∀ k, BxM bx wL k → k < wL.heap.size := by
  rintro k ⟨v, hv, hk⟩
  obtain ⟨v2, h2, h3⟩ := h.box
  rw [(cell_of_box' h2).1] at hv
  injection hv with hv
  subst hv
  exact Kd.R_lt h3 k hk
end Go.Proofs.Ytnmeomdjhjgnfaa.X
