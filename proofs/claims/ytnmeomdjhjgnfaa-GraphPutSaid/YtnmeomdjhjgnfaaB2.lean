/- Parts of the proof of GraphPut: Gcrit, Gdom, Gspec2, Gback, Ghead, Gred, Gbody, Gpairs, X3, Gawake. -/
import Derived.Test.YtnmeomdjhjgnfaaB1
import Derived.Laws.EntriesVeiled
import Derived.Maps.Own
import Derived.Maps.Views
section
/-! graph.Critical, by hand. -/
set_option linter.unusedSimpArgs false
namespace Go.Proofs.Ytnmeomdjhjgnfaa.X
open Go.RowKit Go.Shelf Go.Proofs.YtnmeomdjhjgnfaaW.PrintWords Go.Proofs.YtnmeomdjhjgnfaaW.PrintLast Go.Proofs.YtnmeomdjhjgnfaaW.PrintMore
set_option linter.unusedVariables false
attribute [local go_sem] Oper.semAt_some

/-- What a box's row owns. -/
def BxM (bx : Nat) (W : World) (k : Nat) : Prop := ∃ v, W.cell? ⟨bx, 0, none⟩ = some v ∧ v.ownBlock = some k
theorem BxM.told {bx B : Nat} (h : bx < B) : Told B (BxM bx) := by
  rintro W W' hb k ⟨v, hc, hk⟩
  exact ⟨v, (World.cell?_of_block (a := ⟨bx, 0, none⟩) (hb _ h)).symm.trans hc, hk⟩
theorem KeepsFrom.of_below {B : Nat} {W W' : World} (h : Below W.heap.size W W') : KeepsFrom B W W' :=
  ⟨h.size, fun k o _ hk _ => (h.block k (Array.getElem?_eq_some_iff.1 hk).1).trans hk⟩
theorem EdKp.of_below {B : Nat} {M : World → Nat → Prop} {W W' : World} (hM : Told B M) (hB : B ≤ W.heap.size) (h : Below W.heap.size W W') : EdKp B M W W' :=
  ⟨h.size, fun k c t f _ _ hk => (h.block k (Array.getElem?_eq_some_iff.1 hk).1).trans hk, fun k hk => .inl (hM _ _ (fun b hb => h.block b (by omega)) k hk)⟩
/-- A round that appends to the box's row. -/
theorem BxM.round {B bx : Nat} {W W7 : World} {v18 v21 : Value} {e : TypeId} {cells : Array Value} (hgc : W.heap[bx]? = some (.cells cells e (0, 0))) (hB : bx < B)
    (hc : W.cell? ⟨bx, 0, none⟩ = some v18) (hne : v18.ownBlock ≠ some bx) (ht : ∀ k, v18.ownBlock = some k → ∃ c q, W.heap[k]? = some (.cells c q (0, 0)))
    (hg7 : W.grownBy W7 v18.ownBlock) (hat : v21.ownBlock = v18.ownBlock ∨ ∃ k, v21.ownBlock = some k ∧ W.heap.size ≤ k) :
    KeepsFrom B W (W7.setCell ⟨bx, 0, none⟩ v21) ∧ EdKp B (BxM bx) W (W7.setCell ⟨bx, 0, none⟩ v21) := by
  have h := PrM.round (b := 0) (n := 1) hgc hB (by omega) hc hne ht hg7 hat
  refine ⟨h.1, h.2.size, fun k c t f hBk hM hk => h.2.same k c t f hBk (fun h2 => hM ?_) hk, fun k hk => ?_⟩
  · obtain ⟨ad, i, v, ead, hi, hv, hk⟩ := h2
    injection ead with ead
    subst ead
    obtain rfl : i = 0 := by omega
    exact ⟨v, hv, hk⟩
  · obtain ⟨v, hv, hk⟩ := hk
    refine (h.2.mine k ⟨_, 0, v, rfl, by omega, hv, hk⟩).imp (fun h2 => ?_) id
    obtain ⟨ad, i, v, ead, hi, hv, hk⟩ := h2
    injection ead with ead
    subst ead
    obtain rfl : i = 0 := by omega
    exact ⟨v, hv, hk⟩
theorem R_nocells {α : Type} {d : Kd α} {e base : Nat} {ok : Nat → Prop} {W W' : World} {v : Value} {xs : List α} {row : Option Nat} (h : d.R e W base ok v xs) (hg : W.grownBy W' row)
    (hr : ∀ r, row = some r → ∃ o : Obj, W.heap[r]? = some o ∧ o.isCells = false) : d.R e W' base ok v xs := by
  refine Kd.R_mono (Kd.R_step (Kd.R_bound h) (fun k hk hlt => hg.block k hlt (fun he => ?_))) (fun _ hk => hk.1)
  obtain ⟨_, _, _, q, _, cells, hc⟩ := hk
  obtain ⟨o, ho, hn⟩ := hr k he.symm
  rw [hc] at ho; cases ho; cases hn

theorem heap_box {W : World} {B : Nat} {v : Value} {t : TypeId} (h : W.heap[B]? = some (.cells #[v] t (0, 0))) (u : Value) : (W.setCell ⟨B, 0, none⟩ u).heap[B]? = some (.cells #[u] t (0, 0)) := by
  simp [World.setCell, Array.getElem?_modify, h]
def crB (rows preds : List (List Int)) (e : Int × Int) : Bool := decide (1 < (rows.getD e.1.toNat []).length) && decide (1 < (preds.getD e.2.toNat []).length)
def crL (rows preds : List (List Int)) (es : List (Int × Int)) : List S73 := (es.filter (crB rows preds)).map fun e => ⟨e.1, e.2⟩
structure CrIn (w : World) (b3 : Nat) (n c9 c11 : Nat) (A9 A11 : Option Addr) (rows preds : List (List Int)) (bl : Nat) (out : List S73) (W : World) : Prop where
  cell3 : W.cell? ⟨b3, 0, none⟩ = some (.slice A9 n c9)
  cell4 : W.cell? ⟨b3 + 1, 0, none⟩ = some (.slice A11 n c11)
  own3 : Kd.S (Kd.slice 3 (Kd.int .i64)) 23 W w.heap.size (fun k => k < b3) (.slice A9 n c9) rows
  own4 : Kd.S (Kd.slice 3 (Kd.int .i64)) 23 W w.heap.size (fun k => k < b3) (.slice A11 n c11) preds
  out5 : ∃ v, W.heap[b3 + 2]? = some (.cells #[v] 74 (0, 0)) ∧ Kd.R k73 73 W w.heap.size (fun k => bl ≤ k) v out
  below : Below w.heap.size w W
  far : bl ≤ W.heap.size
theorem CrIn.kept {w : World} {b3 n c9 c11 bl : Nat} {A9 A11 : Option Addr} {rows preds : List (List Int)} {out : List S73} {W W' : World} {row : Option Nat} (h : CrIn w b3 n c9 c11 A9 A11 rows preds bl out W) (hg : W.grownBy W' row)
    (hr : ∀ r, row = some r → w.heap.size ≤ r ∧ ∃ o : Obj, W.heap[r]? = some o ∧ o.isCells = false) : CrIn w b3 n c9 c11 A9 A11 rows preds bl out W' := by
  obtain ⟨v, hv, hR⟩ := h.out5
  refine ⟨cell_kept h.cell3 hg (fun r e => (hr r e).2), cell_kept h.cell4 hg (fun r e => (hr r e).2), S_nocells h.own3 hg (fun r e => (hr r e).2), S_nocells h.own4 hg (fun r e => (hr r e).2), ⟨v, ?_, R_nocells hR hg (fun r e => (hr r e).2)⟩, h.below.grown hg h.below.size (fun k e => (hr k e).1), Nat.le_trans h.far hg.size⟩
  exact (grownBy_keeps_cells hg (fun r e => (hr r e).2) hv rfl).trans hv
theorem preds_fold_length (es : List (Int × Int)) : ∀ rows : List (List Int), (es.foldl predStep rows).length = rows.length := by
  induction es with
  | nil => intro rows; rfl
  | cons e es ih => intro rows; rw [List.foldl_cons, ih]; simp [predStep]
theorem predsL_length (g : List (List Int)) : (predsL g).length = g.length := by unfold predsL; rw [preds_fold_length]; simp
set_option maxHeartbeats 4000000 in
set_option maxRecDepth 100000 in
theorem graph_Critical.calls (A0 : Option Addr) (c0 : Nat) (l0 : List (List Int)) (r : List S73) (w : World) (hr0 : Kd.C (Kd.slice 3 (Kd.int .i64)) w A0 l0.length l0) (hc0 : l0.length ≤ c0) (h : graph_Critical.f l0 = some r) :
    Calls Try.prog 48 #[.slice A0 l0.length c0] w fun e w' => ∃ v0_ : Value, e = .returned (v0_) ∧ Kd.R k73 73 w' w.heap.size (fun _ => True) v0_ r ∧ Below w.heap.size w w' := by
  unfold graph_Critical.f at h
  split at h
  case isFalse => cases h
  rename_i hok
  injection h with h
  have hlen := (okG_len hok).1
  have HR := Aside0.mk hr0
  have HC0 := Aside0.mk hc0
  have HOK := Aside0.mk hok
  have HE := Aside0.mk h
  clear hr0 hc0 hok h
  refine (callsIn_wide (n := 6)).1 ?_
  refine callsIn_of_wp_marks Try.func48 rfl trivial ?_ rfl
  simp only [Try.ntmps48, List.size_toArray, List.length_cons, List.length_nil, Nat.reduceAdd, Nat.reduceSub, Array.replicate_succ, Array.replicate_zero, List.push_toArray, List.append_toArray, List.nil_append, List.cons_append]
  refine wpIn_seq (wpIn_wide.2 ?_)
  go_wp2
  refine wpIn_seq (wpIn_wide.2 ?_)
  go_wp2_with fail
  refine (graph_clean.calls (l0.length + 1) A0 c0 l0 (cleanL l0) _ HR.out HC0.out (clean_some l0 HOK.out)).mono ?_
  rintro e W2 ⟨v9, rfl, hS9, hB2⟩
  obtain ⟨A9, c9, rfl, _, _⟩ := Kd.S_reads hS9
  rw [cleanL_length] at hS9 ⊢
  have H9 := Aside0.mk hS9
  have HB2 := Aside0.mk hB2
  clear hS9 hB2
  go_wp2_with fail
  refine (graph_Preds.calls A0 c0 l0 (predsL l0) _ (Kd.C_below HR.out HB2.out) HC0.out (by unfold graph_Preds.f; rw [if_pos HOK.out])).mono ?_
  rintro e W4 ⟨v11, rfl, hS11, hB4⟩
  obtain ⟨A11, c11, rfl, _, _⟩ := Kd.S_reads hS11
  rw [predsL_length] at hS11 ⊢
  have H11 := Aside0.mk (Kd.S_lower hS11 HB2.out.size)
  have H92 := Aside0.mk (Kd.S_below H9.out hB4)
  have HB4 := Aside0.mk (below_step HB2.out hB4)
  clear hS11 hB4 H9
  go_wp2_with fail
  refine wpIn_seq (wpIn_wide.2 ?_)
  go_wp2
  refine wpIn_seq (wpIn_seq ?_)
  gi_wp2
  refine ⟨trivial, ?_⟩
  refine (callsIn_wide.2 (edges_calls A0 l0.length c0 _)).mono ?_
  rintro e w' ⟨rfl, rfl⟩
  gi_wp2
  have c3 := cell_new_c' W4 (.slice A9 l0.length c9) 22
  have c4 := cell_new_c' (W4.alloc (.cells #[.slice A9 l0.length c9] 22)) (.slice A11 l0.length c11) 22
  have c5 := World.alloc_heap_new ((W4.alloc (.cells #[.slice A9 l0.length c9] 22)).alloc (.cells #[.slice A11 l0.length c11] 22)) (.cells #[.slice none 0 0] 74)
  have c6 := cell_new_c' (((W4.alloc (.cells #[.slice A9 l0.length c9] 22)).alloc (.cells #[.slice A11 l0.length c11] 22)).alloc (.cells #[.slice none 0 0] 74)) (.slice A0 l0.length c0) 22
  have hB5 : Below W4.heap.size W4 ((((W4.alloc (.cells #[.slice A9 l0.length c9] 22)).alloc (.cells #[.slice A11 l0.length c11] 22)).alloc (.cells #[.slice none 0 0] 74)).alloc (.cells #[.slice A0 l0.length c0] 22)) := below_alloc (below_alloc (below_alloc (below_alloc (Below.refl _ _) _) _) _) _
  simp only [World.size_alloc] at c4 c5 c6
  obtain ⟨wL, hwL⟩ : ∃ wL, ((((W4.alloc (.cells #[.slice A9 l0.length c9] 22)).alloc (.cells #[.slice A11 l0.length c11] 22)).alloc (.cells #[.slice none 0 0] 74)).alloc (.cells #[.slice A0 l0.length c0] 22)) = wL := ⟨_, rfl⟩
  have hsz : wL.heap.size = W4.heap.size + 4 := by rw [← hwL]; simp
  have HI0 : Aside0 (CrIn w W4.heap.size l0.length c9 c11 A9 A11 (cleanL l0) (predsL l0) wL.heap.size [] wL) := ⟨by
    have k5 : wL.heap[W4.heap.size + 2]? = some (.cells #[.slice none 0 0] 74 (0, 0)) := by
      rw [← hwL]
      exact (below_alloc (Below.refl _ _) _ : Below _ _ _).block _ (by simp) |>.trans c5
    refine ⟨?_, ?_, Kd.S_below (Kd.S_mono (Kd.S_bound H92.out) (fun k hk => hk.2.2.1)) ?_, Kd.S_below (Kd.S_mono (Kd.S_bound H11.out) (fun k hk => hk.2.2.1)) ?_, ⟨_, k5, Kd.R_nil _ _ _ _ _⟩, ?_, Nat.le_refl _⟩
    · rw [← hwL]; exact cell_alloc' _ (cell_alloc' _ (cell_alloc' _ c3.1))
    · rw [← hwL]; exact cell_alloc' _ (cell_alloc' _ c4.1)
    · rw [← hwL]; exact hB5
    · rw [← hwL]; exact hB5
    · rw [← hwL]; exact HB4.out.trans (hB5.mono HB4.out.size)⟩
  have hMW : ∀ k, BxM (W4.heap.size + 2) wL k → k < wL.heap.size := by
    rintro k ⟨v, hv, hk⟩
    obtain ⟨v2, h2, h3⟩ := HI0.out.out5
    have h4 := (cell_of_box' h2).1
    rw [h4] at hv
    injection hv with hv
    subst hv
    exact Kd.R_lt h3 k hk
  have hMd : Told wL.heap.size (BxM (W4.heap.size + 2)) := BxM.told (by omega)
  rw [hwL] at c6 hB5 ⊢
  refine wpIn_rangeFunc_ownG rfl (by omega) (gf := 104) (lb := #[.pointer (some ⟨W4.heap.size + 1 + 1 + 1, 0, none⟩)]) rfl trivial (enters_of Try.func104 (by kernel_rfl) rfl)
    (edges_stops 5 (by omega) (W4.heap.size + 1 + 1 + 1) A0 c0 l0 HOK.out (BxM (W4.heap.size + 2)) wL hMd hMW (Kd.C_below HR.out (HB4.out.trans (hB5.mono HB4.out.size))) HC0.out c6.1) EdKp.trans (EdKp.put hMd) (Below.refl _ _) (fun _ => rfl)
    (fun pre W => CrIn w W4.heap.size l0.length c9 c11 A9 A11 (cleanL l0) (predsL l0) wL.heap.size (crL (cleanL l0) (predsL l0) (pre.map Subtype.val)) W)
    (fun _ _ _ => False)
    (fun s A B row hs hg hr => hs.kept hg (fun r e => ⟨by have := (hr r e).1; have := HB4.out.size; omega, (hr r e).2⟩))
    (fun _ _ _ _ _ hs _ _ => hs)
    HI0.out
    (fun x => { tmps := #[Value.slice A0 l0.length c0, undef, Value.slice none 0 0,
          Value.pointer (some { block := W4.heap.size, off := 0 }),
          Value.pointer (some { block := W4.heap.size + 1, off := 0 }),
          Value.pointer (some { block := W4.heap.size + 1 + 1, off := 0 }), .int .i64 x.1.1, .int .i64 x.1.2, Value.slice A0 l0.length c0,
          Value.slice A9 l0.length c9, Value.slice A0 l0.length c0, Value.slice A11 l0.length c11,
          Value.slice A0 l0.length c0,
          Value.func (Fn.func 104) #[] #[Value.pointer (some { block := W4.heap.size + 1 + 1 + 1, off := 0 })], .int .i64 x.1.1, .int .i64 x.1.2,
          undef, undef, undef, undef, undef, undef, undef, undef, undef, undef, undef, undef, undef,
          undef, undef, undef, undef, undef, undef, undef, undef], defers := [] }) ?assign ?body ?done ?stop
  case assign =>
    intro l x W K hK
    simp only [edEnc]
    gi_wp2
    exact hK
  case body =>
    rintro l pre ⟨⟨a, b⟩, ha0, ha1, hb0, hb1⟩ W hI hlt
    clear hMd hMW hB5 c3 c4 c5 c6 HI0 hwL H11 H92
    simp only at ha0 ha1 hb0 hb1
    obtain ⟨out, hout⟩ : ∃ out, crL (cleanL l0) (predsL l0) (pre.map Subtype.val) = out := ⟨_, rfl⟩
    rw [hout] at hI
    have HOL : Aside0 (out.length ≤ 1000000000000) := ⟨by
      have h1 : out.length ≤ pre.length := by
        rw [← hout]; unfold crL; rw [List.length_map]; exact Nat.le_trans (List.length_filter_le _ _) (by simp)
      have h2 := edgesL_length l0
      have h3 : l0.length * l0.length ≤ 1000000 * 1000000 := Nat.mul_le_mul hlen hlen
      omega⟩
    have hfin : ∀ W', CrIn w W4.heap.size l0.length c9 c11 A9 A11 (cleanL l0) (predsL l0) wL.heap.size (if crB (cleanL l0) (predsL l0) (a, b) = true then out ++ [⟨a, b⟩] else out) W' →
        CrIn w W4.heap.size l0.length c9 c11 A9 A11 (cleanL l0) (predsL l0) wL.heap.size (crL (cleanL l0) (predsL l0) ((pre ++ [(⟨(a, b), by omega⟩ : Ed l0.length)]).map Subtype.val)) W' := by
      intro W' h'
      have e : crL (cleanL l0) (predsL l0) ((pre ++ [(⟨(a, b), by omega⟩ : Ed l0.length)]).map Subtype.val) = if crB (cleanL l0) (predsL l0) (a, b) = true then out ++ [⟨a, b⟩] else out := by
        rw [List.map_append, ← hout]
        unfold crL
        rw [List.filter_append, List.map_append]
        simp only [List.map_cons, List.map_nil, List.filter_cons, List.filter_nil]
        split <;> simp
      rw [e]
      exact h'
    have HFIN := Aside0.mk hfin
    have HIN := Aside0.mk hI
    clear hfin hout
    obtain ⟨hcell3, hcell4, hown3, hown4, ⟨v, h5, hRv⟩, hbel, hfar⟩ := hI
    obtain ⟨i, rfl⟩ := Int.eq_ofNat_of_zero_le ha0
    obtain ⟨j, rfl⟩ := Int.eq_ofNat_of_zero_le hb0
    obtain ⟨ad3, _, _, ear, _⟩ := at_L1 (Kd.S_reads' hown3).2.2 (i : Int) (by omega) (by have := cleanL_length l0; omega)
    subst ear
    obtain ⟨ad4, _, _, ear, _⟩ := at_L1 (Kd.S_reads' hown4).2.2 (j : Int) (by omega) (by have := predsL_length l0; omega)
    subst ear
    obtain ⟨Ar3, cr3, hx3, _⟩ := row_own (Kd.S_mono (ok' := fun _ => True) hown3 (fun _ _ => trivial)) i (by omega)
    obtain ⟨Ar4, cr4, hx4, _⟩ := row_own (Kd.S_mono (ok' := fun _ => True) hown4 (fun _ _ => trivial)) j (by omega)
    obtain ⟨hc5, hf5⟩ := cell_of_box' h5
    obtain ⟨Av, cv, rfl⟩ := Kd.R_slice hRv
    have HRv := Aside0.mk hRv
    have HBEL := Aside0.mk hbel
    have H5 := Aside0.mk h5
    have HO3 := Aside0.mk hown3
    have HO4 := Aside0.mk hown4
    clear hRv hbel h5 hown3 hown4
    obtain ⟨n3, hn3⟩ : ∃ n3, (rd_L1 (cleanL l0) i).length = n3 := ⟨_, rfl⟩
    obtain ⟨n4, hn4⟩ : ∃ n4, (rd_L1 (predsL l0) j).length = n4 := ⟨_, rfl⟩
    rw [hn3] at hx3
    rw [hn4] at hx4
    have HCR : Aside0 (crB (cleanL l0) (predsL l0) ((i : Int), (j : Int)) = (decide (1 < n3) && decide (1 < n4))) := ⟨by
      rw [← hn3, ← hn4]; rfl⟩
    clear hn3 hn4
    by_cases h3 : 1 < n3
    · have k3 : decide ((1 : Int) < (n3 : Int)) = true := decide_eq_true (by omega)
      by_cases h4 : 1 < n4
      · have k4 : decide ((1 : Int) < (n4 : Int)) = true := decide_eq_true (by omega)
        refine wpIn_block ?_
        refine wpIn_seq (wpIn_list_plain (by kernel_rfl) (fun ⟨_, _, h'⟩ => h') ?_)
        go_wp2
        refine wpIn_cond_true rfl ?_
        refine wpIn_list_plain (by kernel_rfl) (fun ⟨_, _, h'⟩ => h') ?_
        go_wp2_with (first | ((with_reducible refine gate_builtin (b := .append) (xs := #[.tmp 30, .tmp 34]) rfl ?_); at_builtin; refine Kd.R_append k73 (w0 := w) (W := W) w.heap.size rfl (.tmp 30) (.tmp 34) 74 73 (.agg #[(.int .i64 0), (.int .i64 0)]) 16 rfl Try.underlying74 info73 rfl (by decide) (by omega) (.slice Av out.length cv) out (⟨i, j⟩ : S73) [.int .i64 i, .int .i64 j] (fun k => wL.heap.size ≤ k) (fun _ => False) rfl rfl ?aP (fun _ hk => hk.elim) ?aF ?aO ?aB ?aS ?aL ?_; (case aP => exact k73_mkM _ _ _ (⟨i, j⟩ : S73)); (case aF => intro k hk; omega); (case aO => exact HRv.out); (case aB => exact HBEL.out); (case aS => exact HBEL.out.size); (case aL => have := HOL.out; omega); intro v35 W7 ho hb hg hat; obtain ⟨A35, n35, c35, rfl⟩ : ∃ A n c, v35 = .slice A n c := ⟨_, _, _, (Kd.R_slice ho).choose_spec.choose_spec⟩; have hA : ∀ k, (Value.slice Av out.length cv).ownBlock = some k → wL.heap.size ≤ k := HRv.out.1; have h57 := (hg.block (W4.heap.size + 2) (blk_lt H5.out) (fun h => by have := hA _ h.symm; omega)).trans H5.out; obtain ⟨hc57, hf57⟩ := cell_of_box' h57) | fail)
        have e : crB (cleanL l0) (predsL l0) ((i : Int), (j : Int)) = true := by rw [HCR.out]; simp [h3, h4]
        have hround := BxM.round (B := wL.heap.size) (bx := W4.heap.size + 2) (v21 := .slice A35 n35 c35) H5.out (by omega) hc5 (fun h => by have := hA _ h; omega) (fun k hk => ⟨_, _, (Kd.R_typed HRv.out k hk).choose_spec⟩) hg hat
        have hF := HFIN.out (W7.setCell ⟨W4.heap.size + 2, 0, none⟩ (.slice A35 n35 c35))
        rw [e, if_pos rfl] at hF
        have hg8 := grownBy_setCell_b W7 (W4.heap.size + 2) 0 (.slice A35 n35 c35)
        have hg78 : ∀ k, k < W4.heap.size + 2 → (W7.setCell ⟨W4.heap.size + 2, 0, none⟩ (.slice A35 n35 c35)).heap[k]? = W.heap[k]? := fun k hk =>
          (hg8.block k (by have := hg.size; omega) (by intro h; injection h with h; omega)).trans (hg.block k (by omega) (fun h => by have := hA _ h.symm; omega))
        refine ⟨hround.1, hround.2, hF ⟨(World.cell?_of_block (hg78 _ (by simp))).trans hcell3, (World.cell?_of_block (hg78 _ (by simp))).trans hcell4, Kd.S_step HO3.out (fun k hk _ => hg78 k (by omega)), Kd.S_step HO4.out (fun k hk _ => hg78 k (by omega)), ⟨.slice A35 n35 c35, ?_, ?_⟩, hb.grown hg8 hb.size (fun k e => by cases e; have := HB4.out.size; omega), by have := hg8.size; have := hg.size; omega⟩⟩
        · exact heap_box h57 _
        · exact Kd.R_mono (Kd.R_step (Kd.R_bound ho) (fun k hk hlt => hg8.block k hlt (fun h => by injection h with h; omega))) (fun _ hk => hk.1)
      · have k4 : decide ((1 : Int) < (n4 : Int)) = false := decide_eq_false (by omega)
        gi_wp2
        have e : crB (cleanL l0) (predsL l0) ((i : Int), (j : Int)) = false := by rw [HCR.out]; simp [h4]
        have hF := HFIN.out W
        rw [e] at hF
        exact ⟨KeepsFrom.refl _ _, EdKp.refl _ _ _, hF HIN.out⟩
    · have k3 : decide ((1 : Int) < (n3 : Int)) = false := decide_eq_false (by omega)
      gi_wp2
      have e : crB (cleanL l0) (predsL l0) ((i : Int), (j : Int)) = false := by rw [HCR.out]; simp [h3]
      have hF := HFIN.out W
      rw [e] at hF
      exact ⟨KeepsFrom.refl _ _, EdKp.refl _ _ _, hF HIN.out⟩
  case done =>
    rintro D ys W hD hys hI hK
    have hr : crL (cleanL l0) (predsL l0) (ys.map Subtype.val) = r := by rw [hys]; exact HE.out
    rw [hr] at hI
    obtain ⟨v, h5, hRv⟩ := hI.out5
    obtain ⟨hc5, hf5⟩ := cell_of_box' h5
    obtain ⟨Av, cv, rfl⟩ := Kd.R_slice hRv
    gi_wp2
    refine ⟨by simp, .inl ⟨_, _, rfl, run_takeDeferred hK, ?_⟩⟩
    refine ⟨_, results_tmp rfl _ _ _, _, rfl, ?_, ?_⟩
    · exact Kd.R_mono (R_nocells hRv (grownBy_putObj' _ D _) (fun r e => by cases e; exact ⟨_, hK, rfl⟩)) (fun _ _ => trivial)
    · exact hI.below.grown (grownBy_putObj' _ D _) hI.below.size (fun k e => by cases e; have := HB4.out.size; omega)
  case stop =>
    rintro D c pre W _ _ h _
    exact h.elim
end Go.Proofs.Ytnmeomdjhjgnfaa.X
/-! A range over graph.edges whose body appends to one boxed row: what stays, what a round does. -/
namespace Go.Proofs.Ytnmeomdjhjgnfaa.X
open Go.RowKit Go.Shelf Go.Proofs.YtnmeomdjhjgnfaaW.PrintWords Go.Proofs.YtnmeomdjhjgnfaaW.PrintLast Go.Proofs.YtnmeomdjhjgnfaaW.PrintMore
set_option linter.unusedVariables false
variable {α : Type} {d : Kd α} {e t : TypeId} {wL W W' W7 : World} {bx : Nat} {out : List α}

structure OutIn (wL : World) (bx : Nat) (d : Kd α) (e t : TypeId) (out : List α) (W : World) : Prop where
  stay : Below bx wL W
  box : ∃ v, W.heap[bx]? = some (.cells #[v] t (0, 0)) ∧ d.R e W wL.heap.size (fun _ => True) v out
  far : wL.heap.size ≤ W.heap.size
theorem OutIn.kept (h : OutIn wL bx d e t out W) {row : Option Nat} (hg : W.grownBy W' row) (hr : ∀ r, row = some r → wL.heap.size ≤ r ∧ ∃ o : Obj, W.heap[r]? = some o ∧ o.isCells = false) (hbx : bx < wL.heap.size) : OutIn wL bx d e t out W' := by
  obtain ⟨v, hv, hR⟩ := h.box
  refine ⟨h.stay.grown hg (by have := h.far; omega) (fun k e => by have := (hr k e).1; omega), ⟨v, ?_, R_nocells hR hg (fun r e => (hr r e).2)⟩, Nat.le_trans h.far hg.size⟩
  exact (grownBy_keeps_cells hg (fun r e => (hr r e).2) hv rfl).trans hv
theorem OutIn.call (h : OutIn wL bx d e t out W) (hb : Below W.heap.size W W') (hbx : bx < wL.heap.size) : KeepsFrom wL.heap.size W W' ∧ EdKp wL.heap.size (BxM bx) W W' ∧ OutIn wL bx d e t out W' := by
  obtain ⟨v, hv, hR⟩ := h.box
  have hf := h.far
  refine ⟨KeepsFrom.of_below hb, EdKp.of_below (BxM.told hbx) h.far hb, h.stay.trans (hb.mono (by omega)), ⟨v, ?_, Kd.R_below hR hb⟩, Nat.le_trans hf hb.size⟩
  exact (hb.block bx (by omega)).trans hv
theorem OutIn.append (h : OutIn wL bx d e t out W) (hbx : bx < wL.heap.size) {v18 v21 : Value} {x : α} (hv : W.heap[bx]? = some (.cells #[v18] t (0, 0))) (hR : d.R e W wL.heap.size (fun _ => True) v18 out)
    (hR7 : d.R e W7 wL.heap.size (fun _ => True) v21 (out ++ [x])) (hg : W.grownBy W7 v18.ownBlock) (hat : v21.ownBlock = v18.ownBlock ∨ ∃ k, v21.ownBlock = some k ∧ W.heap.size ≤ k) :
    KeepsFrom wL.heap.size W (W7.setCell ⟨bx, 0, none⟩ v21) ∧ EdKp wL.heap.size (BxM bx) W (W7.setCell ⟨bx, 0, none⟩ v21) ∧ OutIn wL bx d e t (out ++ [x]) (W7.setCell ⟨bx, 0, none⟩ v21) := by
  have hf := h.far
  have hA : ∀ k, v18.ownBlock = some k → wL.heap.size ≤ k := Kd.R_base hR
  have hround := BxM.round (B := wL.heap.size) (v21 := v21) hv hbx (cell_of_box' hv).1 (fun h => by have := hA _ h; omega) (fun k hk => ⟨_, _, (Kd.R_typed hR k hk).choose_spec⟩) hg hat
  have hg8 := grownBy_setCell_b W7 bx 0 v21
  have h57 := (hg.block bx (blk_lt hv) (fun h => by have := hA _ h.symm; omega)).trans hv
  have hs := hg.size
  have hs8 := hg8.size
  refine ⟨hround.1, hround.2, ?_, ⟨v21, heap_box h57 _, Kd.R_mono (Kd.R_step (Kd.R_bound hR7) (fun k hk hlt => hg8.block k hlt (fun h => by injection h with h; have := hk.2.1; omega))) (fun _ _ => trivial)⟩, by omega⟩
  exact (h.stay.grown hg (by omega) (fun k e => by have := hA k e; omega)).grown hg8 (by omega) (fun k e => by injection e with e; omega)
/-- The box as the loop begins. -/
theorem OutIn.start (hv : wL.heap[bx]? = some (.cells #[.slice none 0 0] t (0, 0))) : OutIn wL bx d e t [] wL := ⟨Below.refl _ _, ⟨_, hv, Kd.R_nil _ _ _ _ _⟩, Nat.le_refl _⟩
theorem OutIn.names (h : OutIn wL bx d e t out wL) : ∀ k, BxM bx wL k → k < wL.heap.size := by
  rintro k ⟨v, hv, hk⟩
  obtain ⟨v2, h2, h3⟩ := h.box
  rw [(cell_of_box' h2).1] at hv
  injection hv with hv
  subst hv
  exact Kd.R_lt h3 k hk
end Go.Proofs.Ytnmeomdjhjgnfaa.X
end
section
/-! graph.Dominates: the contract, by hand (a closure that reads a captured slice; a loop by a count). -/
set_option linter.unusedSimpArgs false
namespace Go.Proofs.Ytnmeomdjhjgnfaa.X
open Go.RowKit Go.Proofs.YtnmeomdjhjgnfaaW.PrintWords Go.Proofs.YtnmeomdjhjgnfaaW.PrintLast Go.Proofs.YtnmeomdjhjgnfaaW.PrintMore
set_option linter.unusedVariables false

theorem cell_new1 (W : World) (v : Value) (t : TypeId) : (W.alloc (.cells #[v] t)).cell? ⟨W.heap.size, 0, none⟩ = some v :=
  Go.Proofs.YtnmeomdjhjgnfaaW.PrintWords.blk_cell (heap_alloc_new W (.cells #[v] t)) 0

set_option maxHeartbeats 1000000 in
/-- The closure 'is': whether a number is one of the captured row's places. -/
theorem dom_is (g : Nat) (A0 : Option Addr) (c0 : Nat) (l0 : List Int) (x : Int) (w : World) (hc : w.cell? ⟨g, 0, none⟩ = some (.slice A0 l0.length c0)) :
    Calls Try.prog 74 #[.int .i64 x, .pointer (some ⟨g, 0, none⟩)] w fun e w' => e = .returned (.bool (isB l0 x)) ∧ w = w' := by
  by_cases h0 : 0 ≤ x
  · by_cases h1 : x < l0.length
    · have e1 : isB l0 x = true := by simp [isB, h0, h1]
      rw [e1]
      go_enter Try.func74, Try.ntmps74
      go_wp2
      go_ret
      exact ⟨rfl, rfl⟩
    · have e1 : isB l0 x = false := by simp [isB, h1]
      rw [e1]
      have h2 : decide (x < (l0.length : Int)) = false := by simpa using h1
      go_enter Try.func74, Try.ntmps74
      go_wp2
      go_ret
      exact ⟨by first | rfl | simp_all, rfl⟩
  · have e1 : isB l0 x = false := by simp [isB, h0]
    rw [e1]
    have h2 : decide (0 ≤ x) = false := by simpa using h0
    go_enter Try.func74, Try.ntmps74
    go_wp2
    go_ret
    exact ⟨by first | rfl | simp_all, rfl⟩
theorem dom_yes (g : Nat) (A0 : Option Addr) (c0 : Nat) (l0 : List Int) (x : Int) (w : World) (hc : w.cell? ⟨g, 0, none⟩ = some (.slice A0 l0.length c0)) (hx : isB l0 x = true) :
    Calls Try.prog 74 #[.int .i64 x, .pointer (some ⟨g, 0, none⟩)] w fun e w' => e = .returned (.bool true) ∧ w = w' := hx ▸ dom_is g A0 c0 l0 x w hc
theorem dom_no (g : Nat) (A0 : Option Addr) (c0 : Nat) (l0 : List Int) (x : Int) (w : World) (hc : w.cell? ⟨g, 0, none⟩ = some (.slice A0 l0.length c0)) (hx : isB l0 x = false) :
    Calls Try.prog 74 #[.int .i64 x, .pointer (some ⟨g, 0, none⟩)] w fun e w' => e = .returned (.bool false) ∧ w = w' := hx ▸ dom_is g A0 c0 l0 x w hc

set_option maxHeartbeats 4000000 in
set_option maxRecDepth 100000 in
theorem graph_Dominates.calls (A0 : Option Addr) (c0 : Nat) (l0 : List Int) (a1 a2 : Int) (r : Bool) (w : World) (hr0 : Kd.C (Kd.int .i64) w A0 l0.length l0) (hc0 : l0.length ≤ c0) (h : graph_Dominates.f l0 a1 a2 = some r) :
    Calls Try.prog 32 #[.slice A0 l0.length c0, .int .i64 a1, .int .i64 a2] w fun e w' => e = .returned (.bool r) ∧ Below w.heap.size w w' := by
  have HR0 := Aside0.mk hr0
  clear hr0 hc0
  have hlen : l0.length ≤ 1000000 := by
    by_cases hl : l0.length ≤ 1000000
    · exact hl
    · simp [graph_Dominates.f, hl] at h
  have HF : Aside0 (domL l0 a1 a2 = r) := ⟨by simpa [graph_Dominates.f, hlen] using h⟩
  clear h
  have hcell : (w.alloc (.cells #[.slice A0 l0.length c0] 23)).cell? ⟨w.heap.size, 0, none⟩ = some (.slice A0 l0.length c0) := Go.Proofs.Ytnmeomdjhjgnfaa.X.cell_new1 w _ 23
  have HB : Aside0 (Below w.heap.size w (w.alloc (.cells #[.slice A0 l0.length c0] 23))) := ⟨(Below.refl _ w).alloc (Nat.le_refl _) _⟩
  cases e1 : isB l0 a1 with
  | false =>
    have E1 := Aside0.mk e1
    have HR : Aside0 (r = false) := ⟨by rw [← HF.out]; simp [domL, e1]⟩
    clear e1
    go_enter Try.func32, Try.ntmps32
    go_wp2_with (go_at_call 74; refine (dom_no _ A0 c0 l0 _ _ hcell E1.out).mono ?_; rintro e w' ⟨rfl, rfl⟩)
    go_ret
    exact ⟨by rw [HR.out]; rfl, HB.out⟩
  | true =>
    have E1 := Aside0.mk e1
    clear e1
    cases e2 : isB l0 a2 with
    | false =>
      have E2 := Aside0.mk e2
      have HR : Aside0 (r = false) := ⟨by rw [← HF.out]; simp [domL, e2]⟩
      clear e2
      go_enter Try.func32, Try.ntmps32
      go_wp2_with fail
      refine (dom_yes _ A0 c0 l0 _ _ hcell E1.out).mono ?_
      rintro e w' ⟨rfl, rfl⟩
      go_wp2_with fail
      refine (dom_no _ A0 c0 l0 _ _ hcell E2.out).mono ?_
      rintro e w' ⟨rfl, rfl⟩
      go_wp2_with fail
      go_ret
      exact ⟨by rw [HR.out]; rfl, HB.out⟩
    | true =>
      have E2 := Aside0.mk e2
      have HL : Aside0 (domLoop l0 a1 (l0.length + 1) a2 = r) := ⟨by rw [← HF.out]; simp [domL, E1.out, e2]⟩
      clear e2 HF
      go_enter Try.func32, Try.ntmps32
      go_wp2_with fail
      refine (dom_yes _ A0 c0 l0 _ _ hcell E1.out).mono ?_
      rintro e w' ⟨rfl, rfl⟩
      go_wp2_with fail
      refine (dom_yes _ A0 c0 l0 _ _ hcell E2.out).mono ?_
      rintro e w' ⟨rfl, rfl⟩
      go_wp2_with fail
      go_loopg [2, 22] (l0.length + 1) (fun kq v2 v22 w' => ∃ (b : Int) (i : Nat), v2 = .int .i64 b ∧ v22 = .int .i64 i ∧ Aside0 (domLoop l0 a1 kq b = r) ∧ Aside0 (kq + i = l0.length + 1) ∧ Aside0 (w' = w.alloc (.cells #[.slice A0 l0.length c0] 23)))
      case atStart => exact ⟨a2, 0, rfl, rfl, HL, ⟨rfl⟩, ⟨rfl⟩⟩
      case round =>
        obtain ⟨b, i, rfl, rfl, HA, HI, HW⟩ := hrel
        obtain rfl := HW.out
        clear HW HL E2
        cases gk with
        | zero =>
          have hi : i = l0.length + 1 := by have := HI.out; omega
          subst hi
          have HR : Aside0 (r = false) := ⟨by rw [← HA.out]; simp [domLoop]⟩
          go_wp2
          go_ret
          exact ⟨by rw [HR.out]; rfl, HB.out⟩
        | succ k1 =>
          have hi : i < l0.length + 1 := by have := HI.out; omega
          have H := HA.out
          clear HA
          rw [domLoop] at H
          by_cases hab : a1 = b
          · rw [if_pos hab] at H
            have HR : Aside0 (r = true) := ⟨H.symm⟩
            subst hab
            clear H
            go_wp2
            go_ret
            exact ⟨by rw [HR.out]; rfl, HB.out⟩
          · rw [if_neg hab] at H
            have hab2 : (a1 == b) = false := by simpa using hab
            clear hab
            cases e3 : isB l0 b with
            | false =>
              have E3 := Aside0.mk e3
              rw [e3] at H
              have HR : Aside0 (r = false) := ⟨by simpa using H.symm⟩
              clear H e3
              go_wp2_with (go_at_call 74; refine (dom_no _ A0 c0 l0 _ _ hcell E3.out).mono ?_; rintro e w' ⟨rfl, rfl⟩)
              go_ret
              exact ⟨by rw [HR.out]; rfl, HB.out⟩
            | true =>
              have E3 := Aside0.mk e3
              rw [e3] at H
              have HL : Aside0 (domLoop l0 a1 k1 (rd l0 b) = r) := ⟨by simpa using H⟩
              have hb : 0 ≤ b ∧ b < l0.length := by simpa [isB] using e3
              obtain ⟨hb0, hb1⟩ := hb
              clear H e3
              obtain ⟨ad, rfl, hcx⟩ := Kd.at_int HR0.out b hb0 hb1
              replace hcx := (HB.out.cell (World.block_lt_of_cell? w _ hcx)).trans hcx
              go_wp2_with (go_at_call 74; refine (dom_yes _ (some ad) c0 l0 _ _ hcell E3.out).mono ?_; rintro e w' ⟨rfl, rfl⟩)
              go_roundg k1
              case measure => omega
              case rel => exact ⟨_, i + 1, rfl, by go_num, HL, ⟨by have := HI.out; omega⟩, ⟨rfl⟩⟩
end Go.Proofs.Ytnmeomdjhjgnfaa.X
end
section
/-! What graph.Headers, Body and Reducible compute, over what graph.Idom and Order tell. -/
set_option linter.unusedSimpArgs false
set_option linter.unusedVariables false
namespace Go.Proofs.Ytnmeomdjhjgnfaa.X
open Go.RowKit Go.Proofs.YtnmeomdjhjgnfaaW.PrintWords Go.Proofs.YtnmeomdjhjgnfaaW.PrintLast Go.Proofs.YtnmeomdjhjgnfaaW.PrintMore

def headL (g : List (List Int)) (d : List Int) : List Int := keptL (((edgesL g).filter fun e => backL d e.1 e.2).map (·.2)) g.length
def graph_Headers.f (k : Nat) (l0 : List (List Int)) : Option (List Int) :=
  if okG l0 = true then (graph_Idom.f k l0).bind fun d => if d.length = l0.length ∧ (edgesL l0).length ≤ 100000000 then some (headL l0 d) else none else none
def redL (g : List (List Int)) (d o : List Int) : Bool :=
  (edgesL g).all fun e => !(decide (0 < numL o e.1) && (decide (numL o e.2 ≤ numL o e.1) && !backL d e.1 e.2))
def graph_Reducible.f (k : Nat) (l0 : List (List Int)) : Option Bool :=
  if okG l0 = true then (graph_Idom.f k l0).bind fun d => (graph_Order.f k l0).bind fun o => if d.length = l0.length ∧ o.length ≤ 1000000 ∧ (∀ b ∈ o, 0 ≤ b ∧ b < l0.length) then some (redL l0 d o) else none else none
def openL (g : List (List Int)) (d : List Int) (h : Int) : List Int := ((edgesL g).filter fun e => e.2 == h && backL d e.1 e.2).map (·.1)
def graph_Body.f (k : Nat) (l0 : List (List Int)) (a1 : Int) : Option (List Int) :=
  if okG l0 = true then (graph_Idom.f k l0).bind fun d => (graph_Order.f k l0).bind fun o => if d.length = l0.length ∧ (edgesL l0).length ≤ 100000000 ∧ o.length ≤ 1000000 ∧ (∀ b ∈ o, 0 ≤ b ∧ b < l0.length) ∧ -1 ≤ a1 ∧ a1 ≤ l0.length then
    (if openL l0 d a1 = [] then some [] else (bodyLoop (predsL l0) k (openL l0 d a1) [a1]).map fun s => isort (o.filter fun b => s.contains b)) else none else none
theorem graph_Headers.mono (k : Nat) (l0 : List (List Int)) : LeO (graph_Headers.f k l0) (graph_Headers.f (k + 1) l0) := by
  unfold graph_Headers.f
  exact LeO.ite (LeO.bind (graph_Idom.mono _ _) (fun _ => LeO.refl _)) (LeO.refl _)
theorem graph_Reducible.mono (k : Nat) (l0 : List (List Int)) : LeO (graph_Reducible.f k l0) (graph_Reducible.f (k + 1) l0) := by
  unfold graph_Reducible.f
  exact LeO.ite (LeO.bind (graph_Idom.mono _ _) (fun _ => LeO.bind (graph_Order.mono _ _) (fun _ => LeO.refl _))) (LeO.refl _)
theorem graph_Body.mono (k : Nat) (l0 : List (List Int)) (a1 : Int) : LeO (graph_Body.f k l0 a1) (graph_Body.f (k + 1) l0 a1) := by
  unfold graph_Body.f
  exact LeO.ite (LeO.bind (graph_Idom.mono _ _) (fun _ => LeO.bind (graph_Order.mono _ _) (fun _ => LeO.ite (LeO.ite (LeO.refl _) (LeO.map _ (bodyLoop_mono _ _ _ _))) (LeO.refl _)))) (LeO.refl _)
end Go.Proofs.Ytnmeomdjhjgnfaa.X
end
section
/-! graph.back and the function that it hands back, by hand. -/
set_option linter.unusedSimpArgs false
namespace Go.Proofs.Ytnmeomdjhjgnfaa.X
open Go.RowKit Go.Shelf Go.Proofs.YtnmeomdjhjgnfaaW.PrintWords Go.Proofs.YtnmeomdjhjgnfaaW.PrintLast Go.Proofs.YtnmeomdjhjgnfaaW.PrintMore
set_option linter.unusedVariables false

set_option maxHeartbeats 2000000 in
set_option maxRecDepth 100000 in
theorem back1_calls (bk : Nat) (Ad : Option Addr) (cd : Nat) (d : List Int) (a b : Int) (w : World) (hbx : w.cell? ⟨bk, 0, none⟩ = some (.slice Ad d.length cd)) (hR : Kd.C (Kd.int .i64) w Ad d.length d) (hc : d.length ≤ cd) (hlen : d.length ≤ 1000000) (ha0 : 0 ≤ a) (ha1 : a < d.length) :
    Calls Try.prog 103 #[.int .i64 a, .int .i64 b, .pointer (some ⟨bk, 0, none⟩)] w fun e w' => e = .returned (.bool (backL d a b)) ∧ Below w.heap.size w w' := by
  obtain ⟨ad, rfl, hcx⟩ := Kd.at_int hR a ha0 ha1
  have HR := Aside0.mk hR
  have HC := Aside0.mk hc
  have HD : Aside0 (graph_Dominates.f d b a = some (domL d b a)) := ⟨by unfold graph_Dominates.f; rw [if_pos hlen]⟩
  clear hR hc hlen
  go_enter Try.func103, Try.ntmps103
  by_cases h0 : a = 0
  · subst h0
    go_wp2_with fail
    refine (graph_Dominates.calls (some ad) cd d b 0 (domL d b 0) w HR.out HC.out HD.out).mono ?_
    rintro e w' ⟨rfl, hB⟩
    cases hd : domL d b 0 with
    | true =>
      go_wp2
      go_ret
      exact ⟨by rw [show backL d 0 b = true from by simp [backL, hd]]; rfl, hB⟩
    | false =>
      go_wp2
      go_ret
      exact ⟨by rw [show backL d 0 b = false from by simp [backL, hd]]; rfl, hB⟩
  · have h0' : (a == 0) = false := by simpa using h0
    by_cases h1 : 0 ≤ rd d a
    · have h1' : decide (0 ≤ rd d a) = true := decide_eq_true h1
      go_wp2_with fail
      refine (graph_Dominates.calls (some ad) cd d b a (domL d b a) w HR.out HC.out HD.out).mono ?_
      rintro e w' ⟨rfl, hB⟩
      cases hd : domL d b a with
      | true =>
        go_wp2
        go_ret
        exact ⟨by rw [show backL d a b = true from by simp [backL, hd, h1]]; rfl, hB⟩
      | false =>
        go_wp2
        go_ret
        exact ⟨by rw [show backL d a b = false from by simp [backL, hd]]; rfl, hB⟩
    · have h1' : decide (0 ≤ rd d a) = false := decide_eq_false h1
      go_wp2
      go_ret
      exact ⟨by rw [show backL d a b = false from by simp [backL, h0', h1']]; rfl, Below.refl _ _⟩

set_option maxHeartbeats 2000000 in
set_option maxRecDepth 100000 in
theorem back_calls (k : Nat) (A0 : Option Addr) (c0 : Nat) (l0 : List (List Int)) (d : List Int) (w : World) (hr0 : Kd.C (Kd.slice 3 (Kd.int .i64)) w A0 l0.length l0) (hc0 : l0.length ≤ c0) (h : graph_Idom.f k l0 = some d) :
    Calls Try.prog 83 #[.slice A0 l0.length c0] w fun e w' => ∃ (bk : Nat) (Ad : Option Addr) (cd : Nat), e = .returned (.func (.func 103) #[] #[.pointer (some ⟨bk, 0, none⟩)]) ∧ w.heap.size ≤ bk ∧ w'.heap[bk]? = some (.cells #[.slice Ad d.length cd] 23 (0, 0)) ∧
      Kd.R (Kd.int .i64) 3 w' w.heap.size (fun k => k < bk) (.slice Ad d.length cd) d ∧ Below w.heap.size w w' := by
  have HR := Aside0.mk hr0
  have HC0 := Aside0.mk hc0
  have H := Aside0.mk h
  clear hr0 hc0 h
  go_enter Try.func83, Try.ntmps83
  go_wp2_with fail
  refine (graph_Idom.calls k A0 c0 l0 d w HR.out HC0.out H.out).mono ?_
  rintro e w4 ⟨v0, rfl, ho, hB⟩
  obtain ⟨Ad, cd, rfl⟩ := Kd.R_slice ho
  go_wp2
  go_ret
  refine ⟨w4.heap.size, Ad, cd, rfl, hB.size, World.alloc_heap_new _ _, Kd.R_alloc (Kd.R_mono (Kd.R_bound ho) (fun k hk => hk.2.2.1)) _, below_alloc hB _⟩
end Go.Proofs.Ytnmeomdjhjgnfaa.X
end
section
/-! graph.Headers, by hand. -/
set_option linter.unusedSimpArgs false
namespace Go.Proofs.Ytnmeomdjhjgnfaa.X
open Go.RowKit Go.Shelf Go.Proofs.YtnmeomdjhjgnfaaW.PrintWords Go.Proofs.YtnmeomdjhjgnfaaW.PrintLast Go.Proofs.YtnmeomdjhjgnfaaW.PrintMore
set_option linter.unusedVariables false
attribute [local go_sem] Oper.semAt_some

def hdL (d : List Int) (es : List (Int × Int)) : List Int := (es.filter fun e => backL d e.1 e.2).map (·.2)
theorem hdL_snoc (d : List Int) (es : List (Int × Int)) (a b : Int) : hdL d (es ++ [(a, b)]) = if backL d a b = true then hdL d es ++ [b] else hdL d es := by
  unfold hdL
  rw [List.filter_append, List.map_append]
  simp only [List.filter_cons, List.filter_nil]
  split <;> simp
theorem edgesFrom_in (n : Nat) : ∀ (rows : List (List Int)) (i : Nat), i + rows.length ≤ n → (∀ r ∈ rows, ∀ b ∈ r, 0 ≤ b ∧ b < n) → ∀ e ∈ edgesFrom i rows, (0 ≤ e.1 ∧ e.1 < n) ∧ 0 ≤ e.2 ∧ e.2 < n
  | [], _, _, _, e, he => by simp [edgesFrom] at he
  | r :: rows, i, hi, h, e, he => by
    simp only [edgesFrom, List.mem_append, List.mem_map] at he
    simp only [List.length_cons] at hi
    rcases he with ⟨b, hb, rfl⟩ | he
    · exact ⟨by constructor <;> simp <;> omega, h r List.mem_cons_self b hb⟩
    · exact edgesFrom_in n rows (i + 1) (by omega) (fun r hr => h r (List.mem_cons_of_mem _ hr)) e he
theorem edgesL_in (g : List (List Int)) (e : Int × Int) (he : e ∈ edgesL g) : (0 ≤ e.1 ∧ e.1 < g.length) ∧ 0 ≤ e.2 ∧ e.2 < g.length :=
  edgesFrom_in g.length (cleanL g) 0 (by rw [cleanL_length]; omega) (cleanL_in g) e he
/-- Sorting and making compact a row within bounds is what kept tells. -/
theorem kept_all (l : List Int) (n : Int) (h : ∀ x ∈ l, 0 ≤ x ∧ x < n) : Lib.compact (isort l) = keptL l n := by
  exact kept_of l l n (fun x => ⟨fun hx => ⟨hx, h x hx⟩, fun hx => hx.1⟩)
theorem hdL_length (d : List Int) (es : List (Int × Int)) : (hdL d es).length ≤ es.length := by
  unfold hdL; rw [List.length_map]; exact List.length_filter_le _ _
set_option maxHeartbeats 4000000 in
set_option maxRecDepth 100000 in
theorem graph_Headers.calls (k : Nat) (A0 : Option Addr) (c0 : Nat) (l0 : List (List Int)) (r : List Int) (w : World) (hr0 : Kd.C (Kd.slice 3 (Kd.int .i64)) w A0 l0.length l0) (hc0 : l0.length ≤ c0) (h : graph_Headers.f k l0 = some r) :
    Calls Try.prog 38 #[.slice A0 l0.length c0] w fun e w' => ∃ v0_ : Value, e = .returned (v0_) ∧ Kd.R (Kd.int .i64) 3 w' w.heap.size (fun _ => True) v0_ r ∧ Below w.heap.size w w' := by
  unfold graph_Headers.f at h
  split at h
  case isFalse => cases h
  rename_i hok
  obtain ⟨d, hd, h⟩ := Option.bind_eq_some_iff.1 h
  split at h
  case isFalse => cases h
  rename_i hdl
  obtain ⟨hdl, hel⟩ := hdl
  injection h with h
  have hlen := (okG_len hok).1
  have HR := Aside0.mk hr0
  have HC0 := Aside0.mk hc0
  have HOK := Aside0.mk hok
  have HE := Aside0.mk h
  have HD := Aside0.mk hd
  have HEL := Aside0.mk hel
  have HDL := Aside0.mk hdl
  clear hr0 hc0 hok h hd hel hdl
  refine (callsIn_wide (n := 6)).1 ?_
  refine callsIn_of_wp_marks Try.func38 rfl trivial ?_ rfl
  simp only [Try.ntmps38, List.size_toArray, List.length_cons, List.length_nil, Nat.reduceAdd, Nat.reduceSub, Array.replicate_succ, Array.replicate_zero, List.push_toArray, List.append_toArray, List.nil_append, List.cons_append]
  refine wpIn_seq (wpIn_wide.2 ?_)
  go_wp2
  refine wpIn_seq (wpIn_wide.2 ?_)
  go_wp2_with fail
  refine (back_calls k A0 c0 l0 d _ HR.out HC0.out HD.out).mono ?_
  rintro e W2 ⟨bk, Ad, cd, rfl, hbk, hbx, hRd, hB2⟩
  have HBX := Aside0.mk hbx
  have HRd := Aside0.mk hRd
  have HB2 := Aside0.mk hB2
  have hbk2 := blk_lt hbx
  clear hbx hRd hB2
  go_wp2
  refine wpIn_seq (wpIn_wide.2 ?_)
  go_wp2
  refine wpIn_seq (wpIn_seq ?_)
  gi_wp2
  refine ⟨trivial, ?_⟩
  refine (callsIn_wide.2 (edges_calls A0 l0.length c0 _)).mono ?_
  rintro e w' ⟨rfl, rfl⟩
  gi_wp2
  have c3 := cell_new_c' W2 (.func (.func 103) #[] #[.pointer (some ⟨bk, 0, none⟩)]) 53
  have c4 := World.alloc_heap_new (W2.alloc (.cells #[.func (.func 103) #[] #[.pointer (some ⟨bk, 0, none⟩)]] 53)) (.cells #[.slice none 0 0] 23)
  have c6 := cell_new_c' ((W2.alloc (.cells #[.func (.func 103) #[] #[.pointer (some ⟨bk, 0, none⟩)]] 53)).alloc (.cells #[.slice none 0 0] 23)) (.slice A0 l0.length c0) 22
  have hB5 : Below W2.heap.size W2 (((W2.alloc (.cells #[.func (.func 103) #[] #[.pointer (some ⟨bk, 0, none⟩)]] 53)).alloc (.cells #[.slice none 0 0] 23)).alloc (.cells #[.slice A0 l0.length c0] 22)) := below_alloc (below_alloc (below_alloc (Below.refl _ _) _) _) _
  simp only [World.size_alloc] at c4 c6
  obtain ⟨wL, hwL⟩ : ∃ wL, (((W2.alloc (.cells #[.func (.func 103) #[] #[.pointer (some ⟨bk, 0, none⟩)]] 53)).alloc (.cells #[.slice none 0 0] 23)).alloc (.cells #[.slice A0 l0.length c0] 22)) = wL := ⟨_, rfl⟩
  have hsz : wL.heap.size = W2.heap.size + 3 := by rw [← hwL]; simp
  have k5 : wL.heap[W2.heap.size + 1]? = some (.cells #[.slice none 0 0] 23 (0, 0)) := by
    rw [← hwL]
    exact (below_alloc (Below.refl _ _) _ : Below _ _ _).block _ (by simp) |>.trans c4
  have k3 : wL.cell? ⟨W2.heap.size, 0, none⟩ = some (.func (.func 103) #[] #[.pointer (some ⟨bk, 0, none⟩)]) := by rw [← hwL]; exact cell_alloc' _ (cell_alloc' _ c3.1)
  have K3 := Aside0.mk k3
  have HI0 := Aside0.mk (OutIn.start (d := Kd.int .i64) (e := 3) k5)
  have hMW := HI0.out.names
  have hMd : Told wL.heap.size (BxM (W2.heap.size + 1)) := BxM.told (by omega)
  rw [hwL] at c6 hB5 ⊢
  have HB5 := Aside0.mk hB5
  have HBL := Aside0.mk (HB2.out.trans (hB5.mono HB2.out.size))
  refine wpIn_rangeFunc_ownG rfl (by omega) (gf := 104) (lb := #[.pointer (some ⟨W2.heap.size + 1 + 1, 0, none⟩)]) rfl trivial (enters_of Try.func104 (by kernel_rfl) rfl)
    (edges_stops 5 (by omega) (W2.heap.size + 1 + 1) A0 c0 l0 HOK.out (BxM (W2.heap.size + 1)) wL hMd hMW (Kd.C_below HR.out HBL.out) HC0.out c6.1) EdKp.trans (EdKp.put hMd) (Below.refl _ _) (fun _ => rfl)
    (fun pre W => OutIn wL (W2.heap.size + 1) (Kd.int .i64) 3 23 (hdL d (pre.map Subtype.val)) W)
    (fun _ _ _ => False)
    (fun s A B row hs hg hr => hs.kept hg hr (by omega))
    (fun _ _ _ _ _ hs _ _ => hs)
    HI0.out
    (fun x => { tmps := #[Value.slice A0 l0.length c0, undef, Value.slice none 0 0,
          Value.pointer (some { block := W2.heap.size, off := 0 }),
          Value.pointer (some { block := W2.heap.size + 1, off := 0 }), .int .i64 x.1.1, .int .i64 x.1.2, Value.slice A0 l0.length c0,
          Value.func (Fn.func 103) #[] #[Value.pointer (some { block := bk, off := 0 })], Value.slice A0 l0.length c0,
          Value.func (Fn.func 104) #[] #[Value.pointer (some { block := W2.heap.size + 1 + 1, off := 0 })], .int .i64 x.1.1, .int .i64 x.1.2,
          undef, undef, undef, undef, undef, undef, undef, undef, undef, undef, undef, undef], defers := [] }) ?assign ?body ?done ?stop
  case assign =>
    intro l x W K hK
    simp only [edEnc]
    gi_wp2
    exact hK
  case body =>
    rintro l pre ⟨⟨a, b⟩, ha0, ha1, hb0, hb1⟩ W hI hlt
    have HSZ := Aside0.mk hsz
    clear hMd hMW hB5 c3 c4 c6 HI0 hwL k5 k3 hsz
    simp only at ha0 ha1 hb0 hb1
    obtain ⟨out, hout⟩ : ∃ out, hdL d (pre.map Subtype.val) = out := ⟨_, rfl⟩
    rw [hout] at hI
    have HOL : Aside0 (out.length ≤ 1000000000000) := ⟨by
      have h1 := hdL_length d (pre.map Subtype.val)
      rw [hout, List.length_map] at h1
      have h2 := HEL.out
      omega⟩
    have hsnoc : hdL d ((pre ++ [(⟨(a, b), by omega⟩ : Ed l0.length)]).map Subtype.val) = if backL d a b = true then out ++ [b] else out := by
      rw [List.map_append, ← hout]
      exact hdL_snoc _ _ _ _
    have HSN := Aside0.mk hsnoc
    have HIN := Aside0.mk hI
    clear hsnoc hout
    have hf := hI.far
    have hBW : Below W2.heap.size W2 W := HB5.out.trans (hI.stay.mono (by have := HSZ.out; omega))
    have hc3 : W.cell? ⟨W2.heap.size, 0, none⟩ = some (.func (.func 103) #[] #[.pointer (some ⟨bk, 0, none⟩)]) := (hI.stay.cell (p := ⟨W2.heap.size, 0, none⟩) (by simp)).trans K3.out
    have hcon := back1_calls bk Ad cd d a b W ((hBW.cell (p := ⟨bk, 0, none⟩) hbk2).trans (cell_of_box' HBX.out).1) (Kd.C_below (Kd.R_reads' HRd.out).2.2 hBW) (Kd.R_reads' HRd.out).2.1 (by have := HDL.out; omega) ha0 (by have := HDL.out; omega)
    have HCON := Aside0.mk hcon
    clear hcon hI hBW
    cases hback : backL d a b with
    | false =>
      have HSN2 := HSN.out
      rw [hback] at HSN2 HCON
      have HSN3 := Aside0.mk HSN2
      clear HSN2
      gi_wp2
      refine ⟨trivial, ?_⟩
      refine (CallsIn.inRound l (callsIn_wide.2 HCON.out)).mono ?_
      rintro e W' ⟨rfl, hB⟩
      gi_wp2
      have hr := HIN.out.call hB (by have := HSZ.out; omega)
      refine ⟨hr.1, hr.2.1, ?_⟩
      show OutIn _ _ _ _ _ (hdL d _) _
      rw [HSN3.out]
      exact hr.2.2
    | true =>
      have HSN2 := HSN.out
      rw [hback] at HSN2 HCON
      have HSN3 := Aside0.mk HSN2
      clear HSN2
      refine wpIn_block ?_
      refine wpIn_seq ?_
      refine wpIn_mono (Q := Exit.then (fun a' w' => Below W.heap.size W w' ∧ a' = { tmps := #[Value.slice A0 l0.length c0, undef, Value.slice none 0 0,
          Value.pointer (some { block := W2.heap.size, off := 0 }),
          Value.pointer (some { block := W2.heap.size + 1, off := 0 }), .int .i64 a, .int .i64 b, Value.slice A0 l0.length c0,
          Value.func (Fn.func 103) #[] #[Value.pointer (some { block := bk, off := 0 })], Value.slice A0 l0.length c0,
          Value.func (Fn.func 104) #[] #[Value.pointer (some { block := W2.heap.size + 1 + 1, off := 0 })], .int .i64 a, .int .i64 b,
          Value.func (Fn.func 103) #[] #[Value.pointer (some { block := bk, off := 0 })], .int .i64 a, .int .i64 b, .bool true, undef, undef, undef, undef, undef, undef, undef, undef], defers := [] }) (fun _ _ _ => False)) ?first ?rest
      case first =>
        gi_wp2
        refine ⟨trivial, ?_⟩
        refine (CallsIn.inRound l (callsIn_wide.2 HCON.out)).mono ?_
        rintro e W' ⟨rfl, hB⟩
        gi_wp2
        exact ⟨hB, trivial⟩
      case rest =>
        intro e a' W' h'
        cases e <;> first | exact h'.elim | skip
        obtain ⟨hB, rfl⟩ := h'
        obtain ⟨hk1, hk2, hI2⟩ := HIN.out.call hB (by have := HSZ.out; omega)
        obtain ⟨v, h5, hRv⟩ := hI2.box
        obtain ⟨hc5, hf5⟩ := cell_of_box' h5
        obtain ⟨Av, cv, rfl⟩ := Kd.R_slice hRv
        have HRv := Aside0.mk hRv
        have H5 := Aside0.mk h5
        have HK := Aside0.mk (And.intro hk1 hk2)
        have HI2 := Aside0.mk hI2
        have hf2 := hI2.far
        clear hRv h5 hk1 hk2 hI2
        refine wpIn_cond_true rfl ?_
        refine wpIn_list_plain (by kernel_rfl) (fun ⟨_, _, h'⟩ => h') ?_
        go_wp2_with (first | ((with_reducible refine gate_builtin (b := .append) (xs := #[.tmp 17, .tmp 19]) rfl ?_); at_builtin; refine Kd.R_append (Kd.int .i64) (w0 := W') (W := W') wL.heap.size rfl (.tmp 17) (.tmp 19) 23 3 (.int .i64 0) 8 rfl Try.underlying23 info3 rfl (by decide) (by omega) (.slice Av out.length cv) out b [.int .i64 b] (fun _ => True) (fun _ => False) rfl rfl ?aP (fun _ hk => hk.elim) ?aF ?aO ?aB ?aS ?aL ?_; (case aP => rfl); (case aF => exact fun _ _ => trivial); (case aO => exact HRv.out); (case aB => exact Below.refl _ _); (case aS => exact hf2); (case aL => have := HOL.out; omega); intro v20 W7 ho hb hg hat; obtain ⟨A20, n20, c20, rfl⟩ : ∃ A n c, v20 = .slice A n c := ⟨_, _, _, (Kd.R_slice ho).choose_spec.choose_spec⟩; obtain ⟨hc57, hf57⟩ := cell_of_box' ((hg.block (W2.heap.size + 1) (blk_lt H5.out) (fun h => by have := Kd.R_base HRv.out _ h.symm; have := HSZ.out; omega)).trans H5.out)) | fail)
        obtain ⟨hr1, hr2, hr3⟩ := HI2.out.append (by have := HSZ.out; omega) H5.out HRv.out ho hg hat
        refine ⟨HK.out.1.trans hr1, HK.out.2.trans hr2, ?_⟩
        show OutIn _ _ _ _ _ (hdL d _) _
        rw [HSN3.out]
        exact hr3
  case done =>
    rintro D ys W hD hys hI hK
    obtain ⟨out, hout⟩ : ∃ out, hdL d (ys.map Subtype.val) = out := ⟨_, rfl⟩
    have HOL : Aside0 (out.length ≤ 100000000) := ⟨by
      have h1 := hdL_length d (ys.map Subtype.val)
      rw [hout, hys] at h1
      have h2 := HEL.out
      omega⟩
    have HFR : Aside0 (Lib.compact (isort out) = r) := ⟨by
      rw [hys] at hout
      rw [← hout, ← HE.out]
      exact kept_all _ _ (fun x hx => by
        obtain ⟨e, he, rfl⟩ := List.mem_map.1 hx
        exact (edgesL_in l0 e (List.mem_filter.1 he).1).2)⟩
    rw [hout] at hI
    have hbW : Below w.heap.size w W := HBL.out.trans (hI.stay.mono (by have := HB2.out.size; omega))
    obtain ⟨v, h5, hRv⟩ := hI.box
    obtain ⟨hc5, hf5⟩ := cell_of_box' h5
    have HRv := Aside0.mk hRv
    have HBW := Aside0.mk hbW
    have hf := hI.far
    obtain ⟨Av, cv, rfl⟩ := Kd.R_slice hRv
    have HI := Aside0.mk hI
    have H5 := Aside0.mk h5
    clear hRv hbW hI h5 hout
    refine wpIn_seq (wpIn_wide.2 ?_)
    go_wp2_with fail
    refine (sort_R HRv.out HOL.out).mono ?_
    rintro e W1 ⟨rfl, hs1, hg1⟩
    have h51 := (hg1.block (W2.heap.size + 1) (blk_lt H5.out) (fun h => by have := Kd.R_base HRv.out _ h.symm; omega)).trans H5.out
    obtain ⟨hc51, hf51⟩ := cell_of_box' h51
    have HB1 := Aside0.mk (HBW.out.grown hg1 HBW.out.size (fun k hk => by have := Kd.R_base HRv.out k hk; have := HB2.out.size; omega))
    have HS1 := Aside0.mk hs1
    have HK1 : Aside0 (W1.heap[D]? = some (.deferred (some []))) := ⟨(hg1.block D (Array.getElem?_eq_some_iff.1 hK).1 (fun h => by
      obtain ⟨c, hc⟩ := Kd.R_typed HRv.out D h.symm
      rw [hc] at hK; cases hK)).trans hK⟩
    clear hs1 hg1 h51
    go_wp2
    refine wpIn_seq (wpIn_wide.2 ?_)
    go_wp2_with fail
    refine (compact_R HS1.out (by rw [isort_length]; exact HOL.out)).mono ?_
    rintro e W3 ⟨v', rfl, hs2, hg2⟩
    have HB3 := Aside0.mk (HB1.out.grown hg2 HB1.out.size (fun k hk => by have := Kd.R_base HS1.out k hk; have := HB2.out.size; omega))
    have HS3 := Aside0.mk hs2
    have HK3 : Aside0 (W3.heap[D]? = some (.deferred (some []))) := ⟨(hg2.block D (Array.getElem?_eq_some_iff.1 HK1.out).1 (fun h => by
      obtain ⟨c, hc⟩ := Kd.R_typed HS1.out D h.symm
      have := HK1.out
      rw [hc] at this; cases this)).trans HK1.out⟩
    clear hs2 hg2
    go_wp2
    gi_wp2
    refine ⟨by simp, .inl ⟨_, _, rfl, run_takeDeferred HK3.out, ?_⟩⟩
    refine ⟨_, results_tmp rfl _ _ _, _, rfl, ?_, ?_⟩
    · have h2 := HS3.out
      rw [HFR.out] at h2
      exact Kd.R_mono (Kd.R_lower (R_nocells h2 (grownBy_putObj' _ D _) (fun r e => by cases e; exact ⟨_, HK3.out, rfl⟩)) HBL.out.size) (fun _ _ => trivial)
    · exact HB3.out.grown (grownBy_putObj' _ D _) HB3.out.size (fun k e => by cases e; have := HBL.out.size; omega)
  case stop =>
    rintro D c pre W _ _ h _
    exact h.elim
end Go.Proofs.Ytnmeomdjhjgnfaa.X
end
section
/-! graph.Reducible, by hand. -/
set_option linter.unusedSimpArgs false
/-! A map of the call's own from whole numbers, read as a plain function. -/
namespace Go.Proofs.Ytnmeomdjhjgnfaa.X
open Go.RowKit Go.Maps Go.Proofs.YtnmeomdjhjgnfaaW.PrintWords Go.Proofs.YtnmeomdjhjgnfaaW.PrintLast Go.Proofs.YtnmeomdjhjgnfaaW.PrintMore
set_option linter.unusedVariables false
set_option maxRecDepth 100000

theorem u117 : Try.prog.underlying 117 = some (.map 3 3) := by kernel_rfl
theorem u55 : Try.prog.underlying 55 = some (.map 3 4) := by kernel_rfl
theorem key3 : Keyed Try.prog 3 := int_keyed Try.underlying3
theorem zero3' (w : World) : (zeroValue 3).run Try.prog w = .ok (.int .i64 0) w := by kernel_rfl
theorem zero4' (w : World) : (zeroValue 4).run Try.prog w = .ok (.bool false) w := by kernel_rfl
def wf64 (x : Int) : Prop := (Lit.int .i64 x).wf = true
theorem wf64_of {x : Int} (h0 : -9223372036854775808 ≤ x) (h1 : x ≤ 9223372036854775807) : wf64 x := by
  have e1 : IntKind.i64.min = -9223372036854775808 := by decide
  have e2 : IntKind.i64.max = 9223372036854775807 := by decide
  simp [wf64, Lit.wf, e1, e2]; omega

structure MI (w : World) (b n : Nat) (f : Int → Int) : Prop where
  own : ∃ D : DataW Unit, w.ownsMap Try.prog 3 (plainElem Try.prog 3) b n D ∧ ∀ x, wf64 x → D.atKey (.int .i64 x) (.lit (.int .i64 0)) = .lit (.int .i64 (f x))
theorem MI.made (w : World) : MI (w.alloc (.map #[] 0)) w.heap.size 0 (fun _ => 0) := ⟨_, World.ownsMap_made _ _ _ _, fun _ _ => rfl⟩
theorem MI.kept {w w' : World} {b n : Nat} {f : Int → Int} {row : Option Nat} (h : MI w b n f) (hg : w.grownBy w' row) (hne : some b ≠ row) : MI w' b n f := by
  obtain ⟨D, hD, hf⟩ := h.own
  exact ⟨D, hD.kept hg hne, hf⟩
theorem MI.below {w w' : World} {b n : Nat} {f : Int → Int} (h : MI w b n f) (hb : Below w.heap.size w w') : MI w' b n f := by
  obtain ⟨D, ⟨es, clock, hb', F, hs, hD⟩, hf⟩ := h.own
  exact ⟨D, ⟨es, clock, (hb.block b (Array.getElem?_eq_some_iff.1 hb').1).trans hb', F, hs, hD⟩, hf⟩
theorem MI.isMap {w : World} {b n : Nat} {f : Int → Int} (h : MI w b n f) : ∃ es clock, w.heap[b]? = some (.map es clock) := by
  obtain ⟨D, ⟨es, clock, hb', _⟩, _⟩ := h.own
  exact ⟨es, clock, hb'⟩
theorem MI.look {w : World} {b n : Nat} {f : Int → Int} (h : MI w b n f) {x : Int} (hx : wf64 x) : (Instr.lookup 117 (.map (some b)) (.int .i64 x) false).run Try.prog w = .ok (.int .i64 (f x)) w := by
  obtain ⟨D, hD, hf⟩ := h.own
  obtain ⟨c, hrun, hat, _⟩ := hD.lookup_int key3 u117 Try.underlying3 (zero3' w) (keyOf_int_mk Try.underlying3 hx)
  rw [hf x hx] at hat
  injection hat with hat
  injection hat with _ hat
  rw [hat]
  exact hrun
theorem MI.put {w : World} {b n : Nat} {f : Int → Int} (h : MI w b n f) {x v : Int} (hx : wf64 x) (hv : wf64 v) (hn : n < maxLen) :
    ∃ w', (Instr.mapUpdate 117 (.map (some b)) (.int .i64 x) (.int .i64 v)).run Try.prog w = .ok () w' ∧ MI w' b (n + 1) (fun y => if y = x then v else f y) ∧ w.grownBy w' (some b) := by
  obtain ⟨D, hD, hf⟩ := h.own
  obtain ⟨w', hrun, h1, h2⟩ := hD.update key3 u117 hn (keyOf_int_mk Try.underlying3 hx) (plainElem_int Try.underlying3 hv)
  refine ⟨w', hrun, ⟨_, h1, fun y hy => ?_⟩, h2⟩
  split
  · rename_i e
    subst e
    obtain ⟨es, clock, _, _, _, rfl⟩ := hD
    exact atKey_put_same ⟨_, rfl⟩ (key3.key (keyOf_int_mk Try.underlying3 hy)) _ _
  · rename_i e
    rw [atKey_put_other (by intro he; injection he with _ he; exact e he)]
    exact hf y hy

structure MB (w : World) (b n : Nat) (f : Int → Bool) : Prop where
  own : ∃ D : DataW Unit, w.ownsMap Try.prog 3 (plainElem Try.prog 4) b n D ∧ ∀ x, wf64 x → D.atKey (.int .i64 x) (.lit (.bool false)) = .lit (.bool (f x))
theorem MB.made (w : World) : MB (w.alloc (.map #[] 0)) w.heap.size 0 (fun _ => false) := ⟨_, World.ownsMap_made _ _ _ _, fun _ _ => rfl⟩
theorem MB.kept {w w' : World} {b n : Nat} {f : Int → Bool} {row : Option Nat} (h : MB w b n f) (hg : w.grownBy w' row) (hne : some b ≠ row) : MB w' b n f := by
  obtain ⟨D, hD, hf⟩ := h.own
  exact ⟨D, hD.kept hg hne, hf⟩
theorem MB.below {w w' : World} {b n : Nat} {f : Int → Bool} (h : MB w b n f) (hb : Below w.heap.size w w') : MB w' b n f := by
  obtain ⟨D, ⟨es, clock, hb', F, hs, hD⟩, hf⟩ := h.own
  exact ⟨D, ⟨es, clock, (hb.block b (Array.getElem?_eq_some_iff.1 hb').1).trans hb', F, hs, hD⟩, hf⟩
theorem MB.isMap {w : World} {b n : Nat} {f : Int → Bool} (h : MB w b n f) : ∃ es clock, w.heap[b]? = some (.map es clock) := by
  obtain ⟨D, ⟨es, clock, hb', _⟩, _⟩ := h.own
  exact ⟨es, clock, hb'⟩
theorem MB.look {w : World} {b n : Nat} {f : Int → Bool} (h : MB w b n f) {x : Int} (hx : wf64 x) : (Instr.lookup 55 (.map (some b)) (.int .i64 x) false).run Try.prog w = .ok (.bool (f x)) w := by
  obtain ⟨D, hD, hf⟩ := h.own
  obtain ⟨v, ps, hrun, hv⟩ := hD.lookup key3 u55 (zero4' w) (plainElem_bool Try.underlying4 false) (keyOf_int_mk Try.underlying3 hx)
  rw [hf x hx] at hv
  have : v = .bool (f x) := by
    unfold plainElem at hv
    simp only [Try.underlying4] at hv
    cases v <;> simp_all
  rw [← this]
  exact hrun
theorem MB.put {w : World} {b n : Nat} {f : Int → Bool} (h : MB w b n f) {x : Int} (v : Bool) (hx : wf64 x) (hn : n < maxLen) :
    ∃ w', (Instr.mapUpdate 55 (.map (some b)) (.int .i64 x) (.bool v)).run Try.prog w = .ok () w' ∧ MB w' b (n + 1) (fun y => if y = x then v else f y) ∧ w.grownBy w' (some b) := by
  obtain ⟨D, hD, hf⟩ := h.own
  obtain ⟨w', hrun, h1, h2⟩ := hD.update key3 u55 hn (keyOf_int_mk Try.underlying3 hx) (plainElem_bool Try.underlying4 v)
  refine ⟨w', hrun, ⟨_, h1, fun y hy => ?_⟩, h2⟩
  split
  · rename_i e
    subst e
    obtain ⟨es, clock, _, _, _, rfl⟩ := hD
    exact atKey_put_same ⟨_, rfl⟩ (key3.key (keyOf_int_mk Try.underlying3 hy)) _ _
  · rename_i e
    rw [atKey_put_other (by intro he; injection he with _ he; exact e he)]
    exact hf y hy
end Go.Proofs.Ytnmeomdjhjgnfaa.X
namespace Go.Proofs.Ytnmeomdjhjgnfaa.X
open Go.RowKit Go.Shelf Go.Proofs.YtnmeomdjhjgnfaaW.PrintWords Go.Proofs.YtnmeomdjhjgnfaaW.PrintLast Go.Proofs.YtnmeomdjhjgnfaaW.PrintMore
set_option linter.unusedVariables false
attribute [local go_sem] Oper.semAt_some

theorem numL_snoc (o : List Int) (b x : Int) : numL (o ++ [b]) x = if x = b then (o.length : Int) + 1 else numL o x := by
  unfold numL
  rw [List.reverse_append]
  simp only [List.reverse_cons, List.reverse_nil, List.nil_append, List.cons_append, numR, List.length_reverse]
  by_cases h : b = x
  · subst h; simp
  · rw [if_neg h, if_neg (fun e => h e.symm)]
theorem results_cell_bool {fn : Func} {p : Tmp} (h : fn.results = #[.cell p 4]) (tmps : Array Value) (w : World) (a : Addr) (b : Bool) (hp : tmps.getD p undef = .pointer (some a)) (hc : w.cell? a = some (.bool b)) :
    (results fn tmps).run Try.prog w = .ok (.bool b) w := by
  have hp' : tmps[p]?.getD undef = .pointer (some a) := by simpa using hp
  simp only [results, h]
  go_simp
def badE (d o : List Int) (e : Int × Int) : Bool := decide (0 < numL o e.1) && (decide (numL o e.2 ≤ numL o e.1) && !backL d e.1 e.2)
set_option maxHeartbeats 4000000 in
set_option maxRecDepth 100000 in
theorem graph_Reducible.calls (k : Nat) (A0 : Option Addr) (c0 : Nat) (l0 : List (List Int)) (r : Bool) (w : World) (hr0 : Kd.C (Kd.slice 3 (Kd.int .i64)) w A0 l0.length l0) (hc0 : l0.length ≤ c0) (h : graph_Reducible.f k l0 = some r) :
    Calls Try.prog 49 #[.slice A0 l0.length c0] w fun e w' => e = .returned (.bool r) ∧ Below w.heap.size w w' := by
  unfold graph_Reducible.f at h
  split at h
  case isFalse => cases h
  rename_i hok
  obtain ⟨d, hd, h⟩ := Option.bind_eq_some_iff.1 h
  obtain ⟨o, ho, h⟩ := Option.bind_eq_some_iff.1 h
  split at h
  case isFalse => cases h
  rename_i hdl
  obtain ⟨hdl, hol, hob⟩ := hdl
  injection h with h
  have hlen := (okG_len hok).1
  have HR := Aside0.mk hr0
  have HC0 := Aside0.mk hc0
  have HOK := Aside0.mk hok
  have HE := Aside0.mk h
  have HD := Aside0.mk hd
  have HO := Aside0.mk ho
  have HDL := Aside0.mk hdl
  have HOL := Aside0.mk hol
  have HOB := Aside0.mk hob
  clear hr0 hc0 hok h hd ho hdl hol hob
  have hmm := @run_makeMap Try.prog
  refine (callsIn_wide (n := 6)).1 ?_
  refine callsIn_of_wp_marks Try.func49 rfl trivial ?_ rfl
  simp only [Try.ntmps49, List.size_toArray, List.length_cons, List.length_nil, Nat.reduceAdd, Nat.reduceSub, Array.replicate_succ, Array.replicate_zero, List.push_toArray, List.append_toArray, List.nil_append, List.cons_append]
  refine wpIn_seq (wpIn_wide.2 ?_)
  go_wp2
  have hb0 : Below w.heap.size w (w.alloc (.cells #[.bool false] 4)) := below_alloc (Below.refl _ _) _
  have hcr := World.alloc_heap_new w (.cells #[.bool false] 4)
  obtain ⟨W1, hW1⟩ : ∃ W1, w.alloc (.cells #[.bool false] 4) = W1 := ⟨_, rfl⟩
  have hs1 : W1.heap.size = w.heap.size + 1 := by rw [← hW1]; simp
  rw [hW1] at hb0 hcr ⊢
  have HCR := Aside0.mk hcr
  have HB1 := Aside0.mk hb0
  have HS1 := Aside0.mk hs1
  clear hb0 hcr hs1 hW1
  refine wpIn_seq (wpIn_wide.2 ?_)
  go_wp2_with fail
  refine (back_calls k A0 c0 l0 d _ (Kd.C_below HR.out HB1.out) HC0.out HD.out).mono ?_
  rintro e W2 ⟨bk, Ad, cd, rfl, hbk, hbx, hRd, hB2⟩
  have HBX := Aside0.mk hbx
  have HRd := Aside0.mk hRd
  have HB2 := Aside0.mk hB2
  have hbk2 := blk_lt hbx
  clear hbx hRd hB2
  go_wp2
  refine wpIn_seq (wpIn_wide.2 ?_)
  go_wp2
  refine wpIn_seq (wpIn_wide.2 ?_)
  have hB3 : Below W2.heap.size W2 (((W2.alloc (.cells #[.func (.func 103) #[] #[.pointer (some ⟨bk, 0, none⟩)]] 53)).alloc (.map #[] 0)).alloc (.cells #[.map (some (W2.heap.size + 1))] 117)) := below_alloc (below_alloc (below_alloc (Below.refl _ _) _) _) _
  have c3 := cell_alloc' (.cells #[.map (some (W2.heap.size + 1))] 117) (cell_alloc' (.map #[] 0) (cell_new_c' W2 (.func (.func 103) #[] #[.pointer (some ⟨bk, 0, none⟩)]) 53).1)
  have c4 := (cell_new_c' ((W2.alloc (.cells #[.func (.func 103) #[] #[.pointer (some ⟨bk, 0, none⟩)]] 53)).alloc (.map #[] 0)) (.map (some (W2.heap.size + 1))) 117).1
  have hM3 := (MI.made (W2.alloc (.cells #[.func (.func 103) #[] #[.pointer (some ⟨bk, 0, none⟩)]] 53))).below (below_alloc (Below.refl _ _) (.cells #[.map (some (W2.heap.size + 1))] 117))
  have hs3 : ((((W2.alloc (.cells #[.func (.func 103) #[] #[.pointer (some ⟨bk, 0, none⟩)]] 53)).alloc (.map #[] 0)).alloc (.cells #[.map (some (W2.heap.size + 1))] 117))).heap.size = W2.heap.size + 3 := by simp
  simp only [World.size_alloc] at c4 hM3
  obtain ⟨W3, hW3⟩ : ∃ W3, (((W2.alloc (.cells #[.func (.func 103) #[] #[.pointer (some ⟨bk, 0, none⟩)]] 53)).alloc (.map #[] 0)).alloc (.cells #[.map (some (W2.heap.size + 1))] 117)) = W3 := ⟨_, rfl⟩
  rw [hW3] at hB3 c3 c4 hM3 hs3 ⊢
  have C3 := Aside0.mk c3
  have C4 := Aside0.mk c4
  have HM3 := Aside0.mk hM3
  have HB3 := Aside0.mk hB3
  have HS3 := Aside0.mk hs3
  clear hW3 c3 c4 hM3 hB3 hs3
  have HB03 := Aside0.mk (HB1.out.trans ((HB2.out.trans (HB3.out.mono HB2.out.size)).mono HB1.out.size))
  go_wp2_with fail
  refine (graph_Order.calls k A0 c0 l0 o _ (Kd.C_below HR.out HB03.out) HC0.out HO.out).mono ?_
  rintro e W4 ⟨v13, rfl, hRo, hB4⟩
  obtain ⟨Ao, co, rfl⟩ := Kd.R_slice hRo
  have HRo := Aside0.mk (Kd.R_reads' hRo).2.2
  have C34 := Aside0.mk ((hB4.cell (World.block_lt_of_cell? _ _ C3.out)).trans C3.out)
  have C44 := Aside0.mk ((hB4.cell (World.block_lt_of_cell? _ _ C4.out)).trans C4.out)
  have HM4 := Aside0.mk (HM3.out.below hB4)
  have HB4 := Aside0.mk hB4
  clear hRo hB4
  go_wp2
  go_loopg [15] o.length (fun kq v15 W' => ∃ i : Nat, v15 = .int .i64 i ∧ Aside0 (kq + i = o.length) ∧ Aside0 (MI W' (W2.heap.size + 1) i (numL (o.take i))) ∧ Aside0 (W4.grownBy W' (some (W2.heap.size + 1))))
  case atStart => exact ⟨0, rfl, ⟨rfl⟩, ⟨HM4.out⟩, ⟨⟨rfl, rfl, rfl, Nat.le_refl _, fun _ _ _ => rfl⟩⟩⟩
  case round =>
    obtain ⟨i, rfl, HI, HM, HG⟩ := hrel
    cases gk with
    | zero =>
      have hi : i = o.length := by have := HI.out; omega
      subst hi
      rw [List.take_length] at HM
      obtain ⟨es4, ck4, hmap4⟩ := HM4.out.isMap
      have hnc : ∀ r, some (W2.heap.size + 1) = some r → ∃ o : Obj, W4.heap[r]? = some o ∧ o.isCells = false := fun r e => by injection e with e; subst e; exact ⟨_, hmap4, rfl⟩
      have hs4 := HB4.out.size
      have hs3 := HS3.out
      have hs2 := HB2.out.size
      have hs1 := HS1.out
      have hK3 := cell_kept C34.out HG.out hnc
      have hK4 := cell_kept C44.out HG.out hnc
      have hB05 : Below w.heap.size w wr := (HB03.out.trans (HB4.out.mono (HB03.out.size))).grown HG.out (by omega) (fun k e => by injection e with e; omega)
      have hB15 : Below W1.heap.size W1 wr := ((HB2.out.trans (HB3.out.mono HB2.out.size)).trans (HB4.out.mono (by omega))).grown HG.out (by omega) (fun k e => by injection e with e; omega)
      have hB25 : Below (W2.heap.size) W2 wr := (HB3.out.trans (HB4.out.mono (by omega))).grown HG.out (by omega) (fun k e => by injection e with e; omega)
      have KR := Aside0.mk ((hB15.block _ (Array.getElem?_eq_some_iff.1 HCR.out).1).trans HCR.out)
      have KX := Aside0.mk ((hB25.block bk hbk2).trans HBX.out)
      have KD := Aside0.mk (Kd.C_below (Kd.R_reads' HRd.out).2.2 hB25)
      have KDc := Aside0.mk ((Kd.R_reads' HRd.out).2.1)
      have K3 := Aside0.mk hK3
      have K4 := Aside0.mk hK4
      have HB5 := Aside0.mk hB05
      have hws : w.heap.size < wr.heap.size := (Array.getElem?_eq_some_iff.1 KR.out).1
      clear hK3 hK4 hB05 hB15 hB25 hs4 hs3 hs2 hs1 hnc hmap4 HG HB4 HM4 C34 C44 HRo HB03 HB3 HM3 C3 C4 HCR HB2 HRd HBX HS3
      go_wp2
      refine wpIn_seq (wpIn_seq ?_)
      gi_wp2
      refine ⟨trivial, ?_⟩
      refine (callsIn_wide.2 (edges_calls A0 l0.length c0 _)).mono ?_
      rintro e w' ⟨rfl, rfl⟩
      gi_wp2
      have c6 := cell_new_c' wr (.slice A0 l0.length c0) 22
      have hB6 : Below wr.heap.size wr (wr.alloc (.cells #[.slice A0 l0.length c0] 22)) := below_alloc (Below.refl _ _) _
      have hs6 : (wr.alloc (.cells #[.slice A0 l0.length c0] 22)).heap.size = wr.heap.size + 1 := by simp
      obtain ⟨wL, hwL⟩ : ∃ wL, wr.alloc (.cells #[.slice A0 l0.length c0] 22) = wL := ⟨_, rfl⟩
      rw [hwL] at c6 hB6 hs6 ⊢
      have HB6 := Aside0.mk hB6
      have HS6 := Aside0.mk hs6
      clear hB6 hs6 hwL
      refine wpIn_rangeFunc_ownG rfl (by omega) (gf := 104) (lb := #[.pointer (some ⟨wr.heap.size, 0, none⟩)]) rfl trivial (enters_of Try.func104 (by kernel_rfl) rfl)
        (edges_stops 5 (by omega) wr.heap.size A0 c0 l0 HOK.out (fun _ _ => False) wL (fun _ _ _ _ h => h.elim) (fun _ h => h.elim) (Kd.C_below HR.out (HB5.out.trans (HB6.out.mono HB5.out.size))) HC0.out c6.1) EdKp.trans (EdKp.put (fun _ _ _ _ h => h.elim)) (Below.refl _ _) (fun _ => rfl)
        (fun pre W => Below wL.heap.size wL W ∧ ∀ e ∈ pre.map Subtype.val, badE d o e = false)
        (fun c pre W => (c = .ret ∧ ∃ e ∈ pre.map Subtype.val, badE d o e = true) ∧ (W.cell? ⟨w.heap.size, 0, none⟩ = some (.bool false) ∧ Below w.heap.size w W))
        (OwnFrom.and (ownFrom_below (Nat.le_refl _) (Nat.le_refl _)) (ownFrom_pure _ _))
        (fun c s A B row hs hg hr => ⟨hs.1, cell_kept hs.2.1 hg (fun r e => (hr r e).2), hs.2.2.grown hg hs.2.2.size (fun k e => by have := (hr k e).1; have := HS6.out; omega)⟩)
        ⟨Below.refl _ _, by simp⟩
        (fun x => { tmps := #[Value.slice A0 l0.length c0, undef, Value.pointer (some { block := w.heap.size, off := 0 }),
          Value.pointer (some { block := W2.heap.size, off := 0 }),
          Value.pointer (some { block := W2.heap.size + 1 + 1, off := 0 }), u5, u6, .int .i64 x.1.1, .int .i64 x.1.2,
          Value.slice A0 l0.length c0, Value.func (Fn.func 103) #[] #[Value.pointer (some { block := bk, off := 0 })],
          Value.map (some (W2.heap.size + 1)), Value.slice A0 l0.length c0, Value.slice Ao o.length co,
          Value.int IntKind.i64 ↑o.length, Value.int IntKind.i64 ↑o.length, Value.bool false, u17, u18, u19, u20, u21,
          u22, u23, u24, Value.slice A0 l0.length c0,
          Value.func (Fn.func 104) #[] #[Value.pointer (some { block := wr.heap.size, off := 0 })], .int .i64 x.1.1, .int .i64 x.1.2, undef, undef, undef, undef, undef, undef, undef, undef, undef, undef, undef, undef, undef, undef, undef, undef, undef, undef, undef, undef], defers := [] }) ?assign ?body ?done ?stop
      case assign =>
        intro l x W K hK
        simp only [edEnc]
        gi_wp2
        exact hK
      case body =>
        rintro l pre ⟨⟨a, b⟩, ha0, ha1, hb0, hb1⟩ W ⟨hB, hall⟩ hlt
        simp only at ha0 ha1 hb0 hb1
        have hbW1 : Below wr.heap.size wr W := HB6.out.trans (hB.mono HB6.out.size)
        have hc3 := (hbW1.cell (World.block_lt_of_cell? _ _ K3.out)).trans K3.out
        have hc4 := (hbW1.cell (World.block_lt_of_cell? _ _ K4.out)).trans K4.out
        have hMW := HM.out.below hbW1
        have hla := hMW.look (x := a) (wf64_of (by omega) (by omega))
        have hlb := hMW.look (x := b) (wf64_of (by omega) (by omega))
        have hhr := (hbW1.block _ hws).trans KR.out
        have hcon := back1_calls bk Ad cd d a b W ((hbW1.cell (p := ⟨bk, 0, none⟩) (Array.getElem?_eq_some_iff.1 KX.out).1).trans (cell_of_box' KX.out).1) (Kd.C_below KD.out hbW1) KDc.out (by have := HDL.out; omega) ha0 (by have := HDL.out; omega)
        have HCON := Aside0.mk hcon
        have HHR := Aside0.mk hhr
        have HALL := Aside0.mk hall
        have HB := Aside0.mk hB
        have HBWW : Aside0 (Below w.heap.size w W) := ⟨HB5.out.trans (hbW1.mono HB5.out.size)⟩
        have HFW : Aside0 (wL.heap.size ≤ W.heap.size) := ⟨hB.size⟩
        have hgood : badE d o (a, b) = false → ∀ e ∈ (pre ++ [(⟨(a, b), by omega⟩ : Ed l0.length)]).map Subtype.val, badE d o e = false := by
          intro hb e he
          rw [List.map_append, List.mem_append] at he
          rcases he with he | he
          · exact HALL.out e he
          · simp only [List.map_cons, List.map_nil, List.mem_singleton] at he
            rw [he]; exact hb
        have HGOOD := Aside0.mk hgood
        clear hcon hhr hall hB hbW1 hMW hgood
        by_cases h1 : 0 < numL o a
        · have k1 : decide (0 < numL o a) = true := decide_eq_true h1
          by_cases h2 : numL o b ≤ numL o a
          · have k2 : decide (numL o b ≤ numL o a) = true := decide_eq_true h2
            cases hback : backL d a b with
            | true =>
              rw [hback] at HCON
              gi_wp2
              refine ⟨trivial, ?_⟩
              refine (CallsIn.inRound l (callsIn_wide.2 HCON.out)).mono ?_
              rintro e W' ⟨rfl, hBW'⟩
              gi_wp2
              have hbe : badE d o (a, b) = false := by simp [badE, hback]
              exact ⟨KeepsFrom.of_below hBW', EdKp.of_below (fun _ _ _ _ h => h.elim) HFW.out hBW', HB.out.trans (hBW'.mono HFW.out), HGOOD.out hbe⟩
            | false =>
              rw [hback] at HCON
              gi_wp2
              refine ⟨trivial, ?_⟩
              refine (CallsIn.inRound l (callsIn_wide.2 HCON.out)).mono ?_
              rintro e W' ⟨rfl, hBW'⟩
              have hhr' := (hBW'.block _ (Array.getElem?_eq_some_iff.1 HHR.out).1).trans HHR.out
              obtain ⟨hcr, hfr⟩ := cell_of_box' hhr'
              gi_wp2
              have hbe : badE d o (a, b) = true := by simp [badE, hback, h1, h2]
              have hg8 := grownBy_setCell_b W' w.heap.size 0 (.bool false)
              refine ⟨(KeepsFrom.of_below hBW').trans (KeepsFrom.of_grownBy hg8 (fun j e => by injection e with e; have := HS6.out; omega)), ⟨rfl, (a, b), by simp, hbe⟩, World.cell?_setCell_same _ _ _ hcr, ?_⟩
              exact (HBWW.out.trans (hBW'.mono HBWW.out.size)).grown hg8 (by have := HBWW.out.size; have := hBW'.size; omega) (fun k e => by injection e with e; omega)
          · have k2 : decide (numL o b ≤ numL o a) = false := decide_eq_false h2
            gi_wp2
            refine ⟨fun f h => (by cases h), ?_⟩
            gi_wp2
            have hbe : badE d o (a, b) = false := by simp [badE, k2]
            exact ⟨KeepsFrom.refl _ _, EdKp.refl _ _ _, HB.out, HGOOD.out hbe⟩
        · have k1 : decide (0 < numL o a) = false := decide_eq_false h1
          gi_wp2
          refine ⟨fun f h => (by cases h), ?_⟩
          gi_wp2
          have hbe : badE d o (a, b) = false := by simp [badE, k1]
          exact ⟨KeepsFrom.refl _ _, EdKp.refl _ _ _, HB.out, HGOOD.out hbe⟩
      case done =>
        rintro D ys W hD hys ⟨hB, hall⟩ hK
        have hr : r = true := by
          rw [← HE.out]
          unfold redL
          rw [List.all_eq_true]
          intro e he
          rw [← hys] at he
          have h1 := hall e he
          unfold badE at h1
          rw [h1]; rfl
        subst hr
        have hh1 : W.heap[w.heap.size]? = some (.cells #[.bool false] 4 (0, 0)) := ((HB6.out.trans (hB.mono HB6.out.size)).block w.heap.size hws).trans KR.out
        obtain ⟨hc1, hf1⟩ := cell_of_box' hh1
        have hbW : Below w.heap.size w W := (HB5.out.trans (HB6.out.mono HB5.out.size)).trans (hB.mono (by have := HS6.out; omega))
        gi_wp2
        refine ⟨by simp, .inl ⟨_, _, rfl, run_takeDeferred ((Below.heap_setCell _ _ _ D (by have := HS6.out; simp only; omega)).trans hK), ?_⟩⟩
        refine ⟨_, results_cell_bool rfl _ _ ⟨w.heap.size, 0, none⟩ true rfl ?_, rfl, ?_⟩
        · exact cell_kept (World.cell?_setCell_same _ _ _ hc1) (grownBy_putObj' _ D _) (fun r e => by cases e; exact ⟨_, (Below.heap_setCell _ _ _ D (by have := HS6.out; simp only; omega)).trans hK, rfl⟩)
        · exact (hbW.grown (grownBy_setCell_b W w.heap.size 0 (.bool true)) hbW.size (fun k e => by injection e with e; omega)).grown (grownBy_putObj' _ D _) (by have := hbW.size; simp [World.setCell]; omega) (fun k e => by cases e; have := HS6.out; omega)
      case stop =>
        rintro D c pre W hD hpre ⟨⟨rfl, hbad⟩, hc1, hbW⟩ hK
        have hr : r = false := by
          rw [← HE.out]
          unfold redL
          rw [List.all_eq_false]
          obtain ⟨e, he, hb⟩ := hbad
          refine ⟨e, hpre.subset he, ?_⟩
          unfold badE at hb
          rw [hb]; simp
        subst hr
        gi_wp2
        refine ⟨by simp, .inl ⟨_, _, rfl, run_takeDeferred hK, ?_⟩⟩
        refine ⟨_, results_cell_bool rfl _ _ ⟨w.heap.size, 0, none⟩ false rfl ?_, rfl, ?_⟩
        · exact cell_kept hc1 (grownBy_putObj' _ D _) (fun r e => by cases e; exact ⟨_, hK, rfl⟩)
        · exact hbW.grown (grownBy_putObj' _ D _) hbW.size (fun k e => by cases e; have := HS6.out; omega)
    | succ k1 =>
      have hi : i < o.length := by have := HI.out; omega
      obtain ⟨ad, eao, hc⟩ := Kd.at_int HRo.out (i : Int) (by omega) (by omega)
      subst eao
      simp only [Int.toNat_natCast] at hc
      obtain ⟨es4, ck4, hmap4⟩ := HM4.out.isMap
      have hnc : ∀ r, some (W2.heap.size + 1) = some r → ∃ o : Obj, W4.heap[r]? = some o ∧ o.isCells = false := fun r e => by injection e with e; subst e; exact ⟨_, hmap4, rfl⟩
      have hcw : wr.cell? (ad.add i) = some (.int .i64 (rd o i)) := cell_kept hc HG.out hnc
      have hcb : wr.cell? ⟨W2.heap.size + 1 + 1, 0, none⟩ = some (.map (some (W2.heap.size + 1))) := cell_kept C44.out HG.out hnc
      have hmem : rd o i ∈ o := by
        have e : rd o i = o[i] := by simp [rd, hi]
        rw [e]; exact List.getElem_mem _
      have hbo := HOB.out _ hmem
      have hol := HOL.out
      have hwf : wf64 (rd o i) := wf64_of (by omega) (by omega)
      have hwi : wrap64 ((i : Int) + 1) = (i : Int) + 1 := by unfold wrap64; omega
      obtain ⟨W', hrun, hM', hg'⟩ := HM.out.put (v := (i : Int) + 1) hwf (wf64_of (by omega) (by omega)) (by unfold maxLen; omega)
      have HM' : Aside0 (MI W' (W2.heap.size + 1) (i + 1) (numL (o.take (i + 1)))) := ⟨by
        have e : numL (o.take (i + 1)) = fun y => if y = rd o i then (i : Int) + 1 else numL (o.take i) y := by
          funext y
          rw [take_snoc_rd o i hi, numL_snoc, List.length_take, Nat.min_eq_left (by omega)]
        rw [e]; exact hM'⟩
      have HG' := Aside0.mk (HG.out.trans hg')
      clear hM' hg' hnc hmap4 hc hbo hmem
      go_wp2
      go_roundg k1
      case measure => omega
      case rel => exact ⟨i + 1, by go_num, ⟨by have := HI.out; omega⟩, HM', HG'⟩
end Go.Proofs.Ytnmeomdjhjgnfaa.X
end
section
/-! graph.Body, by hand. -/
set_option linter.unusedSimpArgs false
namespace Go.Proofs.Ytnmeomdjhjgnfaa.X
open Go.RowKit Go.Shelf Go.Proofs.YtnmeomdjhjgnfaaW.PrintWords Go.Proofs.YtnmeomdjhjgnfaaW.PrintLast Go.Proofs.YtnmeomdjhjgnfaaW.PrintMore
set_option linter.unusedVariables false
attribute [local go_sem] Oper.semAt_some

def opL (d : List Int) (h : Int) (es : List (Int × Int)) : List Int := (es.filter fun e => e.2 == h && backL d e.1 e.2).map (·.1)
theorem opL_snoc (d : List Int) (h : Int) (es : List (Int × Int)) (a b : Int) : opL d h (es ++ [(a, b)]) = if (b == h && backL d a b) = true then opL d h es ++ [a] else opL d h es := by
  unfold opL
  rw [List.filter_append, List.map_append]
  simp only [List.filter_cons, List.filter_nil]
  split <;> simp
theorem opL_length (d : List Int) (h : Int) (es : List (Int × Int)) : (opL d h es).length ≤ es.length := by
  unfold opL; rw [List.length_map]; exact List.length_filter_le _ _

/-- The code's end is a return. -/
def onlyRet (Q : Exit → Act → World → Prop) : Exit → Act → World → Prop
  | .ret, a, w => Q .ret a w
  | _, _, _ => False
theorem wpIn_onlyRet {F : Fence} {n : Nat} {P : Program} {c : Code} {Q : Exit → Act → World → Prop} {a : Act} {w : World} (h : c.wpIn F n P (onlyRet Q) a w) : c.wpIn F n P Q a w :=
  wpIn_mono h (fun e a w h => by cases e <;> first | exact h | exact h.elim)
theorem preds_in_fold (n : Nat) (es : List (Int × Int)) : ∀ rows : List (List Int), (∀ r ∈ rows, ∀ x ∈ r, 0 ≤ x ∧ x < (n : Int)) → (∀ e ∈ es, 0 ≤ e.1 ∧ e.1 < n) → ∀ r ∈ es.foldl predStep rows, ∀ x ∈ r, 0 ≤ x ∧ x < n := by
  induction es with
  | nil => intro rows h _; exact h
  | cons e es ih =>
    intro rows h he
    refine ih _ (fun r hr x hx => ?_) (fun e' h' => he e' (List.mem_cons_of_mem _ h'))
    rcases List.mem_or_eq_of_mem_set hr with hr | rfl
    · exact h r hr x hx
    · rcases List.mem_append.1 hx with hx | hx
      · rcases getD_mem rows e.2.toNat with h2 | h2
        · rw [h2] at hx; cases hx
        · exact h _ h2 x hx
      · rw [List.mem_singleton.1 hx]; exact he e List.mem_cons_self
theorem predsL_in (g : List (List Int)) : ∀ r ∈ predsL g, ∀ x ∈ r, 0 ≤ x ∧ x < g.length :=
  preds_in_fold g.length (edgesL g) _ (fun r hr x hx => by rw [List.eq_of_mem_replicate hr] at hx; cases hx) (fun e he => (edgesL_in g e he).1)
theorem getD_mem' (l : List (List Int)) (i : Nat) : ∀ x ∈ l.getD i [], l.getD i [] ∈ l := by
  intro x hx
  rcases getD_mem l i with h | h
  · rw [h] at hx; cases hx
  · exact h
theorem MB.same {w w' : World} {b n : Nat} {f : Int → Bool} (h : MB w b n f) (he : w'.heap[b]? = w.heap[b]?) : MB w' b n f := by
  obtain ⟨D, ⟨es, clock, hb', F, hs, hD⟩, hf⟩ := h.own
  exact ⟨D, ⟨es, clock, he.trans hb', F, hs, hD⟩, hf⟩
/-- Memory while the loop's blocks are gathered. -/
structure BdIn (w wL : World) (b9 bm D : Nat) (o s : List Int) (W : World) : Prop where
  box : ∃ v, W.heap[b9]? = some (.cells #[v] 23 (0, 0)) ∧ (Kd.int .i64).R 3 W wL.heap.size (fun _ => True) v o
  map : MB W bm s.length (fun x => s.contains x)
  stay : ∀ k, k < b9 → k ≠ bm → W.heap[k]? = wL.heap[k]?
  below : Below w.heap.size w W
  defer : W.heap[D]? = some (.deferred (some []))
  far : wL.heap.size ≤ W.heap.size
theorem bd_store {w wL W : World} {b9 bm D : Nat} {o' s : List Int} {v v' : Value} (hv : W.heap[b9]? = some (.cells #[v] 23 (0, 0))) (hmap : MB W bm s.length (fun x => s.contains x)) (hstay : ∀ k, k < b9 → k ≠ bm → W.heap[k]? = wL.heap[k]?) (hbelow : Below w.heap.size w W)
    (hdefer : W.heap[D]? = some (.deferred (some []))) (hf : wL.heap.size ≤ W.heap.size) (hw : w.heap.size ≤ bm) (h1 : bm < b9) (h2 : b9 < wL.heap.size) (h3 : wL.heap.size ≤ D) (hR : (Kd.int .i64).R 3 W wL.heap.size (fun _ => True) v' o') :
    BdIn w wL b9 bm D o' s (W.setCell ⟨b9, 0, none⟩ v') := by
  have hg := grownBy_setCell_b W b9 0 v'
  have hne : ∀ k, k < W.heap.size → k ≠ b9 → (W.setCell ⟨b9, 0, none⟩ v').heap[k]? = W.heap[k]? := fun k hk hn => hg.block k hk (by intro e; injection e with e; exact hn e)
  refine ⟨⟨v', heap_box hv _, Kd.R_mono (Kd.R_step (Kd.R_bound hR) (fun k hk hlt => hne k hlt (by have := hk.2.1; omega))) (fun _ _ => trivial)⟩, hmap.same (hne bm (by omega) (by omega)), fun k hk hn => (hne k (by omega) (by omega)).trans (hstay k hk hn),
    hbelow.grown hg hbelow.size (fun k e => by injection e with e; omega), (hne D (Array.getElem?_eq_some_iff.1 hdefer).1 (by omega)).trans hdefer, Nat.le_trans hf hg.size⟩
theorem BdIn.pop {w wL W : World} {b9 bm D : Nat} {o o' s : List Int} {v' : Value} (h : BdIn w wL b9 bm D o s W) (hw : w.heap.size ≤ bm) (h1 : bm < b9) (h2 : b9 < wL.heap.size) (h3 : wL.heap.size ≤ D) (hR : (Kd.int .i64).R 3 W wL.heap.size (fun _ => True) v' o') :
    BdIn w wL b9 bm D o' s (W.setCell ⟨b9, 0, none⟩ v') := by
  obtain ⟨v, hv, _⟩ := h.box
  exact bd_store hv h.map h.stay h.below h.defer h.far hw h1 h2 h3 hR
theorem BdIn.put {w wL W W' : World} {b9 bm D : Nat} {o s s' : List Int} (h : BdIn w wL b9 bm D o s W) (hw : w.heap.size ≤ bm) (h1 : bm < b9) (h2 : b9 < wL.heap.size) (h3 : wL.heap.size ≤ D) (hg : W.grownBy W' (some bm)) (hM : MB W' bm s'.length (fun x => s'.contains x)) :
    BdIn w wL b9 bm D o s' W' := by
  obtain ⟨v, hv, hR⟩ := h.box
  have hne : ∀ k, k < W.heap.size → k ≠ bm → W'.heap[k]? = W.heap[k]? := fun k hk hn => hg.block k hk (by intro e; injection e with e; exact hn e)
  have hf := h.far
  refine ⟨⟨v, (hne b9 (by omega) (by omega)).trans hv, Kd.R_mono (Kd.R_step (Kd.R_bound hR) (fun k hk hlt => hne k hlt (by have := hk.2.1; omega))) (fun _ _ => trivial)⟩, hM, fun k hk hn => (hne k (by omega) hn).trans (h.stay k hk hn),
    h.below.grown hg h.below.size (fun k e => by injection e with e; omega), (hne D (Array.getElem?_eq_some_iff.1 h.defer).1 (by omega)).trans h.defer, Nat.le_trans h.far hg.size⟩
theorem BdIn.grow {w wL W W' : World} {b9 bm D : Nat} {o s : List Int} {v : Value} (h : BdIn w wL b9 bm D o s W) (h1 : bm < b9) (h2 : b9 < wL.heap.size) (hw : w.heap.size ≤ wL.heap.size)
    (hv : W.heap[b9]? = some (.cells #[v] 23 (0, 0))) (hR : (Kd.int .i64).R 3 W wL.heap.size (fun _ => True) v o) (hg : W.grownBy W' v.ownBlock) :
    W'.heap[b9]? = some (.cells #[v] 23 (0, 0)) ∧ MB W' bm s.length (fun x => s.contains x) ∧ (∀ k, k < b9 → k ≠ bm → W'.heap[k]? = wL.heap[k]?) ∧ Below w.heap.size w W' ∧ W'.heap[D]? = some (.deferred (some [])) ∧ wL.heap.size ≤ W'.heap.size := by
  have hb := Kd.R_base hR
  have hf := h.far
  have hne : ∀ k, k < wL.heap.size → W'.heap[k]? = W.heap[k]? := fun k hk => hg.block k (by omega) (fun e => by have := hb k e.symm; omega)
  refine ⟨(hne b9 h2).trans hv, h.map.same (hne bm (by omega)), fun k hk hn => (hne k (by omega)).trans (h.stay k hk hn), h.below.grown hg h.below.size (fun k e => by have := hb k e; omega), ?_, Nat.le_trans hf hg.size⟩
  refine (hg.block D (Array.getElem?_eq_some_iff.1 h.defer).1 (fun e => ?_)).trans h.defer
  obtain ⟨c, hc⟩ := Kd.R_typed hR D e.symm
  have := h.defer
  rw [hc] at this
  cases this
theorem BdIn.app {w wL W W' : World} {b9 bm D : Nat} {o o' s : List Int} {v v' : Value} (h : BdIn w wL b9 bm D o s W) (hw : w.heap.size ≤ bm) (h1 : bm < b9) (h2 : b9 < wL.heap.size) (h3 : wL.heap.size ≤ D)
    (hv : W.heap[b9]? = some (.cells #[v] 23 (0, 0))) (hR : (Kd.int .i64).R 3 W wL.heap.size (fun _ => True) v o) (hg : W.grownBy W' v.ownBlock) (hR' : (Kd.int .i64).R 3 W' wL.heap.size (fun _ => True) v' o') :
    BdIn w wL b9 bm D o' s (W'.setCell ⟨b9, 0, none⟩ v') := by
  obtain ⟨k1, k2, k3, k4, k5, k6⟩ := h.grow h1 h2 (by omega) hv hR hg
  exact bd_store k1 k2 k3 k4 k5 k6 hw h1 h2 h3 hR'
set_option maxHeartbeats 8000000 in
set_option maxRecDepth 100000 in
theorem graph_Body.calls (k : Nat) (A0 : Option Addr) (c0 : Nat) (l0 : List (List Int)) (a1 : Int) (r : List Int) (w : World) (hr0 : Kd.C (Kd.slice 3 (Kd.int .i64)) w A0 l0.length l0) (hc0 : l0.length ≤ c0) (h : graph_Body.f k l0 a1 = some r) :
    Calls Try.prog 39 #[.slice A0 l0.length c0, .int .i64 a1] w fun e w' => ∃ v0_ : Value, e = .returned (v0_) ∧ Kd.R (Kd.int .i64) 3 w' w.heap.size (fun _ => True) v0_ r ∧ Below w.heap.size w w' := by
  unfold graph_Body.f at h
  split at h
  case isFalse => cases h
  rename_i hok
  obtain ⟨d, hd, h⟩ := Option.bind_eq_some_iff.1 h
  obtain ⟨o, ho, h⟩ := Option.bind_eq_some_iff.1 h
  split at h
  case isFalse => cases h
  rename_i hdl
  obtain ⟨hdl, hel, hol, hob, ha0, ha1⟩ := hdl
  have hlen := (okG_len hok).1
  have HR := Aside0.mk hr0
  have HC0 := Aside0.mk hc0
  have HOK := Aside0.mk hok
  have HE := Aside0.mk h
  have HD := Aside0.mk hd
  have HO := Aside0.mk ho
  have HDL := Aside0.mk hdl
  have HEL := Aside0.mk hel
  have HOL := Aside0.mk hol
  have HOB := Aside0.mk hob
  clear hr0 hc0 hok h hd ho hdl hol hob hel
  have hmm := @run_makeMap Try.prog
  refine (callsIn_wide (n := 6)).1 ?_
  refine callsIn_of_wp_marks Try.func39 rfl trivial ?_ rfl
  simp only [Try.ntmps39, List.size_toArray, List.length_cons, List.length_nil, Nat.reduceAdd, Nat.reduceSub, Array.replicate_succ, Array.replicate_zero, List.push_toArray, List.append_toArray, List.nil_append, List.cons_append]
  refine wpIn_seq (wpIn_wide.2 ?_)
  go_wp2
  have hb0 : Below w.heap.size w (w.alloc (.cells #[.int .i64 a1] 3)) := below_alloc (Below.refl _ _) _
  have hcr := cell_new_c' w (.int .i64 a1) 3
  obtain ⟨W1, hW1⟩ : ∃ W1, w.alloc (.cells #[.int .i64 a1] 3) = W1 := ⟨_, rfl⟩
  have hs1 : W1.heap.size = w.heap.size + 1 := by rw [← hW1]; simp
  rw [hW1] at hb0 hcr ⊢
  have HCR := Aside0.mk hcr.1
  have HB1 := Aside0.mk hb0
  have HS1 := Aside0.mk hs1
  clear hb0 hcr hs1 hW1
  refine wpIn_seq (wpIn_wide.2 ?_)
  go_wp2_with fail
  refine (back_calls k A0 c0 l0 d _ (Kd.C_below HR.out HB1.out) HC0.out HD.out).mono ?_
  rintro e W2 ⟨bk, Ad, cd, rfl, hbk, hbx, hRd, hB2⟩
  have HBX := Aside0.mk hbx
  have HRd := Aside0.mk (Kd.R_reads' hRd)
  have HB2 := Aside0.mk (HB1.out.trans (hB2.mono HB1.out.size))
  have HCR2 := Aside0.mk ((hB2.cell (World.block_lt_of_cell? _ _ HCR.out)).trans HCR.out)
  have hbk2 := blk_lt hbx
  clear hbx hRd hB2 HCR HB1 HS1
  go_wp2
  have hb3 : Below W2.heap.size W2 (W2.alloc (.cells #[.func (.func 103) #[] #[.pointer (some ⟨bk, 0, none⟩)]] 53)) := below_alloc (Below.refl _ _) _
  have hc3 := cell_new_c' W2 (.func (.func 103) #[] #[.pointer (some ⟨bk, 0, none⟩)]) 53
  obtain ⟨W3, hW3⟩ : ∃ W3, W2.alloc (.cells #[.func (.func 103) #[] #[.pointer (some ⟨bk, 0, none⟩)]] 53) = W3 := ⟨_, rfl⟩
  have hs3 : W3.heap.size = W2.heap.size + 1 := by rw [← hW3]; simp
  rw [hW3] at hb3 hc3 ⊢
  have HC3 := Aside0.mk hc3.1
  have HB3 := Aside0.mk hb3
  have HS3 := Aside0.mk hs3
  have HB03 := Aside0.mk (HB2.out.trans (hb3.mono HB2.out.size))
  clear hb3 hc3 hs3 hW3
  refine wpIn_seq (wpIn_wide.2 ?_)
  go_wp2_with fail
  refine (graph_Preds.calls A0 c0 l0 (predsL l0) _ (Kd.C_below HR.out HB03.out) HC0.out (by unfold graph_Preds.f; rw [if_pos HOK.out])).mono ?_
  rintro e W4 ⟨v17, rfl, hS17, hB4⟩
  obtain ⟨Ap, cp, rfl, _, _⟩ := Kd.S_reads hS17
  rw [predsL_length] at hS17 ⊢
  have HP4 := Aside0.mk hS17
  have HB4 := Aside0.mk hB4
  clear hS17 hB4
  go_wp2
  refine wpIn_seq (wpIn_wide.2 ?_)
  go_wp2_with fail
  refine (graph_Order.calls k A0 c0 l0 o _ (Kd.C_below HR.out (HB03.out.trans (HB4.out.mono HB03.out.size))) HC0.out HO.out).mono ?_
  rintro e W5 ⟨v21, rfl, hRo, hB5⟩
  obtain ⟨Ao, co, rfl⟩ := Kd.R_slice hRo
  have HO5 := Aside0.mk (Kd.R_reads' hRo)
  have HB35 := Aside0.mk (HB4.out.trans (hB5.mono HB4.out.size))
  have HP5 := Aside0.mk (Kd.S_mono (ok' := fun k => k < W4.heap.size) (Kd.S_bound (Kd.S_below (Kd.S_mono (ok' := fun k => k < W4.heap.size) (Kd.S_bound HP4.out) (fun k hk => hk.2.2.1)) hB5)) (fun k hk => hk.1))
  have hs45 := hB5.size
  clear hRo hB5 HP4
  go_wp2
  have hHM := World.alloc_heap_new W5 (.map #[] 0)
  obtain ⟨W6, hrun6, hM6, hg6⟩ := (MB.made W5).put (x := a1) true (wf64_of (by omega) (by omega)) (by unfold maxLen; omega)
  have hc6 : (W5.alloc (.map #[] 0)).cell? ⟨w.heap.size, 0, none⟩ = some (.int .i64 a1) := cell_alloc' _ ((HB35.out.cell (World.block_lt_of_cell? _ _ ((HB3.out.cell (World.block_lt_of_cell? _ _ HCR2.out)).trans HCR2.out))).trans ((HB3.out.cell (World.block_lt_of_cell? _ _ HCR2.out)).trans HCR2.out))
  have hs56 : W5.heap.size + 1 ≤ W6.heap.size := by have := hg6.size; simpa using this
  have HB56 : Aside0 (Below W5.heap.size W5 W6) := ⟨(below_alloc (Below.refl _ _) _).grown hg6 (by simp) (fun k e => by injection e with e; omega)⟩
  have HM6 := Aside0.mk hM6
  clear hM6 hg6 hHM
  refine wpIn_seq (wpIn_wide.2 ?_)
  go_wp2
  have hM6 := HM6.out.below (below_alloc (Below.refl _ W6) (.cells #[.slice none 0 0] 23))
  have k9 := World.alloc_heap_new W6 (.cells #[.slice none 0 0] 23)
  have hB67 : Below W6.heap.size W6 (W6.alloc (.cells #[.slice none 0 0] 23)) := below_alloc (Below.refl _ _) _
  refine wpIn_seq (wpIn_wide.2 ?_)
  go_wp2
  obtain ⟨W7, hW7⟩ : ∃ W7, W6.alloc (.cells #[.slice none 0 0] 23) = W7 := ⟨_, rfl⟩
  have hs67 : W7.heap.size = W6.heap.size + 1 := by rw [← hW7]; simp
  rw [hW7] at hM6 k9 hB67 ⊢
  have hfn : (fun y : Int => if y = a1 then true else false) = fun y => [a1].contains y := by
    funext y
    by_cases hy : y = a1 <;> simp [hy]
  rw [hfn] at hM6
  have hB57 : Below W5.heap.size W5 W7 := HB56.out.trans (hB67.mono (by omega))
  have hB37 : Below W3.heap.size W3 W7 := HB35.out.trans (hB57.mono (by have := HB35.out.size; omega))
  have hB27 : Below W2.heap.size W2 W7 := HB3.out.trans (hB37.mono (by have := HB3.out.size; omega))
  have hB07 : Below w.heap.size w W7 := HB2.out.trans (hB27.mono (by have := HB2.out.size; omega))
  have K1 := Aside0.mk ((hB27.cell (World.block_lt_of_cell? _ _ HCR2.out)).trans HCR2.out)
  have K3 := Aside0.mk ((hB37.cell (World.block_lt_of_cell? _ _ HC3.out)).trans HC3.out)
  have KX := Aside0.mk ((hB27.block bk hbk2).trans HBX.out)
  have KD := Aside0.mk HRd.out.2.2
  have HB27 := Aside0.mk hB27
  have KDc := Aside0.mk HRd.out.2.1
  have KP := HP5
  have KO := Aside0.mk HO5.out.2.2
  have HB57 := Aside0.mk hB57
  have KOc := Aside0.mk HO5.out.2.1
  have KM := Aside0.mk hM6
  have K9 := Aside0.mk k9
  have HB7 := Aside0.mk hB07
  have HW := Aside0.mk (show w.heap.size ≤ W2.heap.size ∧ W2.heap.size < W3.heap.size ∧ W3.heap.size ≤ W4.heap.size ∧ W4.heap.size ≤ W5.heap.size ∧ W5.heap.size < W6.heap.size ∧ W7.heap.size = W6.heap.size + 1 from ⟨HB2.out.size, by have := HS3.out; omega, HB4.out.size, hs45, hs56, hs67⟩)
  clear hM6 k9 hB67 hW7 hs67 hfn hB57 hB37 hB27 hB07 HM6 HB56 hs56 hc6 hrun6 HO5 hs45 HP5 HB35 HB4 HB03 HS3 HB3 HC3 HCR2 HB2 HBX HRd hmm
  refine wpIn_seq (wpIn_seq ?_)
  gi_wp2
  refine ⟨trivial, ?_⟩
  refine (callsIn_wide.2 (edges_calls A0 l0.length c0 _)).mono ?_
  rintro e w' ⟨rfl, rfl⟩
  gi_wp2
  have c10 := cell_new_c' W7 (.slice A0 l0.length c0) 22
  have hBL : Below W7.heap.size W7 (W7.alloc (.cells #[.slice A0 l0.length c0] 22)) := below_alloc (Below.refl _ _) _
  have hsL : (W7.alloc (.cells #[.slice A0 l0.length c0] 22)).heap.size = W7.heap.size + 1 := by simp
  obtain ⟨wL, hwL⟩ : ∃ wL, W7.alloc (.cells #[.slice A0 l0.length c0] 22) = wL := ⟨_, rfl⟩
  rw [hwL] at c10 hBL hsL ⊢
  have k9L : wL.heap[W6.heap.size]? = some (.cells #[.slice none 0 0] 23 (0, 0)) := (hBL.block _ (blk_lt K9.out)).trans K9.out
  have HI0 := Aside0.mk (OutIn.start (d := Kd.int .i64) (e := 3) k9L)
  have hMW := HI0.out.names
  have hbL : W6.heap.size < wL.heap.size := by have := HW.out.2.2.2.2.2; omega
  have hMd : Told wL.heap.size (BxM W6.heap.size) := BxM.told hbL
  have HBL := Aside0.mk hBL
  have HSL := Aside0.mk hsL
  clear hBL hsL hwL k9L
  refine wpIn_rangeFunc_ownG rfl (by omega) (gf := 104) (lb := #[.pointer (some ⟨W7.heap.size, 0, none⟩)]) rfl trivial (enters_of Try.func104 (by kernel_rfl) rfl)
    (edges_stops 5 (by omega) W7.heap.size A0 c0 l0 HOK.out (BxM W6.heap.size) wL hMd hMW (Kd.C_below HR.out (HB7.out.trans (HBL.out.mono HB7.out.size))) HC0.out c10.1) EdKp.trans (EdKp.put hMd) (Below.refl _ _) (fun _ => rfl)
    (fun pre W => OutIn wL W6.heap.size (Kd.int .i64) 3 23 (opL d a1 (pre.map Subtype.val)) W)
    (fun _ _ _ => False)
    (fun s A B row hs hg hr => hs.kept hg hr (by omega))
    (fun _ _ _ _ _ hs _ _ => hs)
    HI0.out
    (fun x => { tmps := #[Value.slice A0 l0.length c0, Value.int IntKind.i64 a1, undef,
          Value.pointer (some { block := w.heap.size, off := 0 }), Value.slice none 0 0,
          Value.pointer (some { block := W2.heap.size, off := 0 }), Value.slice Ap l0.length cp,
          Value.slice Ao o.length co, Value.map (some W5.heap.size),
          Value.pointer (some { block := W6.heap.size, off := 0 }), .int .i64 x.1.1, .int .i64 x.1.2, undef, undef, undef, undef,
          Value.slice A0 l0.length c0, Value.func (Fn.func 103) #[] #[Value.pointer (some { block := bk, off := 0 })],
          Value.slice A0 l0.length c0, Value.slice Ap l0.length cp, Value.slice A0 l0.length c0,
          Value.slice Ao o.length co, Value.map (some W5.heap.size), Value.int IntKind.i64 a1,
          Value.map (some W5.heap.size), Value.slice A0 l0.length c0,
          Value.func (Fn.func 104) #[] #[Value.pointer (some { block := W7.heap.size, off := 0 })], .int .i64 x.1.1, .int .i64 x.1.2, undef, undef, undef, undef, undef, undef, undef, undef, undef, undef, undef, undef, undef, undef, undef, undef, undef, undef, undef, undef, undef, undef, undef, undef, undef, undef, undef, undef, undef, undef, undef, undef, undef, undef, undef, undef, undef, undef, undef, undef, undef, undef, undef, undef, undef, undef, undef, undef, undef, undef, undef, undef, undef, undef, undef, undef, undef, undef, undef], defers := [] }) ?assign ?body ?done ?stop
  case assign =>
    intro l x W K hK
    simp only [edEnc]
    gi_wp2
    exact hK
  case body =>
    rintro l pre ⟨⟨a, b⟩, hq0, hq1, hb0, hb1⟩ W hI hlt
    clear hMd hMW c10 HI0
    simp only at hq0 hq1 hb0 hb1
    obtain ⟨out, hout⟩ : ∃ out, opL d a1 (pre.map Subtype.val) = out := ⟨_, rfl⟩
    rw [hout] at hI
    have HOL : Aside0 (out.length ≤ 1000000000000) := ⟨by
      have h1 := opL_length d a1 (pre.map Subtype.val)
      rw [hout, List.length_map] at h1
      have h2 := HEL.out
      omega⟩
    have hsnoc : opL d a1 ((pre ++ [(⟨(a, b), by omega⟩ : Ed l0.length)]).map Subtype.val) = if (b == a1 && backL d a b) = true then out ++ [a] else out := by
      rw [List.map_append, ← hout]
      exact opL_snoc _ _ _ _ _
    have HSN := Aside0.mk hsnoc
    have HIN := Aside0.mk hI
    clear hsnoc hout
    have hf := hI.far
    have hstay : Below W6.heap.size W7 W := (HBL.out.mono (by have := HW.out.2.2.2.2.2; omega)).trans hI.stay
    have hc1 : W.cell? ⟨w.heap.size, 0, none⟩ = some (.int .i64 a1) := (hstay.cell (p := ⟨w.heap.size, 0, none⟩) (by have := HW.out; simp only; omega)).trans K1.out
    have hc3 : W.cell? ⟨W2.heap.size, 0, none⟩ = some (.func (.func 103) #[] #[.pointer (some ⟨bk, 0, none⟩)]) := (hstay.cell (p := ⟨W2.heap.size, 0, none⟩) (by have := HW.out; simp only; omega)).trans K3.out
    have hcon := back1_calls bk Ad cd d a b W ((hstay.cell (p := ⟨bk, 0, none⟩) (by have := HW.out; simp only; omega)).trans (cell_of_box' KX.out).1) (Kd.C_below KD.out (HB27.out.trans (hstay.mono (by have := HW.out; omega)))) KDc.out (by have := HDL.out; omega) hq0 (by have := HDL.out; omega)
    have HCON := Aside0.mk hcon
    clear hcon hI hstay
    by_cases hba : b = a1
    · have kba : (b == a1) = true := by simpa using hba
      cases hback : backL d a b with
      | false =>
        have HSN2 := HSN.out
        rw [hback, kba] at HSN2
        rw [hback] at HCON
        have HSN3 := Aside0.mk HSN2
        clear HSN2 hba
        gi_wp2
        refine ⟨trivial, ?_⟩
        refine (CallsIn.inRound l (callsIn_wide.2 HCON.out)).mono ?_
        rintro e W' ⟨rfl, hB⟩
        gi_wp2
        have hr := HIN.out.call hB (by omega)
        refine ⟨hr.1, hr.2.1, ?_⟩
        show OutIn _ _ _ _ _ (opL d a1 _) _
        rw [HSN3.out]
        exact hr.2.2
      | true =>
        have HSN2 := HSN.out
        rw [hback, kba] at HSN2
        rw [hback] at HCON
        have HSN3 := Aside0.mk HSN2
        clear HSN2 hba
        refine wpIn_block ?_
        refine wpIn_seq ?_
        refine wpIn_mono (Q := Exit.then (fun a' w' => Below W.heap.size W w' ∧ a' = { tmps := #[Value.slice A0 l0.length c0, Value.int IntKind.i64 a1, undef,
          Value.pointer (some { block := w.heap.size, off := 0 }), Value.slice none 0 0,
          Value.pointer (some { block := W2.heap.size, off := 0 }), Value.slice Ap l0.length cp,
          Value.slice Ao o.length co, Value.map (some W5.heap.size),
          Value.pointer (some { block := W6.heap.size, off := 0 }), .int .i64 a, .int .i64 b, undef, undef, undef, undef,
          Value.slice A0 l0.length c0, Value.func (Fn.func 103) #[] #[Value.pointer (some { block := bk, off := 0 })],
          Value.slice A0 l0.length c0, Value.slice Ap l0.length cp, Value.slice A0 l0.length c0,
          Value.slice Ao o.length co, Value.map (some W5.heap.size), Value.int IntKind.i64 a1,
          Value.map (some W5.heap.size), Value.slice A0 l0.length c0,
          Value.func (Fn.func 104) #[] #[Value.pointer (some { block := W7.heap.size, off := 0 })], .int .i64 a, .int .i64 b, .int .i64 b, .int .i64 a1, .bool true, .bool true, .func (.func 103) #[] #[.pointer (some ⟨bk, 0, none⟩)], .int .i64 a, .int .i64 b, .bool true, .bool true, undef, undef, undef, undef, undef, undef, undef, undef, undef, undef, undef, undef, undef, undef, undef, undef, undef, undef, undef, undef, undef, undef, undef, undef, undef, undef, undef, undef, undef, undef, undef, undef, undef, undef, undef, undef, undef, undef, undef, undef, undef, undef, undef, undef, undef, undef, undef, undef, undef, undef], defers := [] }) (fun _ _ _ => False)) ?first ?rest
        case first =>
          gi_wp2
          refine ⟨trivial, ?_⟩
          refine (CallsIn.inRound l (callsIn_wide.2 HCON.out)).mono ?_
          rintro e W' ⟨rfl, hB⟩
          gi_wp2
          exact ⟨hB, trivial⟩
        case rest =>
          intro e a' W' h'
          cases e <;> first | exact h'.elim | skip
          obtain ⟨hB, rfl⟩ := h'
          obtain ⟨hk1, hk2, hI2⟩ := HIN.out.call hB (by omega)
          obtain ⟨v, h5, hRv⟩ := hI2.box
          obtain ⟨hc5, hf5⟩ := cell_of_box' h5
          obtain ⟨Av, cv, rfl⟩ := Kd.R_slice hRv
          have HRv := Aside0.mk hRv
          have H5 := Aside0.mk h5
          have HK := Aside0.mk (And.intro hk1 hk2)
          have HI2 := Aside0.mk hI2
          have hf2 := hI2.far
          clear hRv h5 hk1 hk2 hI2
          refine wpIn_cond_true rfl ?_
          refine wpIn_list_plain (by kernel_rfl) (fun ⟨_, _, h'⟩ => h') ?_
          go_wp2_with (first | ((with_reducible refine gate_builtin (b := .append) (xs := #[.tmp 38, .tmp 40]) rfl ?_); at_builtin; refine Kd.R_append (Kd.int .i64) (w0 := W') (W := W') wL.heap.size rfl (.tmp 38) (.tmp 40) 23 3 (.int .i64 0) 8 rfl Try.underlying23 info3 rfl (by decide) (by omega) (.slice Av out.length cv) out a [.int .i64 a] (fun _ => True) (fun _ => False) rfl rfl ?aP (fun _ hk => hk.elim) ?aF ?aO ?aB ?aS ?aL ?_; (case aP => rfl); (case aF => exact fun _ _ => trivial); (case aO => exact HRv.out); (case aB => exact Below.refl _ _); (case aS => exact hf2); (case aL => have := HOL.out; omega); intro v20 W7' ho hb hg hat; obtain ⟨A20, n20, c20, rfl⟩ : ∃ A n c, v20 = .slice A n c := ⟨_, _, _, (Kd.R_slice ho).choose_spec.choose_spec⟩; obtain ⟨hc57, hf57⟩ := cell_of_box' ((hg.block W6.heap.size (blk_lt H5.out) (fun h => by have := Kd.R_base HRv.out _ h.symm; omega)).trans H5.out)) | fail)
          obtain ⟨hr1, hr2, hr3⟩ := HI2.out.append (by omega) H5.out HRv.out ho hg hat
          refine ⟨HK.out.1.trans hr1, HK.out.2.trans hr2, ?_⟩
          show OutIn _ _ _ _ _ (opL d a1 _) _
          rw [HSN3.out]
          exact hr3
    · have kba : (b == a1) = false := by simpa using hba
      have HSN2 := HSN.out
      rw [kba] at HSN2
      have HSN3 := Aside0.mk HSN2
      clear HSN2 hba
      gi_wp2
      refine ⟨fun f h => (by cases h), ?_⟩
      gi_wp2
      refine ⟨KeepsFrom.refl _ _, EdKp.refl _ _ _, ?_⟩
      show OutIn _ _ _ _ _ (opL d a1 _) _
      rw [HSN3.out]
      exact HIN.out
  case done =>
    rintro D ys W hD hys hI hK
    clear hMd hMW c10 HI0
    obtain ⟨op, hop⟩ : ∃ op, opL d a1 (ys.map Subtype.val) = op := ⟨_, rfl⟩
    have hop2 : openL l0 d a1 = op := by rw [← hop, hys]; rfl
    have HOPL : Aside0 (op.length ≤ 100000000) := ⟨by
      have h1 := opL_length d a1 (ys.map Subtype.val)
      rw [hop, hys] at h1
      have h2 := HEL.out
      omega⟩
    rw [hop] at hI
    have hE := HE.out
    rw [hop2] at hE
    have hbW : Below w.heap.size w W := HB7.out.trans ((HBL.out.mono HB7.out.size).trans (hI.stay.mono (by have := HW.out; omega)))
    obtain ⟨v, h5, hRv⟩ := hI.box
    have hM1 : MB W W5.heap.size [a1].length (fun x => [a1].contains x) := (KM.out.below HBL.out).same (hI.stay.block _ (by have := HW.out; omega))
    have HST : Aside0 (BdIn w wL W6.heap.size W5.heap.size D op [a1] W) := ⟨⟨v, h5, hRv⟩, hM1, fun k hk _ => hI.stay.block k hk, hbW, hK, hI.far⟩
    have HE' := Aside0.mk hE
    have hopx : ((ys.map Subtype.val).filter fun e => e.2 == a1 && backL d e.1 e.2).map (·.1) = op := hop
    clear hE HE h5 hRv hM1 hI hop2 hop HOK h hbW hK
    refine wpIn_onlyRet (wpIn_wide.2 ?_)
    obtain ⟨v, h5, hRv⟩ := HST.out.box
    obtain ⟨hc5, hf5⟩ := cell_of_box' h5
    obtain ⟨Av, cv, rfl⟩ := Kd.R_slice hRv
    have H5 := Aside0.mk h5
    have HRv := Aside0.mk hRv
    clear h5 hRv
    by_cases hz : op = []
    · subst hz
      have hr : r = [] := by have := HE'.out; simpa using this.symm
      subst hr
      go_wp2
      refine ⟨by simp, .inl ⟨_, _, rfl, run_takeDeferred HST.out.defer, ?_⟩⟩
      refine ⟨_, results_tmp rfl _ _ _, _, rfl, ?_, ?_⟩
      · exact Kd.R_nil _ _ _ _ _
      · exact HST.out.below.grown (grownBy_putObj' _ D _) HST.out.below.size (fun k e => by cases e; have := HW.out; have := HSL.out; omega)
    · have hpos : 0 < op.length := List.length_pos_iff.2 hz
      have hz2 : ((op.length : Int) == 0) = false := by simp; omega
      have hE := HE'.out
      rw [if_neg hz] at hE
      obtain ⟨sf, hsf, hr⟩ := Option.map_eq_some_iff.1 hE
      have HRF := Aside0.mk hr
      have HSF := Aside0.mk hsf
      have HRG : Aside0 (∀ x ∈ op, 0 ≤ x ∧ x < l0.length) := ⟨by
        rw [← hopx]
        intro x hx
        obtain ⟨e, he, rfl⟩ := List.mem_map.1 hx
        have := (List.mem_filter.1 he).1
        rw [hys] at this
        exact (edgesL_in l0 e this).1⟩
      clear hE hr hsf HE' hopx hys
      go_wp2
      clear hc5 hf5 hz2 hpos hz
      go_loopg [12] k (fun kq v12 W' => ∃ (ol s : List Int), Aside0 (bodyLoop (predsL l0) kq ol s = some sf) ∧ Aside0 (BdIn w wL W6.heap.size W5.heap.size D ol s W') ∧ Aside0 (ol.length ≤ 1000000000) ∧ Aside0 (∀ x ∈ ol, 0 ≤ x ∧ x < l0.length))
      case atStart => exact ⟨op, [a1], HSF, HST, ⟨by have := HOPL.out; omega⟩, HRG⟩
      case round =>
        obtain ⟨ol, s, HA, HI, HL, HG⟩ := hrel
        clear HRG HOPL HST HRv H5 HSF
        cases gk with
        | zero => exact absurd HA.out (by simp [bodyLoop])
        | succ k1 =>
          have hX5 : ∀ k, k < W5.heap.size → wr.heap[k]? = W5.heap[k]? := fun k hk => (HI.out.stay k (by have := HW.out; omega) (by omega)).trans ((HBL.out.block k (by have := HW.out; omega)).trans (HB57.out.block k hk))
          rcases List.eq_nil_or_concat ol with rfl | ⟨ol', a, hcc⟩
          · have hs : s = sf := by have := HA.out; simpa [bodyLoop] using this
            subst hs
            obtain ⟨v, h5, hRv⟩ := HI.out.box
            obtain ⟨hc5, hf5⟩ := cell_of_box' h5
            obtain ⟨Av, cv, rfl⟩ := Kd.R_slice hRv
            obtain ⟨wq, ewq⟩ : ∃ wq, wq = wr := ⟨_, rfl⟩
            subst ewq
            have hFar := HI.out.far
            have hMs := Aside0.mk HI.out.map
            clear h5 hRv
            go_wp2
            clear hc5 hf5
            go_loopg [13, 73] o.length (fun kq v13 v73 W' => ∃ i : Nat, v73 = .int .i64 i ∧ Aside0 (kq + i = o.length) ∧ Aside0 (Kd.R (Kd.int .i64) 3 W' wq.heap.size (fun _ => True) v13 ((o.take i).filter (fun b => s.contains b))) ∧ Aside0 (Below wq.heap.size wq W'))
            case atStart => exact ⟨0, rfl, ⟨rfl⟩, ⟨by simpa using Kd.R_nil _ _ _ _ _⟩, ⟨Below.refl _ _⟩⟩
            case round =>
              obtain ⟨i, rfl, HJ, HO, HB⟩ := hrel
              cases gk with
              | zero =>
                have hi : i = o.length := by have := HJ.out; omega
                subst hi
                rw [List.take_length] at HO
                have hl2 : (o.filter (fun b => s.contains b)).length ≤ 100000000 := Nat.le_trans (List.length_filter_le _ _) (by have := HOL.out; omega)
                go_wp2_with fail
                refine (sort_R HO.out hl2).mono ?_
                rintro e W9 ⟨rfl, hs, hg⟩
                have HB9 := Aside0.mk (HB.out.grown hg (HB.out.size) (fun k hk => Kd.R_base HO.out k hk))
                have HS9 := Aside0.mk hs
                clear hs hg
                go_wp2
                have hD9 := (HB9.out.block D (Array.getElem?_eq_some_iff.1 HI.out.defer).1).trans HI.out.defer
                have hbw := HI.out.below
                refine ⟨by simp, .inl ⟨_, _, rfl, run_takeDeferred hD9, ?_⟩⟩
                refine ⟨_, results_tmp rfl _ _ _, _, rfl, ?_, ?_⟩
                · have h2 := HS9.out
                  rw [HRF.out] at h2
                  exact Kd.R_mono (Kd.R_lower (R_nocells h2 (grownBy_putObj' _ D _) (fun r e => by cases e; exact ⟨_, hD9, rfl⟩)) hbw.size) (fun _ _ => trivial)
                · exact (hbw.trans (HB9.out.mono hbw.size)).grown (grownBy_putObj' _ D _) (by have := hbw.size; have := HB9.out.size; omega) (fun k e => by cases e; have := HW.out; have := HSL.out; omega)
              | succ k2 =>
                have hi : i < o.length := by have := HJ.out; omega
                obtain ⟨ad, eao, hc⟩ := Kd.at_int KO.out (i : Int) (by omega) (by omega)
                subst eao
                simp only [Int.toNat_natCast] at hc
                have hbl := World.block_lt_of_cell? _ _ hc
                replace hc := (World.cell?_of_block (hX5 _ hbl)).trans hc
                replace hc := (HB.out.cell (World.block_lt_of_cell? _ _ hc)).trans hc
                have hmem : rd o i ∈ o := by
                  have e : rd o i = o[i] := by simp [rd, hi]
                  rw [e]; exact List.getElem_mem _
                have hbo := HOB.out _ hmem
                have hol := HOL.out
                have hlook := (hMs.out.below HB.out).look (x := rd o i) (wf64_of (by omega) (by omega))
                have HLE := Aside0.mk (take_filter_le o (fun b => s.contains b) i)
                cases hct : s.contains (rd o i) with
                | true =>
                  rw [hct] at hlook
                  have HF := Aside0.mk (take_filter_yes o (fun b => s.contains b) i hi hct)
                  go_wp2_with (first | ((with_reducible refine gate_builtin (b := .append) (xs := #[.tmp 80, .tmp 82]) rfl ?_); at_builtin; refine Kd.R_append (Kd.int .i64) (w0 := wq) (W := wr) wq.heap.size rfl (.tmp 80) (.tmp 82) 23 3 (.int .i64 0) 8 rfl Try.underlying23 info3 rfl (by decide) (by omega) u13 ((o.take i).filter (fun b => s.contains b)) (rd o i) [.int .i64 (rd o i)] (fun _ => True) (fun _ => False) rfl rfl ?aP (fun _ hk => hk.elim) ?aF ?aO ?aB ?aS ?aL ?_; (case aP => rfl); (case aF => exact fun _ _ => trivial); (case aO => exact HO.out); (case aB => exact HB.out); (case aS => exact HB.out.size); (case aL => have := HLE.out; have := HOL.out; omega); intro v83 W8 ho hb hg hat; rw [← HF.out] at ho; have HO8 := Aside0.mk ho; have HB8 := Aside0.mk hb; clear ho hb hg hat HO HB) | fail)
                  go_roundg k2
                  case measure => omega
                  case rel => exact ⟨i + 1, by go_num, ⟨by have := HJ.out; omega⟩, HO8, HB8⟩
                | false =>
                  rw [hct] at hlook
                  have HF := Aside0.mk (take_filter_no o (fun b => s.contains b) i hi hct)
                  go_wp2
                  go_roundg k2
                  case measure => omega
                  case rel => exact ⟨i + 1, by go_num, ⟨by have := HJ.out; omega⟩, ⟨by rw [HF.out]; exact HO.out⟩, HB⟩
          · rw [List.concat_eq_append] at hcc
            subst hcc
            have H := HA.out
            simp only [bodyLoop, List.getLast?_concat, List.dropLast_concat] at H
            have hG := HG.out
            have haR := hG a (by simp)
            obtain ⟨v, h5, hRv⟩ := HI.out.box
            obtain ⟨hc5, hf5⟩ := cell_of_box' h5
            obtain ⟨Av, n, cv, rfl⟩ : ∃ A n c, v = .slice A n c := ⟨_, _, _, (Kd.R_slice hRv).choose_spec.choose_spec⟩
            have hn : n = ol'.length + 1 := by have := (Kd.R_reads' hRv).1; simpa using this
            have hl : n ≤ 1000000000 := by have := HL.out; simp at this; omega
            have hsub : wrap64 ((n : Int) - 1) = (ol'.length : Int) := by unfold wrap64; omega
            obtain ⟨ad, eav, hca⟩ := Kd.at_int (Kd.R_reads' hRv).2.2 (ol'.length : Int) (by omega) (by simp only [List.length_append, List.length_cons, List.length_nil]; omega)
            subst eav
            have hrd : rd (ol' ++ [a]) (ol'.length : Int) = a := by simp [rd]
            rw [hrd, Int.toNat_natCast] at hca
            obtain ⟨i3, hi3, _, _, _⟩ := info_parts info3
            have hcut := cut_to (P := Try.prog) 23 3 .i64 Try.underlying23 hi3 (some ad) n cv (ol'.length : Int) (by omega) (by omega) (Kd.R_reads' hRv).2.1
            simp only [Int.toNat_natCast] at hcut
            have hcv0 : ol'.length ≤ cv := by have := (Kd.R_reads' hRv).2.1; omega
            have hRp := Kd.R_take (m := ol'.length) hRv (by simp)
            rw [List.take_left' rfl] at hRp
            have HI1 := Aside0.mk (HI.out.pop (by have := HW.out; omega) (by have := HW.out; omega) hbL hD hRp)
            have hlook := HI1.out.map.look (x := a) (wf64_of (by omega) (by omega))
            clear h5 hRv hRp hG HA
            have HH := Aside0.mk H
            clear H
            cases hct : s.contains a with
            | true =>
              rw [hct] at hlook
              have HN : Aside0 (bodyLoop (predsL l0) k1 ol' s = some sf) := ⟨by have := HH.out; rwa [if_pos hct] at this⟩
              have HL' : Aside0 (ol'.length ≤ 1000000000) := ⟨by omega⟩
              have HG' : Aside0 (∀ x ∈ ol', 0 ≤ x ∧ x < l0.length) := ⟨fun x hx => HG.out x (by simp [hx])⟩
              go_wp2
              go_roundg k1
              case measure => omega
              case rel => exact ⟨ol', s, HN, HI1, HL', HG'⟩
            | false =>
              rw [hct] at hlook
              have H := HH.out
              rw [if_neg (by rw [hct]; simp)] at H
              split at H
              case isFalse => cases H
              rename_i hcond
              obtain ⟨hq0, hq1, hq2, hq3⟩ := hcond
              have HN : Aside0 (bodyLoop (predsL l0) k1 (ol' ++ (predsL l0).getD a.toNat []) (a :: s) = some sf) := ⟨H⟩
              clear H HH
              obtain ⟨W2', hrun, hM', hg'⟩ := HI1.out.map.put (x := a) true (wf64_of (by omega) (by omega)) (by unfold maxLen; omega)
              have hfn : (fun y => if y = a then true else s.contains y) = fun y => (a :: s).contains y := by
                funext y
                by_cases hy : y = a <;> simp [hy]
              rw [hfn] at hM'
              have HI2 := Aside0.mk (HI1.out.put (s' := a :: s) (by have := HW.out; omega) (by have := HW.out; omega) hbL hD hg' hM')
              clear hM' hg' hfn
              go_wp2
              clear hrun hlook hcut hcv0 hca hc5 hf5 hX5 hsub
              have hX5 : ∀ k, k < W5.heap.size → W2'.heap[k]? = W5.heap[k]? := fun k hk => (HI2.out.stay k (by have := HW.out; omega) (by omega)).trans ((HBL.out.block k (by have := HW.out; omega)).trans (HB57.out.block k hk))
              obtain ⟨v, h5, hRv⟩ := HI2.out.box
              obtain ⟨v, h5, hRv, hvv⟩ : ∃ v, W2'.heap[W6.heap.size]? = some (.cells #[v] 23 (0, 0)) ∧ (Kd.int .i64).R 3 W2' wL.heap.size (fun _ => True) v ol' ∧ True := ⟨v, h5, hRv, trivial⟩
              obtain ⟨hc5, hf5⟩ := cell_of_box' h5
              obtain ⟨Av, n', cv', rfl⟩ : ∃ A n c, v = .slice A n c := ⟨_, _, _, (Kd.R_slice hRv).choose_spec.choose_spec⟩
              obtain ⟨i, rfl⟩ := Int.eq_ofNat_of_zero_le hq0
              have hpl := predsL_length l0
              obtain ⟨adp, _, _, eap, _⟩ := at_L1 (Kd.S_reads' KP.out).2.2 (i : Int) (by omega) (by omega)
              subst eap
              obtain ⟨Ar, cr, hxr, hRow⟩ := row_own (Kd.S_mono (ok' := fun _ => True) KP.out (fun _ _ => trivial)) i (by omega)
              obtain ⟨row, hrow⟩ : ∃ row, rd_L1 (predsL l0) i = row := ⟨_, rfl⟩
              have hrow2 : (predsL l0).getD (i : Int).toNat [] = row := hrow
              rw [hrow] at hxr hRow
              rw [hrow2] at HN hq2
              have hxr2 : W2'.cell? (adp.add i) = some (.slice Ar row.length cr) := (World.cell?_of_block (hX5 _ (World.block_lt_of_cell? _ _ hxr))).trans hxr
              have hRow2 := (Kd.R_reads' (Kd.R_step (Kd.R_bound hRow) (fun k hk hlt => hX5 k hlt))).2.2
              have hRow3 := Kd.C_drew hRow2
              have HRowIn : Aside0 (∀ x ∈ row, 0 ≤ x ∧ x < l0.length) := ⟨by
                rw [← hrow2]
                intro x hx
                exact predsL_in l0 _ (getD_mem' _ _ x hx) x hx⟩
              have HRW := Aside0.mk hRow3
              have H5 := Aside0.mk h5
              have HRv := Aside0.mk hRv
              have HQ2 := Aside0.mk hq2
              clear hRow hRow2 hRow3 h5 hRv hX5 hrow hrow2 hq2 hpl
              refine start_ (n := 7) (S := fun w' => w'.cell? ⟨W6.heap.size, 0, none⟩ = some (.slice Av n' cv') ∧ w'.cell? (adp.add i) = some (.slice Ar row.length cr)) (ds := [5, 6]) #[false, false, false, false, false, false, false] (by kernel_rfl) rfl rfl ⟨hc5, hxr2⟩ (fun hHeld => ?_)
              have R1 := Aside0.mk (Kd.R_drew HRv.out)
              have D1 : Aside0 (∀ W', W2'.drew.grownBy W' (Value.slice Av n' cv').ownBlock → W2'.grownBy W' (Value.slice Av n' cv').ownBlock) := ⟨fun W7 h => ⟨h.os, h.tape, h.output, h.size, h.block⟩⟩
              have F1 : Aside0 (wL.heap.size ≤ W2'.drew.heap.size) := ⟨HI2.out.far⟩
              obtain ⟨Wd, hWd⟩ : ∃ Wd, W2'.drew = Wd := ⟨_, rfl⟩
              rw [hWd] at hHeld HRW R1 D1 F1 ⊢
              clear hWd hc5 hf5 hxr2
              refine pure_ (i := 1) (N := some 66) (v := ?_) (a' := ?_) #[false, true, false, false, false, false, false] rfl rfl (by kernel_rfl) (fun _ _ _ h => h) (Or.inl ⟨by rfl, ?_⟩) ?_ ?_
              rotate_left
              · intro w'
                go_simp
                with_reducible rfl
              rotate_left
              · simp only [Act.put, List.setIfInBounds_toArray, List.set_cons_zero, List.set_cons_succ]
                rfl
              refine pure_ (i := 2) (N := some 67) (v := ?_) (a' := ?_) #[false, true, true, false, false, false, false] rfl rfl (by kernel_rfl) (fun _ _ _ h => h) (Or.inl ⟨by rfl, ?_⟩) ?_ ?_
              rotate_left
              · intro w'
                go_simp
                with_reducible rfl
              rotate_left
              · simp only [Act.put, List.setIfInBounds_toArray, List.set_cons_zero, List.set_cons_succ]
                rfl
              refine pure_ (i := 3) (N := some 68) (v := ?_) (a' := ?_) #[false, true, true, true, false, false, false] rfl rfl (by kernel_rfl) (fun _ _ _ h => h) (Or.inl ⟨by rfl, ?_⟩) ?_ ?_
              rotate_left
              · intro w'
                go_simp
                with_reducible rfl
              rotate_left
              · simp only [Act.put, List.setIfInBounds_toArray, List.set_cons_zero, List.set_cons_succ]
                rfl
              refine take_ (i := 0) (N := some 65) (v := ?_) (a' := ?_) #[true, true, true, true, false, false, false] rfl rfl (by kernel_rfl) (fun _ _ _ h => h) (Or.inl ⟨by rfl, ?_⟩) (by assumption) ?_ ?_
              rotate_left
              · rintro w' ⟨s0, s1⟩
                go_simp
                with_reducible rfl
              rotate_left
              · simp only [Act.put, List.setIfInBounds_toArray, List.set_cons_zero, List.set_cons_succ]
                rfl
              refine take_ (i := 4) (N := some 69) (v := ?_) (a' := ?_) #[true, true, true, true, true, false, false] rfl rfl (by kernel_rfl) (fun _ _ _ h => h) (Or.inl ⟨by rfl, ?_⟩) (by assumption) ?_ ?_
              rotate_left
              · rintro w' ⟨s0, s1⟩
                go_simp
                with_reducible rfl
              rotate_left
              · simp only [Act.put, List.setIfInBounds_toArray, List.set_cons_zero, List.set_cons_succ]
                rfl
              refine last_ (i := 5) (N := some 70) #[true, true, true, true, true, true, false] rfl rfl (by kernel_rfl) (by decide) (fun K hK => ?_)
              refine Kd.R_append_rows_step (Kd.int .i64) (Rr := (Kd.int .i64).K Wd) (w0 := Wd) (W := Wd) wL.heap.size (by rfl) (.tmp 65) (.tmp 69) 23 3 (.int .i64 0) 8 rfl Try.underlying23 info3 rfl (by decide) (by omega) (.slice Av n' cv') ol' row Ar row.length cr (fun _ => True) (fun _ => False) rfl rfl ?aO ?aR ?aK (fun _ hk => hk.elim) (fun _ _ => trivial) (Below.refl _ _) F1.out ?aL ?_
              case aO => exact R1.out
              case aR => exact HRW.out
              case aK => exact fun _ _ h => h
              case aL => have := HQ2.out; simp only [List.length_append] at this; omega
              intro v70 W8 hR8 hb8 hg8 hat8
              obtain ⟨A70, n70, c70, rfl⟩ : ∃ A n c, v70 = .slice A n c := ⟨_, _, _, (Kd.R_slice hR8).choose_spec.choose_spec⟩
              have hgr := HI2.out.grow (by have := HW.out; omega) hbL (by have := HW.out; omega) H5.out HRv.out (D1.out _ hg8)
              obtain ⟨hc58, hf58⟩ := cell_of_box' hgr.1
              have HI3 := Aside0.mk (HI2.out.app (by have := HW.out; omega) (by have := HW.out; omega) hbL hD H5.out HRv.out (D1.out _ hg8) hR8)
              clear hR8 hb8 hg8 hat8 hgr
              refine hK.out _ _ ?_
              clear hK K
              refine norm_ (a' := ?_) ?_ ?_
              rotate_left
              · show Act.put _ (some 70) _ = _
                simp only [Act.put, List.setIfInBounds_toArray, List.set_cons_zero, List.set_cons_succ]
                rfl
              refine last_ (i := 6) (N := none) #[true, true, true, true, true, true, true] rfl rfl (by kernel_rfl) (by decide) (fun K hK => ?_)
              refine skip_ (w1 := W8.setCell ⟨W6.heap.size, 0, none⟩ (.slice A70 n70 c70)) (by rfl) rfl ?_ ?_
              · go_simp
              · refine hK.out _ _ ?_
                refine done_ (by kernel_rfl) ?_
                clear hK K
                go_wp2
                go_roundg k1
                case measure => omega
                case rel => exact ⟨ol' ++ row, (i : Int) :: s, HN, HI3, HQ2, ⟨fun x hx => by
                  rcases List.mem_append.1 hx with hx | hx
                  · exact HG.out x (by simp [hx])
                  · exact HRowIn.out x hx⟩⟩
  case stop =>
    rintro D c pre W _ _ h _
    exact h.elim
end Go.Proofs.Ytnmeomdjhjgnfaa.X
end
section
/-! jacquardref02.Pairs: the contract, by hand (arrays of two numbers are compared). -/
set_option linter.unusedSimpArgs false
namespace Go.Proofs.Ytnmeomdjhjgnfaa.X
open Go.RowKit Go.Proofs.YtnmeomdjhjgnfaaW.PrintWords Go.Proofs.YtnmeomdjhjgnfaaW.PrintLast Go.Proofs.YtnmeomdjhjgnfaaW.PrintMore
set_option linter.unusedVariables false

theorem eq3 (d : Nat) (w : World) (a c : Int) : (Op.equalIn (d + 1) 3 (.int .i64 a) (.int .i64 c)).run Try.prog w = .ok (a == c) w := by
  have h3 : Try.prog.underlying 3 = some (.int .i64) := by kernel_rfl
  simp [Op.equalIn, run_underlying h3]
theorem part73a (w : World) (a b : Int) : (part 3 #[.int .i64 a, .int .i64 b] 0).run Try.prog w = .ok (.int .i64 a) w := by kernel_rfl
theorem part73b (w : World) (a b : Int) : (part 3 #[.int .i64 a, .int .i64 b] 1).run Try.prog w = .ok (.int .i64 b) w := by kernel_rfl
theorem size3 (w : World) : (sizeOf 3).run Try.prog w = .ok 1 w := by kernel_rfl
theorem eq73 (d : Nat) (w : World) (a b c e : Int) : (Op.equalIn (d + 2) 73 (.agg #[.int .i64 a, .int .i64 b]) (.agg #[.int .i64 c, .int .i64 e])).run Try.prog w = .ok (a == c && b == e) w := by
  have h73 : Try.prog.underlying 73 = some (.array 2 3) := by kernel_rfl
  rw [Op.equalIn]
  simp only [Sem.run_bind, run_underlying h73, Result.andThen_ok, size3]
  simp only [Std.Legacy.Range.forIn_eq_forIn_range', Std.Legacy.Range.size]
  by_cases h1 : a = c <;> by_cases h2 : b = e <;> simp [List.range'_succ, part73a, part73b, eq3, h1, h2]
theorem neq73 (w : World) (a b c e : Int) : (binOp .neq 73 (.agg #[.int .i64 a, .int .i64 b]) (.agg #[.int .i64 c, .int .i64 e])).run Try.prog w = .ok (.bool (!(a == c && b == e))) w := by
  simp only [binOp]
  simp [Op.equal, Op.maxDepth, eq73 9998 w a b c e]

def pr (s : S73) : Int × Int := (s.f0, s.f1)
theorem pairs_at (l0 l1 : List S73) (hl : l0.length = l1.length) : (l0.map pr = l1.map pr) ↔ ∀ i : Nat, i < l0.length → (rd_T73 l0 i).f0 = (rd_T73 l1 i).f0 ∧ (rd_T73 l0 i).f1 = (rd_T73 l1 i).f1 := by
  constructor
  · intro h i hi
    have := congrArg (fun l => l[i]?) h
    have hi1 : i < l1.length := hl ▸ hi
    simp only [List.getElem?_map, List.getElem?_eq_getElem hi, List.getElem?_eq_getElem hi1, Option.map_some, pr, Option.some.injEq, Prod.mk.injEq] at this
    simpa [rd_T73, List.getD_eq_getElem?_getD, hi, hi1] using this
  · intro h
    refine List.ext_getElem (by simpa using hl) ?_
    intro i h0 h1
    simp only [List.length_map] at h0 h1
    have := h i h0
    simp [rd_T73, List.getD_eq_getElem?_getD, h0, h1] at this
    simp [pr, this.1, this.2]
set_option maxHeartbeats 4000000 in
set_option maxRecDepth 100000 in
theorem jacquardref02_Pairs.calls (A0 : Option Addr) (c0 : Nat) (l0 : List S73) (A1 : Option Addr) (c1 : Nat) (l1 : List S73) (r : Bool) (w : World) (hr0 : Kd.C k73 w A0 l0.length l0) (hc0 : l0.length ≤ c0) (hr1 : Kd.C k73 w A1 l1.length l1) (hc1 : l1.length ≤ c1) (h : jacquardref02_Pairs.f l0 l1 = some r) :
    Calls Try.prog 61 #[.slice A0 l0.length c0, .slice A1 l1.length c1] w fun e w' => e = .returned (.bool r) ∧ Drawn0 w w' := by
  have HR0 := Aside0.mk hr0
  have HR1 := Aside0.mk hr1
  have HF : Aside0 (r = decide (l0.map pr = l1.map pr)) := ⟨by unfold jacquardref02_Pairs.f at h; exact (Option.some.inj h).symm⟩
  have hm0 : l0.length ≤ 9223372036854775807 := Kd.C_max hr0
  clear hr0 hr1 h hc0 hc1
  have hu73 := Try.underlying73
  have hneq := fun w a b c e => neq73 w a b c e
  by_cases hl : l0.length = l1.length
  · have HL := Aside0.mk hl
    clear hl
    have e1 : ((l0.length : Int) == (l1.length : Int)) = true := by rw [HL.out]; simp
    have e2 : ((l0.length : Int) != (l1.length : Int)) = false := by rw [HL.out]; simp
    go_enter Try.func61, Try.ntmps61
    go_wp2
    go_loopg [5] (l0.length) (fun kq v5 w' => ∃ i : Nat, v5 = .int .i64 i ∧ Aside0 (kq + i = l0.length) ∧ Aside0 (∀ j : Nat, j < i → (rd_T73 l0 j).f0 = (rd_T73 l1 j).f0 ∧ (rd_T73 l0 j).f1 = (rd_T73 l1 j).f1) ∧ Aside0 (Drawn0 w w'))
    case atStart => exact ⟨0, rfl, ⟨rfl⟩, ⟨fun j hj => by omega⟩, ⟨Drawn0.refl w⟩⟩
    case round =>
      obtain ⟨i, rfl, HI, HA, HD⟩ := hrel
      clear e1 e2
      cases gk with
      | zero =>
        have hi : i = l0.length := by have := HI.out; omega
        subst hi
        have HR : Aside0 (r = true) := ⟨by rw [HF.out]; exact decide_eq_true ((pairs_at l0 l1 HL.out).2 HA.out)⟩
        go_wp2
        go_ret
        exact ⟨by rw [HR.out]; rfl, HD.out⟩
      | succ k1 =>
        have hi : i < l0.length := by have := HI.out; omega
        obtain ⟨ad, rfl, h00, h01⟩ := at_T73 HR0.out (i : Int) (by omega) (by omega)
        obtain ⟨ae, rfl, h10, h11⟩ := at_T73 HR1.out (i : Int) (by omega) (by have := HL.out; omega)
        replace h00 := (HD.out.below.cell (World.block_lt_of_cell? w _ h00)).trans h00
        replace h01 := (HD.out.below.cell (World.block_lt_of_cell? w _ h01)).trans h01
        replace h10 := (HD.out.below.cell (World.block_lt_of_cell? w _ h10)).trans h10
        replace h11 := (HD.out.below.cell (World.block_lt_of_cell? w _ h11)).trans h11
        have hi1 : i < l1.length := by have := HL.out; omega
        simp only [Int.toNat_natCast] at h00 h01 h10 h11
        by_cases q0 : (rd_T73 l0 i).f0 = (rd_T73 l1 i).f0
        · by_cases q1 : (rd_T73 l0 i).f1 = (rd_T73 l1 i).f1
          · have b0 : ((rd_T73 l0 i).f0 == (rd_T73 l1 i).f0) = true := by simpa using q0
            have b1 : ((rd_T73 l0 i).f1 == (rd_T73 l1 i).f1) = true := by simpa using q1
            have HA2 : Aside0 (∀ j : Nat, j < i + 1 → (rd_T73 l0 j).f0 = (rd_T73 l1 j).f0 ∧ (rd_T73 l0 j).f1 = (rd_T73 l1 j).f1) := ⟨fun j hj => by
              by_cases hji : j = i
              · rw [hji]; exact ⟨q0, q1⟩
              · exact HA.out j (by omega)⟩
            clear q0 q1 HA
            go_wp2
            go_quiet (fail)
            go_wp2
            go_roundg k1
            case measure => omega
            case rel => exact ⟨i + 1, by go_num, ⟨by have := HI.out; omega⟩, HA2, ⟨HD.out.step _⟩⟩
          · have HR : Aside0 (r = false) := ⟨by rw [HF.out]; exact decide_eq_false (fun e => q1 ((pairs_at l0 l1 HL.out).1 e i hi).2)⟩
            have b1 : ((rd_T73 l0 i).f1 == (rd_T73 l1 i).f1) = false := by simpa using q1
            have b0 : ((rd_T73 l0 i).f0 == (rd_T73 l1 i).f0) = true := by simpa using q0
            clear q0 q1
            go_wp2
            go_quiet (fail)
            go_wp2
            go_ret
            exact ⟨by rw [HR.out]; rfl, HD.out.step _⟩
        · have HR : Aside0 (r = false) := ⟨by rw [HF.out]; exact decide_eq_false (fun e => q0 ((pairs_at l0 l1 HL.out).1 e i hi).1)⟩
          have b0 : ((rd_T73 l0 i).f0 == (rd_T73 l1 i).f0) = false := by simpa using q0
          clear q0
          go_wp2
          go_quiet (fail)
          go_wp2
          go_ret
          exact ⟨by rw [HR.out]; rfl, HD.out.step _⟩
  · have HR : Aside0 (r = false) := ⟨by rw [HF.out]; exact decide_eq_false (fun e => hl (by simpa using congrArg List.length e))⟩
    have e1 : ((l0.length : Int) == (l1.length : Int)) = false := by simpa using (fun e => hl (by omega) : ¬ (l0.length : Int) = l1.length)
    have e2 : ((l0.length : Int) != (l1.length : Int)) = true := by simpa using (fun e => hl (by omega) : ¬ (l0.length : Int) = l1.length)
    go_enter Try.func61, Try.ntmps61
    go_wp2
    go_ret
    exact ⟨by rw [HR.out]; rfl, Drawn0.refl w⟩
end Go.Proofs.Ytnmeomdjhjgnfaa.X
end
section
-- written by a driver of this session (wip/xprint.py) over the kit's print, for this claim; Lean checks it
namespace Go.Proofs.Ytnmeomdjhjgnfaa.X
open Go.RowKit Go.Proofs.YtnmeomdjhjgnfaaW.PrintWords Go.Proofs.YtnmeomdjhjgnfaaW.PrintLast Go.Proofs.YtnmeomdjhjgnfaaW.PrintMore
attribute [local go_sem] max2_int min2_int max_two min_two max_three min_three max_four min_four   -- for this text's walks alone
set_option linter.unusedVariables false
set_option linter.unusedSimpArgs false

/-! ### jacquardref02_Nums: function 60 -/
def jacquardref02_Nums.l0 : Nat → List Int → List Int → Int → Option (Bool)
  | 0, _, _, _ => none
  | k + 1, x0, x1, x5 => if x5 < (x0.length : Int) then (if 0 ≤ x5 then (if x5 < (x1.length : Int) then (if (rd x0 x5) = (rd x1 x5) then (jacquardref02_Nums.l0 k x0 x1 (wrap64 (x5 + 1))) else (some false)) else (none)) else (none)) else (some true)
def jacquardref02_Nums.f (k : Nat) (l0 : List Int) (l1 : List Int) : Option (Bool) := if (l0.length : Int) = (l1.length : Int) then (jacquardref02_Nums.l0 k l0 l1 0) else (some false)
theorem jacquardref02_Nums.mono_l : ∀ k, (∀ y0 y1 y2, LeO (jacquardref02_Nums.l0 k y0 y1 y2) (jacquardref02_Nums.l0 (k + 1) y0 y1 y2))
  | 0 => fun _ _ _ r h => by simp [jacquardref02_Nums.l0] at h
  | k + 1 => by
    have ih0 := jacquardref02_Nums.mono_l k
    · intro y0 y1 y2
      unfold jacquardref02_Nums.l0
      repeat' first
      | (with_reducible exact ih0 _ _ _)
      | (with_reducible exact LeO.refl _)
      | (with_reducible exact LeO.none _)
      | (with_reducible refine LeO.ite ?_ ?_)
      | (with_reducible refine LeO.bind ?_ (fun _ => ?_))
      | exact ih0 _ _ _
      | exact LeO.none _
      | refine LeO.ite ?_ ?_
      | refine LeO.bind ?_ (fun _ => ?_)
theorem jacquardref02_Nums.mono : ∀ a0 a1 k, LeO (jacquardref02_Nums.f k a0 a1) (jacquardref02_Nums.f (k + 1) a0 a1) := by
  intro a0 a1 k
  have ih0 := jacquardref02_Nums.mono_l k
  unfold jacquardref02_Nums.f
  repeat' first
      | (with_reducible exact ih0 _ _ _)
      | (with_reducible exact LeO.refl _)
      | (with_reducible exact LeO.none _)
      | (with_reducible refine LeO.ite ?_ ?_)
      | (with_reducible refine LeO.bind ?_ (fun _ => ?_))
      | exact ih0 _ _ _
      | exact LeO.none _
      | refine LeO.ite ?_ ?_
      | refine LeO.bind ?_ (fun _ => ?_)
set_option maxHeartbeats 8000000 in
set_option maxRecDepth 100000 in
theorem jacquardref02_Nums.calls (k : Nat) (A0 : Option Addr) (c0 : Nat) (l0 : List Int) (A1 : Option Addr) (c1 : Nat) (l1 : List Int) (r : Bool) (w : World) (hr0 : Kd.C (Kd.int .i64) w A0 l0.length l0) (hc0 : l0.length ≤ c0) (hr1 : Kd.C (Kd.int .i64) w A1 l1.length l1) (hc1 : l1.length ≤ c1) (h : jacquardref02_Nums.f k l0 l1 = some r) :
    Calls Try.prog 60 #[.slice A0 l0.length c0, .slice A1 l1.length c1] w fun e w' => e = .returned (.bool r) ∧ Drawn0 w w' := by
  have HR0 := Aside0.mk hr0
  have HC0 := Aside0.mk hc0
  clear hr0 hc0
  have HR1 := Aside0.mk hr1
  have HC1 := Aside0.mk hc1
  clear hr1 hc1
  have H : (if (l0.length : Int) = (l1.length : Int) then (jacquardref02_Nums.l0 k l0 l1 0) else (some false)) = some r := h
  clear h
  by_cases c3 : (l0.length : Int) = (l1.length : Int)
  · rw [if_pos c3] at H
    have c3b0 : ((l0.length : Int) == (l1.length : Int)) = true := beq_iff_eq.mpr c3
    have c3b1 : ((l0.length : Int) != (l1.length : Int)) = false := bne_eq_false_iff_eq.mpr c3
    have c3b2 : (l0.length == l1.length) = true := by first | simpa using c3 | (simp at c3 ⊢; omega)
    clear c3
    have H' := Aside0.mk H
    clear H
    go_enter Try.func60, Try.ntmps60
    go_wp2
    repeat (go_quiet (fail); try go_wp2)
    go_loopg [5] k (fun kq v5 w' => ∃ (x5_1 : Int), v5 = .int .i64 x5_1 ∧ Aside0 (jacquardref02_Nums.l0 kq l0 l1 x5_1 = some r) ∧ Aside0 (kq ≤ k) ∧ Drawn0 w w')
    case atStart => exact ⟨(0), (by first | rfl | (simp; done) | (simp [*]; done)), H', ⟨Nat.le_refl _⟩, by repeat (first | exact Drawn0.refl _ | apply Drawn0.step)⟩
    case round =>
      clear H'; (try clear c1); (try clear p2); (try clear c3); (try clear c3b0); (try clear c3b1); (try clear c3b2)
      obtain ⟨x5_1, rfl, HA, HK1, ⟨m1, rfl⟩⟩ := hrel
      cases gk with
      | zero => exact absurd HA.out (by simp [jacquardref02_Nums.l0])
      | succ k1 =>
        have H := HA.out
        clear HA
        simp only [jacquardref02_Nums.l0] at H
        by_cases c4 : x5_1 < (l0.length : Int)
        · rw [if_pos c4] at H
          have c4b0 : decide (x5_1 < (l0.length : Int)) = true := decide_eq_true c4
          clear c4
          by_cases c5 : 0 ≤ x5_1
          · rw [if_pos c5] at H
            have c5b0 : decide (0 ≤ x5_1) = true := decide_eq_true c5
            clear c5
            by_cases c6 : x5_1 < (l1.length : Int)
            · rw [if_pos c6] at H
              have c6b0 : decide (x5_1 < (l1.length : Int)) = true := decide_eq_true c6
              clear c6
              by_cases c7 : (rd l0 x5_1) = (rd l1 x5_1)
              · rw [if_pos c7] at H
                have c7b0 : ((rd l0 x5_1) == (rd l1 x5_1)) = true := beq_iff_eq.mpr c7
                have c7b1 : ((rd l0 x5_1) != (rd l1 x5_1)) = false := bne_eq_false_iff_eq.mpr c7
                clear c7
                have H' := Aside0.mk H
                clear H
                have p137 : 0 ≤ (x5_1 : Int) := of_decide_eq_true (by first | (with_reducible assumption) | assumption)
                have q137 : x5_1 < (l0.length : Int) := of_decide_eq_true (by first | (with_reducible assumption) | assumption)
                obtain ⟨ad137, e137, hx137_0⟩ := Kd.at_int HR0.out x5_1 p137 q137
                cases e137
                replace p137 := eq_true p137
                replace q137 := eq_true q137
                have p138 : 0 ≤ (x5_1 : Int) := of_decide_eq_true (by first | (with_reducible assumption) | assumption)
                have q138 : x5_1 < (l1.length : Int) := of_decide_eq_true (by first | (with_reducible assumption) | assumption)
                obtain ⟨ad138, e138, hx138_0⟩ := Kd.at_int HR1.out x5_1 p138 q138
                cases e138
                replace p138 := eq_true p138
                replace q138 := eq_true q138
                go_wp2
                repeat (go_quiet (fail); try go_wp2)
                go_roundg k1
                case measure => have := HK1.out; omega
                case rel => exact ⟨(wrap64 (x5_1 + 1)), (by first | rfl | (simp; done) | (simp [*]; done)), H', ⟨by have := HK1.out; omega⟩, by repeat (first | exact Drawn0.refl _ | apply Drawn0.step)⟩
              · rw [if_neg c7] at H
                have c7b0 : ((rd l0 x5_1) == (rd l1 x5_1)) = false := beq_eq_false_iff_ne.mpr c7
                have c7b1 : ((rd l0 x5_1) != (rd l1 x5_1)) = true := bne_iff_ne.mpr c7
                obtain rfl := Option.some.inj H
                have p137 : 0 ≤ (x5_1 : Int) := of_decide_eq_true (by first | (with_reducible assumption) | assumption)
                have q137 : x5_1 < (l0.length : Int) := of_decide_eq_true (by first | (with_reducible assumption) | assumption)
                obtain ⟨ad137, e137, hx137_0⟩ := Kd.at_int HR0.out x5_1 p137 q137
                cases e137
                replace p137 := eq_true p137
                replace q137 := eq_true q137
                have p138 : 0 ≤ (x5_1 : Int) := of_decide_eq_true (by first | (with_reducible assumption) | assumption)
                have q138 : x5_1 < (l1.length : Int) := of_decide_eq_true (by first | (with_reducible assumption) | assumption)
                obtain ⟨ad138, e138, hx138_0⟩ := Kd.at_int HR1.out x5_1 p138 q138
                cases e138
                replace p138 := eq_true p138
                replace q138 := eq_true q138
                go_wp2
                repeat (go_quiet (fail); try go_wp2)
                go_ret
                exact ⟨by first | rfl | (simp; done) | (simp [*]; done), by repeat (first | exact Drawn0.refl _ | apply Drawn0.step)⟩
            · rw [if_neg c6] at H
              exact absurd H (by simp)
          · rw [if_neg c5] at H
            exact absurd H (by simp)
        · rw [if_neg c4] at H
          have c4b0 : decide (x5_1 < (l0.length : Int)) = false := decide_eq_false c4
          clear c4
          obtain rfl := Option.some.inj H
          go_wp2
          repeat (go_quiet (fail); try go_wp2)
          go_ret
          exact ⟨by first | rfl | (simp; done) | (simp [*]; done), by repeat (first | exact Drawn0.refl _ | apply Drawn0.step)⟩
  · rw [if_neg c3] at H
    have c3b0 : ((l0.length : Int) == (l1.length : Int)) = false := beq_eq_false_iff_ne.mpr c3
    have c3b1 : ((l0.length : Int) != (l1.length : Int)) = true := bne_iff_ne.mpr c3
    have c3b2 : (l0.length == l1.length) = false := by first | simpa using c3 | (simp at c3 ⊢; omega)
    obtain rfl := Option.some.inj H
    go_enter Try.func60, Try.ntmps60
    go_wp2
    repeat (go_quiet (fail); try go_wp2)
    go_ret
    exact ⟨by first | rfl | (simp; done) | (simp [*]; done), by repeat (first | exact Drawn0.refl _ | apply Drawn0.step)⟩

end Go.Proofs.Ytnmeomdjhjgnfaa.X
end
section
/-! The laws' awake, by hand: all at known graphs. -/
set_option linter.unusedSimpArgs false
namespace Go.Proofs.Ytnmeomdjhjgnfaa.X
open Go.RowKit Go.Shelf Go.Proofs.YtnmeomdjhjgnfaaW.PrintWords Go.Proofs.YtnmeomdjhjgnfaaW.PrintLast Go.Proofs.YtnmeomdjhjgnfaaW.PrintMore
set_option linter.unusedVariables false
set_option maxRecDepth 100000

def gA : List (List Int) := [[1,2],[3],[3],[1]]
def gB : List (List Int) := [[1],[2,3],[1],[]]
def gC : List (List Int) := [[1,2],[2],[]]
theorem aw1 : graph_Order.f 100 gA = some [0,2,1,3] := by kernel_rfl
theorem aw2 : graph_Idom.f 100 gA = some [-1,0,0,0] := by kernel_rfl
theorem aw3 : graph_Body.f 100 gB 1 = some [1,2] := by kernel_rfl
theorem aw4 : graph_Critical.f gC = some [⟨0,2⟩] := by kernel_rfl
theorem aw5 : graph_Reducible.f 100 gA = some false := by kernel_rfl
theorem aw6 : graph_Reducible.f 100 gB = some true := by kernel_rfl
theorem aw7 : graph_Headers.f 100 gA = some [] := by kernel_rfl
theorem aw8 : jacquardref02_Nums.f 100 [0,2,1,3] [0,2,1,3] = some true := by kernel_rfl
theorem aw9 : jacquardref02_Nums.f 100 [-1,0,0,0] [-1,0,0,0] = some true := by kernel_rfl
theorem aw10 : jacquardref02_Nums.f 100 [1,2] [1,2] = some true := by kernel_rfl
theorem aw11 : jacquardref02_Pairs.f [⟨0,2⟩] [⟨0,2⟩] = some true := by kernel_rfl

theorem C_ints {W : World} {b : Nat} {zs : List Int} (h : W.heap[b]? = some (.cells (zs.map (Value.int .i64)).toArray 3 (0, 0))) (hl : zs.length ≤ 9223372036854775807) : Kd.C (Kd.int .i64) W (some ⟨b, 0, none⟩) zs.length zs := by
  refine ⟨rfl, hl, fun _ => ⟨_, rfl, fun j p hp => ⟨[.int .i64 p], rfl, rfl, fun i u hu => ?_⟩⟩⟩
  have hi : i = 0 := by
    rcases Nat.eq_zero_or_pos i with h | h
    · exact h
    · rw [List.getElem?_eq_none (by simp; omega)] at hu; cases hu
  subst hi
  simp at hu
  subst hu
  rw [add_at]
  simp [World.cell?, h]
  rw [show j * (Kd.int .i64).sz = j from Nat.mul_one j]
  exact hp
theorem C_rows {W : World} {b : Nat} {rows : List (List Int)} {vs : List Value} (h : W.heap[b]? = some (.cells vs.toArray 23 (0, 0))) (hl : rows.length ≤ 9223372036854775807)
    (hv : ∀ (i : Nat) (row : List Int), rows[i]? = some row → ∃ A c, vs[i]? = some (Value.slice A row.length c) ∧ row.length ≤ c ∧ Kd.C (Kd.int .i64) W A row.length row) : Kd.C (Kd.slice 3 (Kd.int .i64)) W (some ⟨b, 0, none⟩) rows.length rows := by
  refine ⟨rfl, hl, fun _ => ⟨_, rfl, fun j p hp => ?_⟩⟩
  obtain ⟨A, c, hv, hc, hC⟩ := hv j p hp
  refine ⟨[.slice A p.length c], rfl, ⟨A, c, rfl, hc, hC⟩, fun i u hu => ?_⟩
  have hi : i = 0 := by
    rcases Nat.eq_zero_or_pos i with h | h
    · exact h
    · rw [List.getElem?_eq_none (by simp; omega)] at hu; cases hu
  subst hi
  simp at hu
  subst hu
  rw [add_at]
  simp [World.cell?, h]
  rw [show j * (Kd.slice 3 (Kd.int .i64)).sz = j from Nat.mul_one j]
  exact hv
theorem alloc_at (os : List Obj) : ∀ (w : World) (i : Nat), i < os.length → (os.foldl World.alloc w).heap[w.heap.size + i]? = os[i]? := by
  induction os with
  | nil => intro w i h; simp at h
  | cons o os ih =>
    intro w i h
    cases i with
    | zero =>
      have : ∀ (os : List Obj) (w : World) (k : Nat), k < w.heap.size → (os.foldl World.alloc w).heap[k]? = w.heap[k]? := by
        intro os
        induction os with
        | nil => intro w k _; rfl
        | cons o os ih => intro w k hk; rw [List.foldl_cons, ih _ _ (by simp; omega)]; exact (below_alloc (Below.refl _ w) o : Below w.heap.size w _).block k hk
      rw [List.foldl_cons, Nat.add_zero, this _ _ _ (by simp)]
      exact World.alloc_heap_new w o
    | succ i =>
      have := ih (w.alloc o) i (by simpa using h)
      rw [List.foldl_cons, List.getElem?_cons_succ, ← this]
      congr 1
      simp; omega
def iv (zs : List Int) : Obj := .cells (zs.map (Value.int .i64)).toArray 3 (0, 0)
def sl (b n : Nat) : Value := .slice (some ⟨b, 0, none⟩) n n
set_option maxHeartbeats 4000000 in
theorem jacquardlaw02_awake.calls (r : Bool) (w : World) (h : jacquardlaw02_awake.f = some r) :
    Calls Try.prog 22 #[] w fun e w' => e = .returned (.bool r) ∧ Below w.heap.size w w' := by
  obtain rfl : r = true := by unfold jacquardlaw02_awake.f at h; injection h with h; exact h.symm
  clear h
  go_enter Try.func22, Try.ntmps22
  go_wp2_with fail
  obtain ⟨W1, hW1⟩ : ∃ W1, ([iv [1,2], iv [3], iv [3], iv [1], .cells #[sl w.heap.size 2, sl (w.heap.size + 1) 1, sl (w.heap.size + 2) 1, sl (w.heap.size + 3) 1] 23, iv [1], iv [2,3], iv [1], iv [], .cells #[sl (w.heap.size + 5) 1, sl (w.heap.size + 6) 2, sl (w.heap.size + 7) 1, sl (w.heap.size + 8) 0] 23] : List Obj).foldl World.alloc w = W1 := ⟨_, rfl⟩
  have hA : ∀ i o, ([iv [1,2], iv [3], iv [3], iv [1], .cells #[sl w.heap.size 2, sl (w.heap.size + 1) 1, sl (w.heap.size + 2) 1, sl (w.heap.size + 3) 1] 23, iv [1], iv [2,3], iv [1], iv [], .cells #[sl (w.heap.size + 5) 1, sl (w.heap.size + 6) 2, sl (w.heap.size + 7) 1, sl (w.heap.size + 8) 0] 23] : List Obj)[i]? = some o → W1.heap[w.heap.size + i]? = some o := by
    intro i o h
    rw [← hW1, alloc_at _ _ _ (List.getElem?_eq_some_iff.1 h).1]
    exact h
  have hBW : Below w.heap.size w W1 := by
    rw [← hW1]
    exact below_alloc (below_alloc (below_alloc (below_alloc (below_alloc (below_alloc (below_alloc (below_alloc (below_alloc (below_alloc (Below.refl _ _) _) _) _) _) _) _) _) _) _) _
  have hCA : Kd.C (Kd.slice 3 (Kd.int .i64)) W1 (some ⟨w.heap.size + 4, 0, none⟩) gA.length gA := C_rows (hA 4 _ rfl) (by decide) (by
    intro i row hi
    match i, hi with
    | 0, hi => cases hi; exact ⟨_, _, rfl, Nat.le_refl _, C_ints (hA 0 _ rfl) (by decide)⟩
    | 1, hi => cases hi; exact ⟨_, _, rfl, Nat.le_refl _, C_ints (hA 1 _ rfl) (by decide)⟩
    | 2, hi => cases hi; exact ⟨_, _, rfl, Nat.le_refl _, C_ints (hA 2 _ rfl) (by decide)⟩
    | 3, hi => cases hi; exact ⟨_, _, rfl, Nat.le_refl _, C_ints (hA 3 _ rfl) (by decide)⟩
    | i + 4, hi => cases hi)
  have hCB : Kd.C (Kd.slice 3 (Kd.int .i64)) W1 (some ⟨w.heap.size + 9, 0, none⟩) gB.length gB := C_rows (hA 9 _ rfl) (by decide) (by
    intro i row hi
    match i, hi with
    | 0, hi => cases hi; exact ⟨_, _, rfl, Nat.le_refl _, C_ints (hA 5 _ rfl) (by decide)⟩
    | 1, hi => cases hi; exact ⟨_, _, rfl, Nat.le_refl _, C_ints (hA 6 _ rfl) (by decide)⟩
    | 2, hi => cases hi; exact ⟨_, _, rfl, Nat.le_refl _, C_ints (hA 7 _ rfl) (by decide)⟩
    | 3, hi => cases hi; exact ⟨_, _, rfl, Nat.le_refl _, C_ints (hA 8 _ rfl) (by decide)⟩
    | i + 4, hi => cases hi)
  have HCA := Aside0.mk hCA
  have HCB := Aside0.mk hCB
  have HBW := Aside0.mk hBW
  refine Calls.mono (show Calls Try.prog 26 #[.slice (some ⟨w.heap.size + 4, 0, none⟩) 4 4] _ _ from by have := graph_Order.calls 100 (some ⟨w.heap.size + 4, 0, none⟩) 4 gA _ W1 HCA.out (by decide) aw1; rw [← hW1] at this; exact this) ?_
  clear hCA hCB hBW hA
  rintro e W2 ⟨v, rfl, hR, hB⟩
  rw [hW1] at hB
  clear hW1
  obtain ⟨A, c, rfl⟩ := Kd.R_slice hR
  have H2 := Aside0.mk (And.intro (Kd.R_reads' hR).2.1 (Kd.R_reads' hR).2.2)
  have HB2 := Aside0.mk hB
  clear hR hB
  go_wp2_with fail
  have hA2 : (W2.alloc (iv [0,2,1,3])).heap[W2.heap.size]? = some (iv [0,2,1,3]) := World.alloc_heap_new _ _
  refine Calls.mono (jacquardref02_Nums.calls 100 A c [0,2,1,3] (some ⟨W2.heap.size, 0, none⟩) 4 [0,2,1,3] true (W2.alloc (iv [0,2,1,3])) (Kd.C_alloc H2.out.2 _) H2.out.1 (C_ints hA2 (by decide)) (by decide) aw8) ?_
  rintro e W3 ⟨rfl, hD⟩
  have HB3 := Aside0.mk ((below_alloc HB2.out (iv [0,2,1,3])).trans (hD.below.mono (by have := HB2.out.size; simp; omega)))
  clear hD hA2 H2 HB2
  go_wp2_with fail
  refine Calls.mono (graph_Idom.calls 100 (some ⟨w.heap.size + 4, 0, none⟩) 4 gA _ W3 (Kd.C_below HCA.out HB3.out) (by decide) aw2) ?_
  rintro e W4 ⟨v, rfl, hR, hB⟩
  obtain ⟨A, c, rfl⟩ := Kd.R_slice hR
  have H4 := Aside0.mk (And.intro (Kd.R_reads' hR).2.1 (Kd.R_reads' hR).2.2)
  have HB4 := Aside0.mk (HB3.out.trans (hB.mono HB3.out.size))
  clear hR hB
  go_wp2_with fail
  have hA4 : (W4.alloc (iv [-1,0,0,0])).heap[W4.heap.size]? = some (iv [-1,0,0,0]) := World.alloc_heap_new _ _
  refine Calls.mono (jacquardref02_Nums.calls 100 A c [-1,0,0,0] (some ⟨W4.heap.size, 0, none⟩) _ [-1,0,0,0] true (W4.alloc (iv [-1,0,0,0])) (Kd.C_alloc H4.out.2 _) H4.out.1 (C_ints hA4 (by decide)) (by decide) aw9) ?_
  rintro e W5 ⟨rfl, hD⟩
  have HB5 := Aside0.mk ((below_alloc HB4.out (iv [-1,0,0,0])).trans (hD.below.mono (by have := HB4.out.size; simp; omega)))
  clear hD hA4 H4 HB4 HB3
  go_wp2_with fail
  refine Calls.mono (graph_Body.calls 100 (some ⟨w.heap.size + 9, 0, none⟩) 4 gB 1 _ W5 (Kd.C_below HCB.out HB5.out) (by decide) aw3) ?_
  rintro e W6 ⟨v, rfl, hR, hB⟩
  obtain ⟨A, c, rfl⟩ := Kd.R_slice hR
  have H6 := Aside0.mk (And.intro (Kd.R_reads' hR).2.1 (Kd.R_reads' hR).2.2)
  have HB6 := Aside0.mk (HB5.out.trans (hB.mono HB5.out.size))
  clear hR hB
  go_wp2_with fail
  have hA6 : (W6.alloc (iv [1,2])).heap[W6.heap.size]? = some (iv [1,2]) := World.alloc_heap_new _ _
  refine Calls.mono (jacquardref02_Nums.calls 100 A c [1,2] (some ⟨W6.heap.size, 0, none⟩) _ [1,2] true (W6.alloc (iv [1,2])) (Kd.C_alloc H6.out.2 _) H6.out.1 (C_ints hA6 (by decide)) (by decide) aw10) ?_
  rintro e W7 ⟨rfl, hD⟩
  have HB7 := Aside0.mk ((below_alloc HB6.out (iv [1,2])).trans (hD.below.mono (by have := HB6.out.size; simp; omega)))
  clear hD hA6 H6 HB6 HB5
  go_wp2_with fail
  obtain ⟨W8, hW8⟩ : ∃ W8, ([iv [1,2], iv [2], iv [], .cells #[sl W7.heap.size 2, sl (W7.heap.size + 1) 1, sl (W7.heap.size + 2) 0] 23] : List Obj).foldl World.alloc W7 = W8 := ⟨_, rfl⟩
  have hA : ∀ i o, ([iv [1,2], iv [2], iv [], .cells #[sl W7.heap.size 2, sl (W7.heap.size + 1) 1, sl (W7.heap.size + 2) 0] 23] : List Obj)[i]? = some o → W8.heap[W7.heap.size + i]? = some o := by
    intro i o h
    rw [← hW8, alloc_at _ _ _ (List.getElem?_eq_some_iff.1 h).1]
    exact h
  have hBW : Below W7.heap.size W7 W8 := by
    rw [← hW8]
    exact below_alloc (below_alloc (below_alloc (below_alloc (Below.refl _ _) _) _) _) _
  have hCC : Kd.C (Kd.slice 3 (Kd.int .i64)) W8 (some ⟨W7.heap.size + 3, 0, none⟩) gC.length gC := C_rows (hA 3 _ rfl) (by decide) (by
    intro i row hi
    match i, hi with
    | 0, hi => cases hi; exact ⟨_, _, rfl, Nat.le_refl _, C_ints (hA 0 _ rfl) (by decide)⟩
    | 1, hi => cases hi; exact ⟨_, _, rfl, Nat.le_refl _, C_ints (hA 1 _ rfl) (by decide)⟩
    | 2, hi => cases hi; exact ⟨_, _, rfl, Nat.le_refl _, C_ints (hA 2 _ rfl) (by decide)⟩
    | i + 3, hi => cases hi)
  have HCC := Aside0.mk hCC
  have HB8 := Aside0.mk (HB7.out.trans (hBW.mono HB7.out.size))
  refine Calls.mono (show Calls Try.prog 48 #[.slice (some ⟨W7.heap.size + 3, 0, none⟩) 3 3] _ _ from by have := graph_Critical.calls (some ⟨W7.heap.size + 3, 0, none⟩) 3 gC _ W8 HCC.out (by decide) aw4; rw [← hW8] at this; exact this) ?_
  rintro e W9 ⟨v, rfl, hR, hB⟩
  rw [hW8] at hB
  clear hCC hA hBW hW8 HCC HB7
  obtain ⟨A, c, rfl⟩ := Kd.R_slice hR
  have H9 := Aside0.mk (And.intro (Kd.R_reads' hR).2.1 (Kd.R_reads' hR).2.2)
  have HB9 := Aside0.mk (HB8.out.trans (hB.mono HB8.out.size))
  clear hR hB HB8
  go_wp2_with fail
  have hA9 : (W9.alloc (.cells #[.int .i64 0, .int .i64 2] 73)).heap[W9.heap.size]? = some (.cells #[.int .i64 0, .int .i64 2] 73 (0, 0)) := World.alloc_heap_new _ _
  have hP : Kd.C k73 (W9.alloc (.cells #[.int .i64 0, .int .i64 2] 73)) (some ⟨W9.heap.size, 0, none⟩) ([⟨0, 2⟩] : List S73).length [⟨0, 2⟩] := by
    refine ⟨rfl, by decide, fun _ => ⟨_, rfl, fun j p hp => ?_⟩⟩
    match j, hp with
    | 0, hp =>
      cases hp
      refine ⟨[.int .i64 0, .int .i64 2], rfl, k73_mk _ ⟨0, 2⟩, fun i u hu => ?_⟩
      rw [add_at]
      match i, hu with
      | 0, hu => cases hu; exact blk_cell hA9 0
      | 1, hu => cases hu; exact blk_cell hA9 1
      | i + 2, hu => cases hu
    | j + 1, hp => cases hp
  refine Calls.mono (jacquardref02_Pairs.calls A c [⟨0, 2⟩] (some ⟨W9.heap.size, 0, none⟩) 1 [⟨0, 2⟩] true (W9.alloc (.cells #[.int .i64 0, .int .i64 2] 73)) (Kd.C_alloc H9.out.2 _) H9.out.1 hP (by decide) aw11) ?_
  rintro e W10 ⟨rfl, hD⟩
  have HB10 := Aside0.mk ((below_alloc HB9.out (.cells #[.int .i64 0, .int .i64 2] 73)).trans (hD.below.mono (by have := HB9.out.size; simp; omega)))
  clear hD hA9 hP H9 HB9
  go_wp2_with fail
  refine Calls.mono (graph_Reducible.calls 100 (some ⟨w.heap.size + 4, 0, none⟩) 4 gA false W10 (Kd.C_below HCA.out HB10.out) (by decide) aw5) ?_
  rintro e W11 ⟨rfl, hB⟩
  have HB11 := Aside0.mk (HB10.out.trans (hB.mono HB10.out.size))
  clear hB HB10
  go_wp2_with fail
  refine Calls.mono (graph_Reducible.calls 100 (some ⟨w.heap.size + 9, 0, none⟩) 4 gB true W11 (Kd.C_below HCB.out HB11.out) (by decide) aw6) ?_
  rintro e W12 ⟨rfl, hB⟩
  have HB12 := Aside0.mk (HB11.out.trans (hB.mono HB11.out.size))
  clear hB HB11
  go_wp2_with fail
  refine Calls.mono (graph_Headers.calls 100 (some ⟨w.heap.size + 4, 0, none⟩) 4 gA [] W12 (Kd.C_below HCA.out HB12.out) (by decide) aw7) ?_
  rintro e W13 ⟨v, rfl, hR, hB⟩
  have HB13 := Aside0.mk (HB12.out.trans (hB.mono HB12.out.size))
  obtain ⟨A, c, rfl⟩ := Kd.R_slice hR
  clear hR hB HB12
  go_wp2
  go_ret
  exact ⟨rfl, HBW.out.trans (HB13.out.mono HBW.out.size)⟩
end Go.Proofs.Ytnmeomdjhjgnfaa.X
end
