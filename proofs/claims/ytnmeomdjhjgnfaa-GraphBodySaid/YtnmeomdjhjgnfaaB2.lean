/- Parts of the proof of GraphBody: Gcrit, Gdom, Gcommon, X2, Gspec2, Gback, Ghead, Gred, Gbody, Gpairs, X3, Gawake, Pdfs, Pord. -/
import Derived.Test.YtnmeomdjhjgnfaaB1
import Derived.WalkMore
import Derived.Laws.EntriesVeiled
import Derived.Maps.Own
import Derived.Maps.Views
section
set_option linter.unusedSimpArgs false
namespace Go.Proofs.Ytnmeomdjhjgnfaa.X
open Go.RowKit Go.Shelf Go.Proofs.YtnmeomdjhjgnfaaW.PrintWords Go.Proofs.YtnmeomdjhjgnfaaW.PrintLast Go.Proofs.YtnmeomdjhjgnfaaW.PrintMore
set_option linter.unusedVariables false
attribute [local go_sem] Oper.semAt_some

/-- What a box's row owns. -/
def BxM (bx : Nat) (W : World) (k : Nat) : Prop := ∃ v, W.cell? ⟨bx, 0, none⟩ = some v ∧ v.ownBlock = some k
theorem BxM.told {bx B : Nat} (h : bx < B) : Told B (BxM bx) := by
  rintro W W' hb k ⟨v, hc, hk⟩
  exact ⟨v, (World.cell?_of_block (a := ⟨bx, 0, none⟩) (hb _ h)).symm.trans hc, hk⟩
theorem KeepsFrom.of_below {B : Nat} {W W' : World} (h : Below W.heap.size W W') : KeepsFrom B W W' :=
  ⟨h.size, fun k o _ hk _ => (h.block k (Array.getElem?_eq_some_iff.1 hk).1).trans hk⟩
theorem EdKp.of_below {B : Nat} {M : World → Nat → Prop} {W W' : World} (hM : Told B M) (hB : B ≤ W.heap.size) (h : Below W.heap.size W W') : EdKp B M W W' :=
  ⟨h.size, fun k c t f _ _ hk => (h.block k (Array.getElem?_eq_some_iff.1 hk).1).trans hk, fun k hk => .inl (hM _ _ (fun b hb => h.block b (by omega)) k hk)⟩
/-- A round that appends to the box's row. -/
theorem BxM.round {B bx : Nat} {W W7 : World} {v18 v21 : Value} {e : TypeId} {cells : Array Value} (hgc : W.heap[bx]? = some (.cells cells e (0, 0))) (hB : bx < B)
    (hc : W.cell? ⟨bx, 0, none⟩ = some v18) (hne : v18.ownBlock ≠ some bx) (ht : ∀ k, v18.ownBlock = some k → ∃ c q, W.heap[k]? = some (.cells c q (0, 0)))
    (hg7 : W.grownBy W7 v18.ownBlock) (hat : v21.ownBlock = v18.ownBlock ∨ ∃ k, v21.ownBlock = some k ∧ W.heap.size ≤ k) :
    KeepsFrom B W (W7.setCell ⟨bx, 0, none⟩ v21) ∧ EdKp B (BxM bx) W (W7.setCell ⟨bx, 0, none⟩ v21) := by
  have h := PrM.round (b := 0) (n := 1) hgc hB (by omega) hc hne ht hg7 hat
  refine ⟨h.1, h.2.size, fun k c t f hBk hM hk => h.2.same k c t f hBk (fun h2 => hM ?_) hk, fun k hk => ?_⟩
  · obtain ⟨ad, i, v, ead, hi, hv, hk⟩ := h2
    injection ead with ead
    subst ead
    obtain rfl : i = 0 := by omega
    exact ⟨v, hv, hk⟩
  · obtain ⟨v, hv, hk⟩ := hk
    refine (h.2.mine k ⟨_, 0, v, rfl, by omega, hv, hk⟩).imp (fun h2 => ?_) id
    obtain ⟨ad, i, v, ead, hi, hv, hk⟩ := h2
    injection ead with ead
    subst ead
    obtain rfl : i = 0 := by omega
    exact ⟨v, hv, hk⟩
theorem R_nocells {α : Type} {d : Kd α} {e base : Nat} {ok : Nat → Prop} {W W' : World} {v : Value} {xs : List α} {row : Option Nat} (h : d.R e W base ok v xs) (hg : W.grownBy W' row)
    (hr : ∀ r, row = some r → ∃ o : Obj, W.heap[r]? = some o ∧ o.isCells = false) : d.R e W' base ok v xs := by
  refine Kd.R_mono (Kd.R_step (Kd.R_bound h) (fun k hk hlt => hg.block k hlt (fun he => ?_))) (fun _ hk => hk.1)
  obtain ⟨_, _, _, q, _, cells, hc⟩ := hk
  obtain ⟨o, ho, hn⟩ := hr k he.symm
  rw [hc] at ho; cases ho; cases hn

theorem heap_box {W : World} {B : Nat} {v : Value} {t : TypeId} (h : W.heap[B]? = some (.cells #[v] t (0, 0))) (u : Value) : (W.setCell ⟨B, 0, none⟩ u).heap[B]? = some (.cells #[u] t (0, 0)) := by
  simp [World.setCell, Array.getElem?_modify, h]
def crB (rows preds : List (List Int)) (e : Int × Int) : Bool := decide (1 < (rows.getD e.1.toNat []).length) && decide (1 < (preds.getD e.2.toNat []).length)
def crL (rows preds : List (List Int)) (es : List (Int × Int)) : List S73 := (es.filter (crB rows preds)).map fun e => ⟨e.1, e.2⟩
structure CrIn (w : World) (b3 : Nat) (n c9 c11 : Nat) (A9 A11 : Option Addr) (rows preds : List (List Int)) (bl : Nat) (out : List S73) (W : World) : Prop where
  cell3 : W.cell? ⟨b3, 0, none⟩ = some (.slice A9 n c9)
  cell4 : W.cell? ⟨b3 + 1, 0, none⟩ = some (.slice A11 n c11)
  own3 : Kd.S (Kd.slice 3 (Kd.int .i64)) 23 W w.heap.size (fun k => k < b3) (.slice A9 n c9) rows
  own4 : Kd.S (Kd.slice 3 (Kd.int .i64)) 23 W w.heap.size (fun k => k < b3) (.slice A11 n c11) preds
  out5 : ∃ v, W.heap[b3 + 2]? = some (.cells #[v] 74 (0, 0)) ∧ Kd.R k73 73 W w.heap.size (fun k => bl ≤ k) v out
  below : Below w.heap.size w W
  far : bl ≤ W.heap.size
theorem CrIn.kept {w : World} {b3 n c9 c11 bl : Nat} {A9 A11 : Option Addr} {rows preds : List (List Int)} {out : List S73} {W W' : World} {row : Option Nat} (h : CrIn w b3 n c9 c11 A9 A11 rows preds bl out W) (hg : W.grownBy W' row)
    (hr : ∀ r, row = some r → w.heap.size ≤ r ∧ ∃ o : Obj, W.heap[r]? = some o ∧ o.isCells = false) : CrIn w b3 n c9 c11 A9 A11 rows preds bl out W' := by
  obtain ⟨v, hv, hR⟩ := h.out5
  refine ⟨cell_kept h.cell3 hg (fun r e => (hr r e).2), cell_kept h.cell4 hg (fun r e => (hr r e).2), S_nocells h.own3 hg (fun r e => (hr r e).2), S_nocells h.own4 hg (fun r e => (hr r e).2), ⟨v, ?_, R_nocells hR hg (fun r e => (hr r e).2)⟩, h.below.grown hg h.below.size (fun k e => (hr k e).1), Nat.le_trans h.far hg.size⟩
  exact (grownBy_keeps_cells hg (fun r e => (hr r e).2) hv rfl).trans hv
theorem preds_fold_length (es : List (Int × Int)) : ∀ rows : List (List Int), (es.foldl predStep rows).length = rows.length := by
  induction es with
  | nil => intro rows; rfl
  | cons e es ih => intro rows; rw [List.foldl_cons, ih]; simp [predStep]
theorem predsL_length (g : List (List Int)) : (predsL g).length = g.length := by unfold predsL; rw [preds_fold_length]; simp
set_option maxHeartbeats 4000000 in
set_option maxRecDepth 100000 in
theorem graph_Critical.calls (A0 : Option Addr) (c0 : Nat) (l0 : List (List Int)) (r : List S73) (w : World) (hr0 : Kd.C (Kd.slice 3 (Kd.int .i64)) w A0 l0.length l0) (hc0 : l0.length ≤ c0) (h : graph_Critical.f l0 = some r) :
    Calls Try.prog 48 #[.slice A0 l0.length c0] w fun e w' => ∃ v0_ : Value, e = .returned (v0_) ∧ Kd.R k73 73 w' w.heap.size (fun _ => True) v0_ r ∧ Below w.heap.size w w' := by
  unfold graph_Critical.f at h
  split at h
  case isFalse => cases h
  rename_i hok
  injection h with h
  have hlen := (okG_len hok).1
  have HR := Aside0.mk hr0
  have HC0 := Aside0.mk hc0
  have HOK := Aside0.mk hok
  have HE := Aside0.mk h
  clear hr0 hc0 hok h
  refine (callsIn_wide (n := 6)).1 ?_
  refine callsIn_of_wp_marks Try.func48 rfl trivial ?_ rfl
  simp only [Try.ntmps48, List.size_toArray, List.length_cons, List.length_nil, Nat.reduceAdd, Nat.reduceSub, Array.replicate_succ, Array.replicate_zero, List.push_toArray, List.append_toArray, List.nil_append, List.cons_append]
  refine wpIn_seq (wpIn_wide.2 ?_)
  go_wp2
  refine wpIn_seq (wpIn_wide.2 ?_)
  go_wp2_with fail
  refine (graph_clean.calls (l0.length + 1) A0 c0 l0 (cleanL l0) _ HR.out HC0.out (clean_some l0 HOK.out)).mono ?_
  rintro e W2 ⟨v9, rfl, hS9, hB2⟩
  obtain ⟨A9, c9, rfl, _, _⟩ := Kd.S_reads hS9
  rw [cleanL_length] at hS9 ⊢
  have H9 := Aside0.mk hS9
  have HB2 := Aside0.mk hB2
  clear hS9 hB2
  go_wp2_with fail
  refine (graph_Preds.calls A0 c0 l0 (predsL l0) _ (Kd.C_below HR.out HB2.out) HC0.out (by unfold graph_Preds.f; rw [if_pos HOK.out])).mono ?_
  rintro e W4 ⟨v11, rfl, hS11, hB4⟩
  obtain ⟨A11, c11, rfl, _, _⟩ := Kd.S_reads hS11
  rw [predsL_length] at hS11 ⊢
  have H11 := Aside0.mk (Kd.S_lower hS11 HB2.out.size)
  have H92 := Aside0.mk (Kd.S_below H9.out hB4)
  have HB4 := Aside0.mk (below_step HB2.out hB4)
  clear hS11 hB4 H9
  go_wp2_with fail
  refine wpIn_seq (wpIn_wide.2 ?_)
  go_wp2
  refine wpIn_seq (wpIn_seq ?_)
  gi_wp2
  refine ⟨trivial, ?_⟩
  refine (callsIn_wide.2 (edges_calls A0 l0.length c0 _)).mono ?_
  rintro e w' ⟨rfl, rfl⟩
  gi_wp2
  have c3 := cell_new_c' W4 (.slice A9 l0.length c9) 22
  have c4 := cell_new_c' (W4.alloc (.cells #[.slice A9 l0.length c9] 22)) (.slice A11 l0.length c11) 22
  have c5 := World.alloc_heap_new ((W4.alloc (.cells #[.slice A9 l0.length c9] 22)).alloc (.cells #[.slice A11 l0.length c11] 22)) (.cells #[.slice none 0 0] 74)
  have c6 := cell_new_c' (((W4.alloc (.cells #[.slice A9 l0.length c9] 22)).alloc (.cells #[.slice A11 l0.length c11] 22)).alloc (.cells #[.slice none 0 0] 74)) (.slice A0 l0.length c0) 22
  have hB5 : Below W4.heap.size W4 ((((W4.alloc (.cells #[.slice A9 l0.length c9] 22)).alloc (.cells #[.slice A11 l0.length c11] 22)).alloc (.cells #[.slice none 0 0] 74)).alloc (.cells #[.slice A0 l0.length c0] 22)) := below_alloc (below_alloc (below_alloc (below_alloc (Below.refl _ _) _) _) _) _
  simp only [World.size_alloc] at c4 c5 c6
  obtain ⟨wL, hwL⟩ : ∃ wL, ((((W4.alloc (.cells #[.slice A9 l0.length c9] 22)).alloc (.cells #[.slice A11 l0.length c11] 22)).alloc (.cells #[.slice none 0 0] 74)).alloc (.cells #[.slice A0 l0.length c0] 22)) = wL := ⟨_, rfl⟩
  have hsz : wL.heap.size = W4.heap.size + 4 := by rw [← hwL]; simp
  have HI0 : Aside0 (CrIn w W4.heap.size l0.length c9 c11 A9 A11 (cleanL l0) (predsL l0) wL.heap.size [] wL) := ⟨by
    have k5 : wL.heap[W4.heap.size + 2]? = some (.cells #[.slice none 0 0] 74 (0, 0)) := by
      rw [← hwL]
      exact (below_alloc (Below.refl _ _) _ : Below _ _ _).block _ (by simp) |>.trans c5
    refine ⟨?_, ?_, Kd.S_below (Kd.S_mono (Kd.S_bound H92.out) (fun k hk => hk.2.2.1)) ?_, Kd.S_below (Kd.S_mono (Kd.S_bound H11.out) (fun k hk => hk.2.2.1)) ?_, ⟨_, k5, Kd.R_nil _ _ _ _ _⟩, ?_, Nat.le_refl _⟩
    · rw [← hwL]; exact cell_alloc' _ (cell_alloc' _ (cell_alloc' _ c3.1))
    · rw [← hwL]; exact cell_alloc' _ (cell_alloc' _ c4.1)
    · rw [← hwL]; exact hB5
    · rw [← hwL]; exact hB5
    · rw [← hwL]; exact HB4.out.trans (hB5.mono HB4.out.size)⟩
  have hMW : ∀ k, BxM (W4.heap.size + 2) wL k → k < wL.heap.size := by
    rintro k ⟨v, hv, hk⟩
    obtain ⟨v2, h2, h3⟩ := HI0.out.out5
    have h4 := (cell_of_box' h2).1
    rw [h4] at hv
    injection hv with hv
    subst hv
    exact Kd.R_lt h3 k hk
  have hMd : Told wL.heap.size (BxM (W4.heap.size + 2)) := BxM.told (by omega)
  rw [hwL] at c6 hB5 ⊢
  refine wpIn_rangeFunc_ownG rfl (by omega) (gf := 104) (lb := #[.pointer (some ⟨W4.heap.size + 1 + 1 + 1, 0, none⟩)]) rfl trivial (enters_of Try.func104 (by kernel_rfl) rfl)
    (edges_stops 5 (by omega) (W4.heap.size + 1 + 1 + 1) A0 c0 l0 HOK.out (BxM (W4.heap.size + 2)) wL hMd hMW (Kd.C_below HR.out (HB4.out.trans (hB5.mono HB4.out.size))) HC0.out c6.1) EdKp.trans (EdKp.put hMd) (Below.refl _ _) (fun _ => rfl)
    (fun pre W => CrIn w W4.heap.size l0.length c9 c11 A9 A11 (cleanL l0) (predsL l0) wL.heap.size (crL (cleanL l0) (predsL l0) (pre.map Subtype.val)) W)
    (fun _ _ _ => False)
    (fun s A B row hs hg hr => hs.kept hg (fun r e => ⟨by have := (hr r e).1; have := HB4.out.size; omega, (hr r e).2⟩))
    (fun _ _ _ _ _ hs _ _ => hs)
    HI0.out
    (fun x => { tmps := #[Value.slice A0 l0.length c0, undef, Value.slice none 0 0,
          Value.pointer (some { block := W4.heap.size, off := 0 }),
          Value.pointer (some { block := W4.heap.size + 1, off := 0 }),
          Value.pointer (some { block := W4.heap.size + 1 + 1, off := 0 }), .int .i64 x.1.1, .int .i64 x.1.2, Value.slice A0 l0.length c0,
          Value.slice A9 l0.length c9, Value.slice A0 l0.length c0, Value.slice A11 l0.length c11,
          Value.slice A0 l0.length c0,
          Value.func (Fn.func 104) #[] #[Value.pointer (some { block := W4.heap.size + 1 + 1 + 1, off := 0 })], .int .i64 x.1.1, .int .i64 x.1.2,
          undef, undef, undef, undef, undef, undef, undef, undef, undef, undef, undef, undef, undef,
          undef, undef, undef, undef, undef, undef, undef, undef], defers := [] }) ?assign ?body ?done ?stop
  case assign =>
    intro l x W K hK
    simp only [edEnc]
    gi_wp2
    exact hK
  case body =>
    rintro l pre ⟨⟨a, b⟩, ha0, ha1, hb0, hb1⟩ W hI hlt
    clear hMd hMW hB5 c3 c4 c5 c6 HI0 hwL H11 H92
    simp only at ha0 ha1 hb0 hb1
    obtain ⟨out, hout⟩ : ∃ out, crL (cleanL l0) (predsL l0) (pre.map Subtype.val) = out := ⟨_, rfl⟩
    rw [hout] at hI
    have HOL : Aside0 (out.length ≤ 1000000000000) := ⟨by
      have h1 : out.length ≤ pre.length := by
        rw [← hout]; unfold crL; rw [List.length_map]; exact Nat.le_trans (List.length_filter_le _ _) (by simp)
      have h2 := edgesL_length l0
      have h3 : l0.length * l0.length ≤ 1000000 * 1000000 := Nat.mul_le_mul hlen hlen
      omega⟩
    have hfin : ∀ W', CrIn w W4.heap.size l0.length c9 c11 A9 A11 (cleanL l0) (predsL l0) wL.heap.size (if crB (cleanL l0) (predsL l0) (a, b) = true then out ++ [⟨a, b⟩] else out) W' →
        CrIn w W4.heap.size l0.length c9 c11 A9 A11 (cleanL l0) (predsL l0) wL.heap.size (crL (cleanL l0) (predsL l0) ((pre ++ [(⟨(a, b), by omega⟩ : Ed l0.length)]).map Subtype.val)) W' := by
      intro W' h'
      have e : crL (cleanL l0) (predsL l0) ((pre ++ [(⟨(a, b), by omega⟩ : Ed l0.length)]).map Subtype.val) = if crB (cleanL l0) (predsL l0) (a, b) = true then out ++ [⟨a, b⟩] else out := by
        rw [List.map_append, ← hout]
        unfold crL
        rw [List.filter_append, List.map_append]
        simp only [List.map_cons, List.map_nil, List.filter_cons, List.filter_nil]
        split <;> simp
      rw [e]
      exact h'
    have HFIN := Aside0.mk hfin
    have HIN := Aside0.mk hI
    clear hfin hout
    obtain ⟨hcell3, hcell4, hown3, hown4, ⟨v, h5, hRv⟩, hbel, hfar⟩ := hI
    obtain ⟨i, rfl⟩ := Int.eq_ofNat_of_zero_le ha0
    obtain ⟨j, rfl⟩ := Int.eq_ofNat_of_zero_le hb0
    obtain ⟨ad3, _, _, ear, _⟩ := at_L1 (Kd.S_reads' hown3).2.2 (i : Int) (by omega) (by have := cleanL_length l0; omega)
    subst ear
    obtain ⟨ad4, _, _, ear, _⟩ := at_L1 (Kd.S_reads' hown4).2.2 (j : Int) (by omega) (by have := predsL_length l0; omega)
    subst ear
    obtain ⟨Ar3, cr3, hx3, _⟩ := row_own (Kd.S_mono (ok' := fun _ => True) hown3 (fun _ _ => trivial)) i (by omega)
    obtain ⟨Ar4, cr4, hx4, _⟩ := row_own (Kd.S_mono (ok' := fun _ => True) hown4 (fun _ _ => trivial)) j (by omega)
    obtain ⟨hc5, hf5⟩ := cell_of_box' h5
    obtain ⟨Av, cv, rfl⟩ := Kd.R_slice hRv
    have HRv := Aside0.mk hRv
    have HBEL := Aside0.mk hbel
    have H5 := Aside0.mk h5
    have HO3 := Aside0.mk hown3
    have HO4 := Aside0.mk hown4
    clear hRv hbel h5 hown3 hown4
    obtain ⟨n3, hn3⟩ : ∃ n3, (rd_L1 (cleanL l0) i).length = n3 := ⟨_, rfl⟩
    obtain ⟨n4, hn4⟩ : ∃ n4, (rd_L1 (predsL l0) j).length = n4 := ⟨_, rfl⟩
    rw [hn3] at hx3
    rw [hn4] at hx4
    have HCR : Aside0 (crB (cleanL l0) (predsL l0) ((i : Int), (j : Int)) = (decide (1 < n3) && decide (1 < n4))) := ⟨by
      rw [← hn3, ← hn4]; rfl⟩
    clear hn3 hn4
    by_cases h3 : 1 < n3
    · have k3 : decide ((1 : Int) < (n3 : Int)) = true := decide_eq_true (by omega)
      by_cases h4 : 1 < n4
      · have k4 : decide ((1 : Int) < (n4 : Int)) = true := decide_eq_true (by omega)
        refine wpIn_block ?_
        refine wpIn_seq (wpIn_list_plain (by kernel_rfl) (fun ⟨_, _, h'⟩ => h') ?_)
        go_wp2
        refine wpIn_cond_true rfl ?_
        refine wpIn_list_plain (by kernel_rfl) (fun ⟨_, _, h'⟩ => h') ?_
        go_wp2_with (first | ((with_reducible refine gate_builtin (b := .append) (xs := #[.tmp 30, .tmp 34]) rfl ?_); at_builtin; refine Kd.R_append k73 (w0 := w) (W := W) w.heap.size rfl (.tmp 30) (.tmp 34) 74 73 (.agg #[(.int .i64 0), (.int .i64 0)]) 16 rfl Try.underlying74 info73 rfl (by decide) (by omega) (.slice Av out.length cv) out (⟨i, j⟩ : S73) [.int .i64 i, .int .i64 j] (fun k => wL.heap.size ≤ k) (fun _ => False) rfl rfl ?aP (fun _ hk => hk.elim) ?aF ?aO ?aB ?aS ?aL ?_; (case aP => exact k73_mkM _ _ _ (⟨i, j⟩ : S73)); (case aF => intro k hk; omega); (case aO => exact HRv.out); (case aB => exact HBEL.out); (case aS => exact HBEL.out.size); (case aL => have := HOL.out; omega); intro v35 W7 ho hb hg hat; obtain ⟨A35, n35, c35, rfl⟩ : ∃ A n c, v35 = .slice A n c := ⟨_, _, _, (Kd.R_slice ho).choose_spec.choose_spec⟩; have hA : ∀ k, (Value.slice Av out.length cv).ownBlock = some k → wL.heap.size ≤ k := HRv.out.1; have h57 := (hg.block (W4.heap.size + 2) (blk_lt H5.out) (fun h => by have := hA _ h.symm; omega)).trans H5.out; obtain ⟨hc57, hf57⟩ := cell_of_box' h57) | fail)
        have e : crB (cleanL l0) (predsL l0) ((i : Int), (j : Int)) = true := by rw [HCR.out]; simp [h3, h4]
        have hround := BxM.round (B := wL.heap.size) (bx := W4.heap.size + 2) (v21 := .slice A35 n35 c35) H5.out (by omega) hc5 (fun h => by have := hA _ h; omega) (fun k hk => ⟨_, _, (Kd.R_typed HRv.out k hk).choose_spec⟩) hg hat
        have hF := HFIN.out (W7.setCell ⟨W4.heap.size + 2, 0, none⟩ (.slice A35 n35 c35))
        rw [e, if_pos rfl] at hF
        have hg8 := grownBy_setCell_b W7 (W4.heap.size + 2) 0 (.slice A35 n35 c35)
        have hg78 : ∀ k, k < W4.heap.size + 2 → (W7.setCell ⟨W4.heap.size + 2, 0, none⟩ (.slice A35 n35 c35)).heap[k]? = W.heap[k]? := fun k hk =>
          (hg8.block k (by have := hg.size; omega) (by intro h; injection h with h; omega)).trans (hg.block k (by omega) (fun h => by have := hA _ h.symm; omega))
        refine ⟨hround.1, hround.2, hF ⟨(World.cell?_of_block (hg78 _ (by simp))).trans hcell3, (World.cell?_of_block (hg78 _ (by simp))).trans hcell4, Kd.S_step HO3.out (fun k hk _ => hg78 k (by omega)), Kd.S_step HO4.out (fun k hk _ => hg78 k (by omega)), ⟨.slice A35 n35 c35, ?_, ?_⟩, hb.grown hg8 hb.size (fun k e => by cases e; have := HB4.out.size; omega), by have := hg8.size; have := hg.size; omega⟩⟩
        · exact heap_box h57 _
        · exact Kd.R_mono (Kd.R_step (Kd.R_bound ho) (fun k hk hlt => hg8.block k hlt (fun h => by injection h with h; omega))) (fun _ hk => hk.1)
      · have k4 : decide ((1 : Int) < (n4 : Int)) = false := decide_eq_false (by omega)
        gi_wp2
        have e : crB (cleanL l0) (predsL l0) ((i : Int), (j : Int)) = false := by rw [HCR.out]; simp [h4]
        have hF := HFIN.out W
        rw [e] at hF
        exact ⟨KeepsFrom.refl _ _, EdKp.refl _ _ _, hF HIN.out⟩
    · have k3 : decide ((1 : Int) < (n3 : Int)) = false := decide_eq_false (by omega)
      gi_wp2
      have e : crB (cleanL l0) (predsL l0) ((i : Int), (j : Int)) = false := by rw [HCR.out]; simp [h3]
      have hF := HFIN.out W
      rw [e] at hF
      exact ⟨KeepsFrom.refl _ _, EdKp.refl _ _ _, hF HIN.out⟩
  case done =>
    rintro D ys W hD hys hI hK
    have hr : crL (cleanL l0) (predsL l0) (ys.map Subtype.val) = r := by rw [hys]; exact HE.out
    rw [hr] at hI
    obtain ⟨v, h5, hRv⟩ := hI.out5
    obtain ⟨hc5, hf5⟩ := cell_of_box' h5
    obtain ⟨Av, cv, rfl⟩ := Kd.R_slice hRv
    gi_wp2
    refine ⟨by simp, .inl ⟨_, _, rfl, run_takeDeferred hK, ?_⟩⟩
    refine ⟨_, results_tmp rfl _ _ _, _, rfl, ?_, ?_⟩
    · exact Kd.R_mono (R_nocells hRv (grownBy_putObj' _ D _) (fun r e => by cases e; exact ⟨_, hK, rfl⟩)) (fun _ _ => trivial)
    · exact hI.below.grown (grownBy_putObj' _ D _) hI.below.size (fun k e => by cases e; have := HB4.out.size; omega)
  case stop =>
    rintro D c pre W _ _ h _
    exact h.elim
end Go.Proofs.Ytnmeomdjhjgnfaa.X
/-! A range over graph.edges whose body appends to one boxed row: what stays, what a round does. -/
namespace Go.Proofs.Ytnmeomdjhjgnfaa.X
open Go.RowKit Go.Shelf Go.Proofs.YtnmeomdjhjgnfaaW.PrintWords Go.Proofs.YtnmeomdjhjgnfaaW.PrintLast Go.Proofs.YtnmeomdjhjgnfaaW.PrintMore
set_option linter.unusedVariables false
variable {α : Type} {d : Kd α} {e t : TypeId} {wL W W' W7 : World} {bx : Nat} {out : List α}

structure OutIn (wL : World) (bx : Nat) (d : Kd α) (e t : TypeId) (out : List α) (W : World) : Prop where
  stay : Below bx wL W
  box : ∃ v, W.heap[bx]? = some (.cells #[v] t (0, 0)) ∧ d.R e W wL.heap.size (fun _ => True) v out
  far : wL.heap.size ≤ W.heap.size
theorem OutIn.kept (h : OutIn wL bx d e t out W) {row : Option Nat} (hg : W.grownBy W' row) (hr : ∀ r, row = some r → wL.heap.size ≤ r ∧ ∃ o : Obj, W.heap[r]? = some o ∧ o.isCells = false) (hbx : bx < wL.heap.size) : OutIn wL bx d e t out W' := by
  obtain ⟨v, hv, hR⟩ := h.box
  refine ⟨h.stay.grown hg (by have := h.far; omega) (fun k e => by have := (hr k e).1; omega), ⟨v, ?_, R_nocells hR hg (fun r e => (hr r e).2)⟩, Nat.le_trans h.far hg.size⟩
  exact (grownBy_keeps_cells hg (fun r e => (hr r e).2) hv rfl).trans hv
theorem OutIn.call (h : OutIn wL bx d e t out W) (hb : Below W.heap.size W W') (hbx : bx < wL.heap.size) : KeepsFrom wL.heap.size W W' ∧ EdKp wL.heap.size (BxM bx) W W' ∧ OutIn wL bx d e t out W' := by
  obtain ⟨v, hv, hR⟩ := h.box
  have hf := h.far
  refine ⟨KeepsFrom.of_below hb, EdKp.of_below (BxM.told hbx) h.far hb, h.stay.trans (hb.mono (by omega)), ⟨v, ?_, Kd.R_below hR hb⟩, Nat.le_trans hf hb.size⟩
  exact (hb.block bx (by omega)).trans hv
theorem OutIn.append (h : OutIn wL bx d e t out W) (hbx : bx < wL.heap.size) {v18 v21 : Value} {x : α} (hv : W.heap[bx]? = some (.cells #[v18] t (0, 0))) (hR : d.R e W wL.heap.size (fun _ => True) v18 out)
    (hR7 : d.R e W7 wL.heap.size (fun _ => True) v21 (out ++ [x])) (hg : W.grownBy W7 v18.ownBlock) (hat : v21.ownBlock = v18.ownBlock ∨ ∃ k, v21.ownBlock = some k ∧ W.heap.size ≤ k) :
    KeepsFrom wL.heap.size W (W7.setCell ⟨bx, 0, none⟩ v21) ∧ EdKp wL.heap.size (BxM bx) W (W7.setCell ⟨bx, 0, none⟩ v21) ∧ OutIn wL bx d e t (out ++ [x]) (W7.setCell ⟨bx, 0, none⟩ v21) := by
  have hf := h.far
  have hA : ∀ k, v18.ownBlock = some k → wL.heap.size ≤ k := Kd.R_base hR
  have hround := BxM.round (B := wL.heap.size) (v21 := v21) hv hbx (cell_of_box' hv).1 (fun h => by have := hA _ h; omega) (fun k hk => ⟨_, _, (Kd.R_typed hR k hk).choose_spec⟩) hg hat
  have hg8 := grownBy_setCell_b W7 bx 0 v21
  have h57 := (hg.block bx (blk_lt hv) (fun h => by have := hA _ h.symm; omega)).trans hv
  have hs := hg.size
  have hs8 := hg8.size
  refine ⟨hround.1, hround.2, ?_, ⟨v21, heap_box h57 _, Kd.R_mono (Kd.R_step (Kd.R_bound hR7) (fun k hk hlt => hg8.block k hlt (fun h => by injection h with h; have := hk.2.1; omega))) (fun _ _ => trivial)⟩, by omega⟩
  exact (h.stay.grown hg (by omega) (fun k e => by have := hA k e; omega)).grown hg8 (by omega) (fun k e => by injection e with e; omega)
/-- The box as the loop begins. -/
theorem OutIn.start (hv : wL.heap[bx]? = some (.cells #[.slice none 0 0] t (0, 0))) : OutIn wL bx d e t [] wL := ⟨Below.refl _ _, ⟨_, hv, Kd.R_nil _ _ _ _ _⟩, Nat.le_refl _⟩
theorem OutIn.names (h : OutIn wL bx d e t out wL) : ∀ k, BxM bx wL k → k < wL.heap.size := by
  rintro k ⟨v, hv, hk⟩
  obtain ⟨v2, h2, h3⟩ := h.box
  rw [(cell_of_box' h2).1] at hv
  injection hv with hv
  subst hv
  exact Kd.R_lt h3 k hk
end Go.Proofs.Ytnmeomdjhjgnfaa.X
end
section
set_option linter.unusedSimpArgs false
namespace Go.Proofs.Ytnmeomdjhjgnfaa.X
open Go.RowKit Go.Proofs.YtnmeomdjhjgnfaaW.PrintWords Go.Proofs.YtnmeomdjhjgnfaaW.PrintLast Go.Proofs.YtnmeomdjhjgnfaaW.PrintMore
set_option linter.unusedVariables false

theorem cell_new1 (W : World) (v : Value) (t : TypeId) : (W.alloc (.cells #[v] t)).cell? ⟨W.heap.size, 0, none⟩ = some v :=
  Go.Proofs.YtnmeomdjhjgnfaaW.PrintWords.blk_cell (heap_alloc_new W (.cells #[v] t)) 0

set_option maxHeartbeats 1000000 in
/-- The closure 'is': whether a number is one of the captured row's places. -/
theorem dom_is (g : Nat) (A0 : Option Addr) (c0 : Nat) (l0 : List Int) (x : Int) (w : World) (hc : w.cell? ⟨g, 0, none⟩ = some (.slice A0 l0.length c0)) :
    Calls Try.prog 74 #[.int .i64 x, .pointer (some ⟨g, 0, none⟩)] w fun e w' => e = .returned (.bool (isB l0 x)) ∧ w = w' := by
  by_cases h0 : 0 ≤ x
  · by_cases h1 : x < l0.length
    · have e1 : isB l0 x = true := by simp [isB, h0, h1]
      rw [e1]
      go_enter Try.func74, Try.ntmps74
      go_wp2
      go_ret
      exact ⟨rfl, rfl⟩
    · have e1 : isB l0 x = false := by simp [isB, h1]
      rw [e1]
      have h2 : decide (x < (l0.length : Int)) = false := by simpa using h1
      go_enter Try.func74, Try.ntmps74
      go_wp2
      go_ret
      exact ⟨by first | rfl | simp_all, rfl⟩
  · have e1 : isB l0 x = false := by simp [isB, h0]
    rw [e1]
    have h2 : decide (0 ≤ x) = false := by simpa using h0
    go_enter Try.func74, Try.ntmps74
    go_wp2
    go_ret
    exact ⟨by first | rfl | simp_all, rfl⟩
theorem dom_yes (g : Nat) (A0 : Option Addr) (c0 : Nat) (l0 : List Int) (x : Int) (w : World) (hc : w.cell? ⟨g, 0, none⟩ = some (.slice A0 l0.length c0)) (hx : isB l0 x = true) :
    Calls Try.prog 74 #[.int .i64 x, .pointer (some ⟨g, 0, none⟩)] w fun e w' => e = .returned (.bool true) ∧ w = w' := hx ▸ dom_is g A0 c0 l0 x w hc
theorem dom_no (g : Nat) (A0 : Option Addr) (c0 : Nat) (l0 : List Int) (x : Int) (w : World) (hc : w.cell? ⟨g, 0, none⟩ = some (.slice A0 l0.length c0)) (hx : isB l0 x = false) :
    Calls Try.prog 74 #[.int .i64 x, .pointer (some ⟨g, 0, none⟩)] w fun e w' => e = .returned (.bool false) ∧ w = w' := hx ▸ dom_is g A0 c0 l0 x w hc

set_option maxHeartbeats 4000000 in
set_option maxRecDepth 100000 in
theorem graph_Dominates.calls (A0 : Option Addr) (c0 : Nat) (l0 : List Int) (a1 a2 : Int) (r : Bool) (w : World) (hr0 : Kd.C (Kd.int .i64) w A0 l0.length l0) (hc0 : l0.length ≤ c0) (h : graph_Dominates.f l0 a1 a2 = some r) :
    Calls Try.prog 32 #[.slice A0 l0.length c0, .int .i64 a1, .int .i64 a2] w fun e w' => e = .returned (.bool r) ∧ Below w.heap.size w w' := by
  have HR0 := Aside0.mk hr0
  clear hr0 hc0
  have hlen : l0.length ≤ 1000000 := by
    by_cases hl : l0.length ≤ 1000000
    · exact hl
    · simp [graph_Dominates.f, hl] at h
  have HF : Aside0 (domL l0 a1 a2 = r) := ⟨by simpa [graph_Dominates.f, hlen] using h⟩
  clear h
  have hcell : (w.alloc (.cells #[.slice A0 l0.length c0] 23)).cell? ⟨w.heap.size, 0, none⟩ = some (.slice A0 l0.length c0) := Go.Proofs.Ytnmeomdjhjgnfaa.X.cell_new1 w _ 23
  have HB : Aside0 (Below w.heap.size w (w.alloc (.cells #[.slice A0 l0.length c0] 23))) := ⟨(Below.refl _ w).alloc (Nat.le_refl _) _⟩
  cases e1 : isB l0 a1 with
  | false =>
    have E1 := Aside0.mk e1
    have HR : Aside0 (r = false) := ⟨by rw [← HF.out]; simp [domL, e1]⟩
    clear e1
    go_enter Try.func32, Try.ntmps32
    go_wp2_with (go_at_call 74; refine (dom_no _ A0 c0 l0 _ _ hcell E1.out).mono ?_; rintro e w' ⟨rfl, rfl⟩)
    go_ret
    exact ⟨by rw [HR.out]; rfl, HB.out⟩
  | true =>
    have E1 := Aside0.mk e1
    clear e1
    cases e2 : isB l0 a2 with
    | false =>
      have E2 := Aside0.mk e2
      have HR : Aside0 (r = false) := ⟨by rw [← HF.out]; simp [domL, e2]⟩
      clear e2
      go_enter Try.func32, Try.ntmps32
      go_wp2_with fail
      refine (dom_yes _ A0 c0 l0 _ _ hcell E1.out).mono ?_
      rintro e w' ⟨rfl, rfl⟩
      go_wp2_with fail
      refine (dom_no _ A0 c0 l0 _ _ hcell E2.out).mono ?_
      rintro e w' ⟨rfl, rfl⟩
      go_wp2_with fail
      go_ret
      exact ⟨by rw [HR.out]; rfl, HB.out⟩
    | true =>
      have E2 := Aside0.mk e2
      have HL : Aside0 (domLoop l0 a1 (l0.length + 1) a2 = r) := ⟨by rw [← HF.out]; simp [domL, E1.out, e2]⟩
      clear e2 HF
      go_enter Try.func32, Try.ntmps32
      go_wp2_with fail
      refine (dom_yes _ A0 c0 l0 _ _ hcell E1.out).mono ?_
      rintro e w' ⟨rfl, rfl⟩
      go_wp2_with fail
      refine (dom_yes _ A0 c0 l0 _ _ hcell E2.out).mono ?_
      rintro e w' ⟨rfl, rfl⟩
      go_wp2_with fail
      go_loopg [2, 22] (l0.length + 1) (fun kq v2 v22 w' => ∃ (b : Int) (i : Nat), v2 = .int .i64 b ∧ v22 = .int .i64 i ∧ Aside0 (domLoop l0 a1 kq b = r) ∧ Aside0 (kq + i = l0.length + 1) ∧ Aside0 (w' = w.alloc (.cells #[.slice A0 l0.length c0] 23)))
      case atStart => exact ⟨a2, 0, rfl, rfl, HL, ⟨rfl⟩, ⟨rfl⟩⟩
      case round =>
        obtain ⟨b, i, rfl, rfl, HA, HI, HW⟩ := hrel
        obtain rfl := HW.out
        clear HW HL E2
        cases gk with
        | zero =>
          have hi : i = l0.length + 1 := by have := HI.out; omega
          subst hi
          have HR : Aside0 (r = false) := ⟨by rw [← HA.out]; simp [domLoop]⟩
          go_wp2
          go_ret
          exact ⟨by rw [HR.out]; rfl, HB.out⟩
        | succ k1 =>
          have hi : i < l0.length + 1 := by have := HI.out; omega
          have H := HA.out
          clear HA
          rw [domLoop] at H
          by_cases hab : a1 = b
          · rw [if_pos hab] at H
            have HR : Aside0 (r = true) := ⟨H.symm⟩
            subst hab
            clear H
            go_wp2
            go_ret
            exact ⟨by rw [HR.out]; rfl, HB.out⟩
          · rw [if_neg hab] at H
            have hab2 : (a1 == b) = false := by simpa using hab
            clear hab
            cases e3 : isB l0 b with
            | false =>
              have E3 := Aside0.mk e3
              rw [e3] at H
              have HR : Aside0 (r = false) := ⟨by simpa using H.symm⟩
              clear H e3
              go_wp2_with (go_at_call 74; refine (dom_no _ A0 c0 l0 _ _ hcell E3.out).mono ?_; rintro e w' ⟨rfl, rfl⟩)
              go_ret
              exact ⟨by rw [HR.out]; rfl, HB.out⟩
            | true =>
              have E3 := Aside0.mk e3
              rw [e3] at H
              have HL : Aside0 (domLoop l0 a1 k1 (rd l0 b) = r) := ⟨by simpa using H⟩
              have hb : 0 ≤ b ∧ b < l0.length := by simpa [isB] using e3
              obtain ⟨hb0, hb1⟩ := hb
              clear H e3
              obtain ⟨ad, rfl, hcx⟩ := Kd.at_int HR0.out b hb0 hb1
              replace hcx := (HB.out.cell (World.block_lt_of_cell? w _ hcx)).trans hcx
              go_wp2_with (go_at_call 74; refine (dom_yes _ (some ad) c0 l0 _ _ hcell E3.out).mono ?_; rintro e w' ⟨rfl, rfl⟩)
              go_roundg k1
              case measure => omega
              case rel => exact ⟨_, i + 1, rfl, by go_num, HL, ⟨by have := HI.out; omega⟩, ⟨rfl⟩⟩
set_option maxHeartbeats 4000000 in
set_option maxRecDepth 100000 in
theorem graph_common.calls (k : Nat) (A0 : Option Addr) (c0 : Nat) (l0 : List Int) (A1 : Option Addr) (c1 : Nat) (l1 : List Int) (a2 a3 : Int) (r : Int) (w : World) (hr0 : Kd.C (Kd.int .i64) w A0 l0.length l0) (hc0 : l0.length ≤ c0) (hr1 : Kd.C (Kd.int .i64) w A1 l1.length l1) (hc1 : l1.length ≤ c1) (h : graph_common.f k l0 l1 a2 a3 = some r) :
    Calls Try.prog 73 #[.slice A0 l0.length c0, .slice A1 l1.length c1, .int .i64 a2, .int .i64 a3] w fun e w' => e = .returned (.int .i64 r) ∧ Drawn0 w w' := by
  have HR0 := Aside0.mk hr0
  have HR1 := Aside0.mk hr1
  have HF := Aside0.mk h
  have HD := Drawn0.refl w
  clear hr0 hr1 h hc0 hc1
  go_enter Try.func73, Try.ntmps73
  go_wp2
  go_step3
  go_wp2
  go_step3
  go_wp2
  go_loopg [2, 3] k (fun kq v2 v3 w' => ∃ a b : Int, v2 = .int .i64 a ∧ v3 = .int .i64 b ∧ Aside0 (graph_common.f kq l0 l1 a b = some r) ∧ Aside0 (Drawn0 w w'))
  case atStart => exact ⟨a2, a3, rfl, rfl, HF, ⟨HD⟩⟩
  case round =>
    obtain ⟨a, b, rfl, rfl, HA, HD2⟩ := hrel
    cases gk with
    | zero => exact absurd HA.out (by simp [graph_common.f])
    | succ k1 =>
      have H := HA.out
      clear HA HF HD
      rw [graph_common.f] at H
      by_cases hr : 0 ≤ a ∧ a < l1.length ∧ 0 ≤ b ∧ b < l1.length
      · rw [if_pos hr] at H
        obtain ⟨ha0, ha1, hb0, hb1⟩ := hr
        obtain ⟨ad, rfl, hca⟩ := Kd.at_int HR1.out a ha0 ha1
        obtain ⟨ad', ead, hcb⟩ := Kd.at_int HR1.out b hb0 hb1
        cases ead
        replace hca := (HD2.out.below.cell (World.block_lt_of_cell? w _ hca)).trans hca
        replace hcb := (HD2.out.below.cell (World.block_lt_of_cell? w _ hcb)).trans hcb
        by_cases h1 : rd l1 b < rd l1 a
        · rw [if_pos h1] at H
          by_cases h2 : a < l0.length
          · rw [if_pos h2] at H
            obtain ⟨ae, eae, hce⟩ := Kd.at_int HR0.out a ha0 h2
            subst eae
            replace hce := (HD2.out.below.cell (World.block_lt_of_cell? w _ hce)).trans hce
            have HH := Aside0.mk H
            clear H
            have HD3 := HD2.out
            clear HD2
            go_wp2
            go_quiet (fail)
            go_wp2
            go_roundg k1
            case measure => omega
            case rel => exact ⟨_, _, rfl, rfl, HH, ⟨HD3.step _⟩⟩
          · rw [if_neg h2] at H
            exact absurd H (by simp)
        · rw [if_neg h1] at H
          by_cases h3 : rd l1 a < rd l1 b
          · rw [if_pos h3] at H
            by_cases h2 : b < l0.length
            · rw [if_pos h2] at H
              obtain ⟨ae, eae, hce⟩ := Kd.at_int HR0.out b hb0 h2
              subst eae
              replace hce := (HD2.out.below.cell (World.block_lt_of_cell? w _ hce)).trans hce
              have HH := Aside0.mk H
              clear H
              have HD3 := HD2.out
              clear HD2
              go_wp2
              go_quiet (fail)
              go_wp2
              go_quiet (fail)
              go_wp2
              go_roundg k1
              case measure => omega
              case rel => exact ⟨_, _, rfl, rfl, HH, ⟨HD3.step _⟩⟩
            · rw [if_neg h2] at H
              exact absurd H (by simp)
          · rw [if_neg h3] at H
            obtain rfl := Option.some.inj H
            clear H
            have HD3 := HD2.out
            clear HD2
            go_wp2
            go_quiet (fail)
            go_wp2
            go_quiet (fail)
            go_wp2
            rw [Exit.noGoto_ret]
            go_ret
            exact ⟨rfl, (HD3.step _).step _⟩
      · rw [if_neg hr] at H
        exact absurd H (by simp)
end Go.Proofs.Ytnmeomdjhjgnfaa.X
end
section
-- written by a driver of this session (wip/xprint.py) over the kit's print, for this claim; Lean checks it
namespace Go.Proofs.Ytnmeomdjhjgnfaa.X
open Go.RowKit Go.Proofs.YtnmeomdjhjgnfaaW.PrintWords Go.Proofs.YtnmeomdjhjgnfaaW.PrintLast Go.Proofs.YtnmeomdjhjgnfaaW.PrintMore
attribute [local go_sem] max2_int min2_int max_two min_two max_three min_three max_four min_four   -- for this text's walks alone
set_option linter.unusedVariables false
set_option linter.unusedSimpArgs false

/-! ### graph_Idom: function 30 -/
mutual
def graph_Idom.l0 : Nat → List (List Int) → List Int → List Int → List Int → Int → Int → Option (List Int)
  | 0, _, _, _, _, _, _ => none
  | k + 1, x0, x3, x4, x5, x25, x26 => if x26 < x25 then (if 0 ≤ x26 then (if x26 < (x4.length : Int) then (if x26 < (x5.length : Int) then (graph_Idom.l0 k x0 x3 (x4.set (x26 : Int).toNat (-1)) (x5.set (x26 : Int).toNat (-1)) x25 (wrap64 (x26 + 1))) else (none)) else (none)) else (none)) else (graph_Idom.l1 k x0 x3 x4 x5 x3 (x3.length : Int) 0)
def graph_Idom.l1 : Nat → List (List Int) → List Int → List Int → List Int → List Int → Int → Int → Option (List Int)
  | 0, _, _, _, _, _, _, _ => none
  | k + 1, x0, x3, x4, x5, x36, x37, x38 => if x38 < x37 then (if 0 ≤ x38 then (if x38 < (x36.length : Int) then (if 0 ≤ (rd x36 x38) then (if (rd x36 x38) < (x4.length : Int) then (graph_Idom.l1 k x0 x3 (x4.set ((rd x36 x38) : Int).toNat x38) x5 x36 x37 (wrap64 (x38 + 1))) else (none)) else (none)) else (none)) else (none)) else ((graph_Preds.f x0).bind fun t122 => (graph_Idom.l2 k x3 x4 x5 t122 true))
def graph_Idom.l2 : Nat → List Int → List Int → List Int → List (List Int) → Bool → Option (List Int)
  | 0, _, _, _, _, _ => none
  | k + 1, x3, x4, x5, x9, x10 => if x10 = true then (if 0 ≤ (mn 1 (x3.length : Int)) then (if (mn 1 (x3.length : Int)) ≤ (x3.length : Int) then ((some (x3.drop ((mn 1 (x3.length : Int)) : Int).toNat : List Int)).bind fun y125 => (graph_Idom.l3 k x3 x4 x5 x9 false y125 (y125.length : Int) 0)) else (none)) else (none)) else (some x5)
def graph_Idom.l3 : Nat → List Int → List Int → List Int → List (List Int) → Bool → List Int → Int → Int → Option (List Int)
  | 0, _, _, _, _, _, _, _, _ => none
  | k + 1, x3, x4, x5, x9, x10, x55, x56, x57 => if x57 < x56 then (if 0 ≤ x57 then (if x57 < (x55.length : Int) then (if 0 ≤ (rd x55 x57) then (if (rd x55 x57) < (x9.length : Int) then (graph_Idom.l4 k x3 x4 x5 x9 x10 (rd x55 x57) (-1) x55 x56 x57 (rd_L1 x9 (rd x55 x57)) ((rd_L1 x9 (rd x55 x57)).length : Int) 0) else (none)) else (none)) else (none)) else (none)) else (graph_Idom.l2 k x3 x4 x5 x9 x10)
def graph_Idom.l4 : Nat → List Int → List Int → List Int → List (List Int) → Bool → Int → Int → List Int → Int → Int → List Int → Int → Int → Option (List Int)
  | 0, _, _, _, _, _, _, _, _, _, _, _, _, _ => none
  | k + 1, x3, x4, x5, x9, x10, x12, x13, x55, x56, x57, x64, x65, x66 => if x66 < x65 then (if 0 ≤ x66 then (if x66 < (x64.length : Int) then (if 0 ≤ (rd x64 x66) then (if (rd x64 x66) < (x4.length : Int) then (if (rd x4 (rd x64 x66)) < 0 then (graph_Idom.j5 k x3 x4 x5 x9 x10 x12 x13 (rd x64 x66) x55 x56 x57 x64 x65 x66 true) else (if (rd x64 x66) = 0 then (graph_Idom.j5 k x3 x4 x5 x9 x10 x12 x13 (rd x64 x66) x55 x56 x57 x64 x65 x66 false) else (if (rd x64 x66) < (x5.length : Int) then (graph_Idom.j5 k x3 x4 x5 x9 x10 x12 x13 (rd x64 x66) x55 x56 x57 x64 x65 x66 (decide ((rd x5 (rd x64 x66)) < 0))) else (none)))) else (none)) else (none)) else (none)) else (none)) else (if 0 ≤ x12 then (if x12 < (x5.length : Int) then (if (rd x5 x12) = x13 then (graph_Idom.l3 k x3 x4 x5 x9 x10 x55 x56 (wrap64 (x57 + 1))) else (graph_Idom.l3 k x3 x4 (x5.set (x12 : Int).toNat x13) x9 true x55 x56 (wrap64 (x57 + 1)))) else (none)) else (none))
def graph_Idom.j5 : Nat → List Int → List Int → List Int → List (List Int) → Bool → Int → Int → Int → List Int → Int → Int → List Int → Int → Int → Bool → Option (List Int)
  | 0, _, _, _, _, _, _, _, _, _, _, _, _, _, _, _ => none
  | k + 1, x3, x4, x5, x9, x10, x12, x13, x15, x55, x56, x57, x64, x65, x66, x85 => if x85 = true then (graph_Idom.l4 k x3 x4 x5 x9 x10 x12 x13 x55 x56 x57 x64 x65 (wrap64 (x66 + 1))) else (if x13 < 0 then (graph_Idom.l4 k x3 x4 x5 x9 x10 x12 x15 x55 x56 x57 x64 x65 (wrap64 (x66 + 1))) else ((graph_common.f k x5 x4 x13 x15).bind fun t136 => (graph_Idom.l4 k x3 x4 x5 x9 x10 x12 t136 x55 x56 x57 x64 x65 (wrap64 (x66 + 1)))))
end
def graph_Idom.f (k : Nat) (l0 : List (List Int)) : Option (List Int) := (graph_Order.f k l0).bind fun t109 => (if 0 ≤ (l0.length : Int) then (if ((l0.length : Int) : Int).toNat ≤ 35184372088832 then (graph_Idom.l0 k l0 t109 (List.replicate ((l0.length : Int) : Int).toNat 0) (List.replicate ((l0.length : Int) : Int).toNat 0) (l0.length : Int) 0) else (none)) else (none))
theorem graph_Idom.mono_l : ∀ k, (∀ y0 y1 y2 y3 y4 y5, LeO (graph_Idom.l0 k y0 y1 y2 y3 y4 y5) (graph_Idom.l0 (k + 1) y0 y1 y2 y3 y4 y5)) ∧ (∀ y0 y1 y2 y3 y4 y5 y6, LeO (graph_Idom.l1 k y0 y1 y2 y3 y4 y5 y6) (graph_Idom.l1 (k + 1) y0 y1 y2 y3 y4 y5 y6)) ∧ (∀ y0 y1 y2 y3 y4, LeO (graph_Idom.l2 k y0 y1 y2 y3 y4) (graph_Idom.l2 (k + 1) y0 y1 y2 y3 y4)) ∧ (∀ y0 y1 y2 y3 y4 y5 y6 y7, LeO (graph_Idom.l3 k y0 y1 y2 y3 y4 y5 y6 y7) (graph_Idom.l3 (k + 1) y0 y1 y2 y3 y4 y5 y6 y7)) ∧ (∀ y0 y1 y2 y3 y4 y5 y6 y7 y8 y9 y10 y11 y12, LeO (graph_Idom.l4 k y0 y1 y2 y3 y4 y5 y6 y7 y8 y9 y10 y11 y12) (graph_Idom.l4 (k + 1) y0 y1 y2 y3 y4 y5 y6 y7 y8 y9 y10 y11 y12)) ∧ (∀ y0 y1 y2 y3 y4 y5 y6 y7 y8 y9 y10 y11 y12 y13 y14, LeO (graph_Idom.j5 k y0 y1 y2 y3 y4 y5 y6 y7 y8 y9 y10 y11 y12 y13 y14) (graph_Idom.j5 (k + 1) y0 y1 y2 y3 y4 y5 y6 y7 y8 y9 y10 y11 y12 y13 y14))
  | 0 => ⟨fun _ _ _ _ _ _ r h => by simp [graph_Idom.l0] at h, fun _ _ _ _ _ _ _ r h => by simp [graph_Idom.l1] at h, fun _ _ _ _ _ r h => by simp [graph_Idom.l2] at h, fun _ _ _ _ _ _ _ _ r h => by simp [graph_Idom.l3] at h, fun _ _ _ _ _ _ _ _ _ _ _ _ _ r h => by simp [graph_Idom.l4] at h, fun _ _ _ _ _ _ _ _ _ _ _ _ _ _ _ r h => by simp [graph_Idom.j5] at h⟩
  | k + 1 => by
    obtain ⟨ih0, ih1, ih2, ih3, ih4, ih5⟩ := graph_Idom.mono_l k
    refine ⟨?_, ?_, ?_, ?_, ?_, ?_⟩
    · intro y0 y1 y2 y3 y4 y5
      unfold graph_Idom.l0
      repeat' first | (with_reducible exact LeO.refl _) | (with_reducible refine LeO.ite ?_ ?_) | (with_reducible refine LeO.bind ?_ (fun _ => ?_)) | exact LeO.none _ | exact ih0 _ _ _ _ _ _ | exact ih1 _ _ _ _ _ _ _ | exact ih2 _ _ _ _ _ | exact ih3 _ _ _ _ _ _ _ _ | exact ih4 _ _ _ _ _ _ _ _ _ _ _ _ _ | exact ih5 _ _ _ _ _ _ _ _ _ _ _ _ _ _ _ | exact graph_Order.mono _ _ | exact graph_common.mono _ _ _ _ _ | refine LeO.ite ?_ ?_ | refine LeO.bind ?_ (fun _ => ?_)
    · intro y0 y1 y2 y3 y4 y5 y6
      unfold graph_Idom.l1
      repeat' first | (with_reducible exact LeO.refl _) | (with_reducible refine LeO.ite ?_ ?_) | (with_reducible refine LeO.bind ?_ (fun _ => ?_)) | exact LeO.none _ | exact ih0 _ _ _ _ _ _ | exact ih1 _ _ _ _ _ _ _ | exact ih2 _ _ _ _ _ | exact ih3 _ _ _ _ _ _ _ _ | exact ih4 _ _ _ _ _ _ _ _ _ _ _ _ _ | exact ih5 _ _ _ _ _ _ _ _ _ _ _ _ _ _ _ | exact graph_Order.mono _ _ | exact graph_common.mono _ _ _ _ _ | refine LeO.ite ?_ ?_ | refine LeO.bind ?_ (fun _ => ?_)
    · intro y0 y1 y2 y3 y4
      unfold graph_Idom.l2
      repeat' first | (with_reducible exact LeO.refl _) | (with_reducible refine LeO.ite ?_ ?_) | (with_reducible refine LeO.bind ?_ (fun _ => ?_)) | exact LeO.none _ | exact ih0 _ _ _ _ _ _ | exact ih1 _ _ _ _ _ _ _ | exact ih2 _ _ _ _ _ | exact ih3 _ _ _ _ _ _ _ _ | exact ih4 _ _ _ _ _ _ _ _ _ _ _ _ _ | exact ih5 _ _ _ _ _ _ _ _ _ _ _ _ _ _ _ | exact graph_Order.mono _ _ | exact graph_common.mono _ _ _ _ _ | refine LeO.ite ?_ ?_ | refine LeO.bind ?_ (fun _ => ?_)
    · intro y0 y1 y2 y3 y4 y5 y6 y7
      unfold graph_Idom.l3
      repeat' first | (with_reducible exact LeO.refl _) | (with_reducible refine LeO.ite ?_ ?_) | (with_reducible refine LeO.bind ?_ (fun _ => ?_)) | exact LeO.none _ | exact ih0 _ _ _ _ _ _ | exact ih1 _ _ _ _ _ _ _ | exact ih2 _ _ _ _ _ | exact ih3 _ _ _ _ _ _ _ _ | exact ih4 _ _ _ _ _ _ _ _ _ _ _ _ _ | exact ih5 _ _ _ _ _ _ _ _ _ _ _ _ _ _ _ | exact graph_Order.mono _ _ | exact graph_common.mono _ _ _ _ _ | refine LeO.ite ?_ ?_ | refine LeO.bind ?_ (fun _ => ?_)
    · intro y0 y1 y2 y3 y4 y5 y6 y7 y8 y9 y10 y11 y12
      unfold graph_Idom.l4
      repeat' first | (with_reducible exact LeO.refl _) | (with_reducible refine LeO.ite ?_ ?_) | (with_reducible refine LeO.bind ?_ (fun _ => ?_)) | exact LeO.none _ | exact ih0 _ _ _ _ _ _ | exact ih1 _ _ _ _ _ _ _ | exact ih2 _ _ _ _ _ | exact ih3 _ _ _ _ _ _ _ _ | exact ih4 _ _ _ _ _ _ _ _ _ _ _ _ _ | exact ih5 _ _ _ _ _ _ _ _ _ _ _ _ _ _ _ | exact graph_Order.mono _ _ | exact graph_common.mono _ _ _ _ _ | refine LeO.ite ?_ ?_ | refine LeO.bind ?_ (fun _ => ?_)
    · intro y0 y1 y2 y3 y4 y5 y6 y7 y8 y9 y10 y11 y12 y13 y14
      unfold graph_Idom.j5
      repeat' first | (with_reducible exact LeO.refl _) | (with_reducible refine LeO.ite ?_ ?_) | (with_reducible refine LeO.bind ?_ (fun _ => ?_)) | exact LeO.none _ | exact ih0 _ _ _ _ _ _ | exact ih1 _ _ _ _ _ _ _ | exact ih2 _ _ _ _ _ | exact ih3 _ _ _ _ _ _ _ _ | exact ih4 _ _ _ _ _ _ _ _ _ _ _ _ _ | exact ih5 _ _ _ _ _ _ _ _ _ _ _ _ _ _ _ | exact graph_Order.mono _ _ | exact graph_common.mono _ _ _ _ _ | refine LeO.ite ?_ ?_ | refine LeO.bind ?_ (fun _ => ?_)
theorem graph_Idom.mono : ∀ a0 k, LeO (graph_Idom.f k a0) (graph_Idom.f (k + 1) a0) := by
  intro a0 k
  obtain ⟨ih0, ih1, ih2, ih3, ih4, ih5⟩ := graph_Idom.mono_l k
  unfold graph_Idom.f
  repeat' first | (with_reducible exact LeO.refl _) | (with_reducible refine LeO.ite ?_ ?_) | (with_reducible refine LeO.bind ?_ (fun _ => ?_)) | exact LeO.none _ | exact ih0 _ _ _ _ _ _ | exact ih1 _ _ _ _ _ _ _ | exact ih2 _ _ _ _ _ | exact ih3 _ _ _ _ _ _ _ _ | exact ih4 _ _ _ _ _ _ _ _ _ _ _ _ _ | exact ih5 _ _ _ _ _ _ _ _ _ _ _ _ _ _ _ | exact graph_Order.mono _ _ | exact graph_common.mono _ _ _ _ _ | refine LeO.ite ?_ ?_ | refine LeO.bind ?_ (fun _ => ?_)
set_option maxHeartbeats 8000000 in
set_option maxRecDepth 100000 in
theorem graph_Idom.calls (k : Nat) (A0 : Option Addr) (c0 : Nat) (l0 : List (List Int)) (r : List Int) (w : World) (hr0 : Kd.C (Kd.slice 3 (Kd.int .i64)) w A0 l0.length l0) (hc0 : l0.length ≤ c0) (h : graph_Idom.f k l0 = some r) :
    Calls Try.prog 30 #[.slice A0 l0.length c0] w fun e w' => ∃ v0_ : Value, e = .returned (v0_) ∧ Kd.R (Kd.int .i64) 3 w' w.heap.size (fun _ => True) v0_ r ∧ Below w.heap.size w w' := by
  have HR0 := Aside0.mk hr0
  have HC0 := Aside0.mk hc0
  clear hr0 hc0
  have HB := Aside0.mk (Below.refl w.heap.size w)
  have H : ((graph_Order.f k l0).bind fun t109 => (if 0 ≤ (l0.length : Int) then (if ((l0.length : Int) : Int).toNat ≤ 35184372088832 then (graph_Idom.l0 k l0 t109 (List.replicate ((l0.length : Int) : Int).toNat 0) (List.replicate ((l0.length : Int) : Int).toNat 0) (l0.length : Int) 0) else (none)) else (none))) = some r := h
  clear h
  replace H := Option.bind_eq_some_iff.mp H
  obtain ⟨t109, A20, H⟩ := H
  have A2 := Aside0.mk A20
  clear A20
  by_cases c3 : 0 ≤ (l0.length : Int)
  · rw [if_pos c3] at H
    have c3b0 := eq_true c3
    have c3b1 : decide (0 ≤ (l0.length : Int)) = true := decide_eq_true c3
    clear c3
    by_cases c4 : ((l0.length : Int) : Int).toNat ≤ 35184372088832
    · rw [if_pos c4] at H
      have c4b0 := eq_true c4
      have c4b1 : decide (((l0.length : Int) : Int).toNat ≤ 35184372088832) = true := decide_eq_true c4
      clear c4
      obtain ⟨y112, hy112⟩ : ∃ y_ : List Int, y_ = (List.replicate ((l0.length : Int) : Int).toNat 0) := ⟨_, rfl⟩
      replace H : (graph_Idom.l0 k l0 t109 y112 (List.replicate ((l0.length : Int) : Int).toNat 0) (l0.length : Int) 0) = some r := by first | (rw [hy112]; with_reducible exact H) | (have H2_ := (Option.bind_some _ _).symm.trans H; rw [hy112]; with_reducible exact H2_) | (have H2_ := (Option.bind_some _ _).symm.trans H; with_reducible exact H2_) | with_reducible exact H | (rw [hy112]; exact H) | exact H
      have Ny112 := Aside0.mk hy112
      clear hy112
      obtain ⟨y115, hy115⟩ : ∃ y_ : List Int, y_ = (List.replicate ((l0.length : Int) : Int).toNat 0) := ⟨_, rfl⟩
      replace H : (graph_Idom.l0 k l0 t109 y112 y115 (l0.length : Int) 0) = some r := by first | (rw [hy115]; with_reducible exact H) | (have H2_ := (Option.bind_some _ _).symm.trans H; rw [hy115]; with_reducible exact H2_) | (have H2_ := (Option.bind_some _ _).symm.trans H; with_reducible exact H2_) | with_reducible exact H | (rw [hy115]; exact H) | exact H
      have Ny115 := Aside0.mk hy115
      clear hy115
      have H' := Aside0.mk H
      clear H
      go_enter Try.func30, Try.ntmps30
      go_wp2_with (first | ((with_reducible refine gate_callee (f := 26) rfl ?_); refine goesL_ (some 17) rfl rfl Try.func26 (by kernel_rfl) rfl #[.slice A0 l0.length c0] rfl (by (try simp only [List.map_toArray, List.map_cons, List.map_nil]); first | done | rfl | (simp only [List.length_drop, List.length_take]; rfl)) ?_; (with_reducible refine (graph_Order.calls k _ _ l0 t109 _ ?side1 ?side2 A2.out).mono ?_); (case side1 => repeat (first | exact HR0.out | (with_reducible refine Kd.C_alloc ?_ _) | (with_reducible refine Kd.C_drewN ?_ _) | (with_reducible refine Kd.C_drew ?_))); (case side2 => exact HC0.out); rintro e w5 ⟨v110, rfl, ho0, hb⟩; refine ⟨_, rfl, ?_⟩; have n0_ := Aside0.mk (Kd.R_lower ho0 (below_size (by repeat (first | exact HB.out | apply below_alloc | apply pw_below_drewN | apply below_drew1)))); have n1_ := Aside0.mk (below_step (by repeat (first | exact HB.out | apply below_alloc | apply pw_below_drewN | apply below_drew1)) hb); clear HB; have HO111 := n0_; have HB := n1_; clear n0_ n1_; (try clear hb); (try clear hb2); (try clear hk); (try clear hi); (try clear ho0)) | ((with_reducible refine gate_dst (N := 20) rfl ?_); refine Kd.R_make (Kd.int .i64) _ 3 rfl (N := 20) rfl 23 _ _ rfl (l0.length : Int) rfl rfl Try.underlying23 (.int .i64 0) 8 info3 rfl (by decide) (by omega) 0 (ok := fun _ => True) (okp := fun _ => True) rfl (fun _ hk => hk) trivial (of_decide_eq_true (by first | (with_reducible assumption) | assumption)) (Nat.le_trans (Nat.mul_le_mul_right _ (of_decide_eq_true (by first | (with_reducible assumption) | assumption) : (l0.length : Int).toNat ≤ 35184372088832)) (by omega)) (Below.refl _ _) (Nat.le_refl _) ?_; intro v113 w6 ho7 hb hg_ hnew_; clear hg_ hnew_; (first | rw [← Ny112.out] at ho7 | (simp only [Int.reduceToNat] at ho7; rw [← Ny112.out] at ho7)); have n0_ := Aside0.mk (Kd.R_elder' (by (with_reducible repeat (first | apply Kd.R_alloc | apply Kd.R_drewN | apply Kd.R_drew)); exact HO111.out) (Kd.R_base ho7) hb); have n1_ := Aside0.mk (Kd.R_lower (Kd.R_new' ho7 (Kd.R_lt (by (with_reducible repeat (first | apply Kd.R_alloc | apply Kd.R_drewN | apply Kd.R_drew)); exact HO111.out))) (below_size (by repeat (first | exact HB.out | apply below_alloc | apply pw_below_drewN | apply below_drew1)))); have n2_ := Aside0.mk (below_step (by repeat (first | exact HB.out | apply below_alloc | apply pw_below_drewN | apply below_drew1)) hb); clear HO111; clear HB; have HO111 := n0_; have HO114 := n1_; have HB := n2_; clear n0_ n1_ n2_; clear hb ho7) | ((with_reducible refine gate_dst (N := 23) rfl ?_); refine Kd.R_make (Kd.int .i64) _ 3 rfl (N := 23) rfl 23 _ _ rfl (l0.length : Int) rfl rfl Try.underlying23 (.int .i64 0) 8 info3 rfl (by decide) (by omega) 0 (ok := fun _ => True) (okp := fun _ => True) rfl (fun _ hk => hk) trivial (of_decide_eq_true (by first | (with_reducible assumption) | assumption)) (Nat.le_trans (Nat.mul_le_mul_right _ (of_decide_eq_true (by first | (with_reducible assumption) | assumption) : (l0.length : Int).toNat ≤ 35184372088832)) (by omega)) (Below.refl _ _) (Nat.le_refl _) ?_; intro v116 w8 ho9 hb hg_ hnew_; clear hg_ hnew_; (first | rw [← Ny115.out] at ho9 | (simp only [Int.reduceToNat] at ho9; rw [← Ny115.out] at ho9)); have n0_ := Aside0.mk (Kd.R_elder' (by (with_reducible repeat (first | apply Kd.R_alloc | apply Kd.R_drewN | apply Kd.R_drew)); exact HO111.out) (Kd.R_base ho9) hb); have n1_ := Aside0.mk (Kd.R_elder' (by (with_reducible repeat (first | apply Kd.R_alloc | apply Kd.R_drewN | apply Kd.R_drew)); exact HO114.out) (Kd.R_base ho9) hb); have n2_ := Aside0.mk (Kd.R_lower (Kd.R_new' (Kd.R_new' ho9 (Kd.R_lt (by (with_reducible repeat (first | apply Kd.R_alloc | apply Kd.R_drewN | apply Kd.R_drew)); exact HO111.out))) (Kd.R_lt (by (with_reducible repeat (first | apply Kd.R_alloc | apply Kd.R_drewN | apply Kd.R_drew)); exact HO114.out))) (below_size (by repeat (first | exact HB.out | apply below_alloc | apply pw_below_drewN | apply below_drew1)))); have n3_ := Aside0.mk (below_step (by repeat (first | exact HB.out | apply below_alloc | apply pw_below_drewN | apply below_drew1)) hb); clear HO111; clear HO114; clear HB; have HO111 := n0_; have HO114 := n1_; have HO117 := n2_; have HB := n3_; clear n0_ n1_ n2_ n3_; clear hb ho9))
      go_loopg [26] k (fun kq v26 w' => ∃ (x4_1 : List Int) (x5_1 : List Int) (x26_1 : Int), v26 = .int .i64 x26_1 ∧ Aside0 (graph_Idom.l0 kq l0 t109 x4_1 x5_1 (l0.length : Int) x26_1 = some r) ∧ Aside0 (kq ≤ k) ∧ Aside0 (Kd.R (Kd.int .i64) 3 w' w.heap.size (fun k_ => some k_ ≠ (v113 : Value).ownBlock ∧ some k_ ≠ (v116 : Value).ownBlock) v110 t109) ∧ Aside0 (Kd.R (Kd.int .i64) 3 w' w.heap.size (fun k_ => some k_ ≠ (v110 : Value).ownBlock ∧ some k_ ≠ (v116 : Value).ownBlock) v113 x4_1) ∧ Aside0 (Kd.R (Kd.int .i64) 3 w' w.heap.size (fun k_ => some k_ ≠ (v110 : Value).ownBlock ∧ some k_ ≠ (v113 : Value).ownBlock) v116 x5_1) ∧ Aside0 (Below w.heap.size w w'))
      case atStart => exact ⟨(y112), (y115), (0), (by first | rfl | (simp; done) | (simp [*]; done)), H', ⟨Nat.le_refl _⟩, ⟨by (with_reducible repeat (first | apply Kd.R_alloc | apply Kd.R_drewN | apply Kd.R_drew)); exact Kd.R_mono HO111.out (fun _ hk => ⟨hk.1.2, hk.2⟩)⟩, ⟨by (with_reducible repeat (first | apply Kd.R_alloc | apply Kd.R_drewN | apply Kd.R_drew)); exact Kd.R_mono HO114.out (fun _ hk => ⟨hk.1.2, hk.2⟩)⟩, ⟨by (with_reducible repeat (first | apply Kd.R_alloc | apply Kd.R_drewN | apply Kd.R_drew)); exact Kd.R_mono HO117.out (fun _ hk => ⟨hk.1.2, hk.2⟩)⟩, ⟨by repeat (first | exact HB.out | apply below_alloc | apply pw_below_drewN | apply below_drew1)⟩⟩
      case round =>
        clear H'; (try clear c2); (try clear p2); (try clear c3); (try clear c3b0); (try clear c3b1); (try clear c4); (try clear c4b0); (try clear c4b1)
        obtain ⟨x4_1, x5_1, x26_1, rfl, HA, HK1, HO_3, HO_4, HO_5, HB⟩ := hrel
        cases gk with
        | zero => exact absurd HA.out (by simp [graph_Idom.l0])
        | succ k1 =>
          have H := HA.out
          clear HA
          simp only [graph_Idom.l0] at H
          by_cases c10 : x26_1 < (l0.length : Int)
          · rw [if_pos c10] at H
            have c10b0 : decide (x26_1 < (l0.length : Int)) = true := decide_eq_true c10
            clear c10
            by_cases c11 : 0 ≤ x26_1
            · rw [if_pos c11] at H
              have c11b0 : decide (0 ≤ x26_1) = true := decide_eq_true c11
              clear c11
              by_cases c12 : x26_1 < (x4_1.length : Int)
              · rw [if_pos c12] at H
                have c12b0 : decide (x26_1 < (x4_1.length : Int)) = true := decide_eq_true c12
                clear c12
                obtain ⟨y118, hy118⟩ : ∃ y_ : List Int, y_ = (x4_1.set (x26_1 : Int).toNat (-1)) := ⟨_, rfl⟩
                replace H : (if x26_1 < (x5_1.length : Int) then (graph_Idom.l0 k1 l0 t109 y118 (x5_1.set (x26_1 : Int).toNat (-1)) (l0.length : Int) (wrap64 (x26_1 + 1))) else (none)) = some r := by first | (rw [hy118]; with_reducible exact H) | (have H2_ := (Option.bind_some _ _).symm.trans H; rw [hy118]; with_reducible exact H2_) | (have H2_ := (Option.bind_some _ _).symm.trans H; with_reducible exact H2_) | with_reducible exact H | (rw [hy118]; exact H) | exact H
                have Ny118 := Aside0.mk hy118
                clear hy118
                by_cases c14 : x26_1 < (x5_1.length : Int)
                · rw [if_pos c14] at H
                  have c14b0 : decide (x26_1 < (x5_1.length : Int)) = true := decide_eq_true c14
                  clear c14
                  obtain ⟨y119, hy119⟩ : ∃ y_ : List Int, y_ = (x5_1.set (x26_1 : Int).toNat (-1)) := ⟨_, rfl⟩
                  replace H : (graph_Idom.l0 k1 l0 t109 y118 y119 (l0.length : Int) (wrap64 (x26_1 + 1))) = some r := by first | (rw [hy119]; with_reducible exact H) | (have H2_ := (Option.bind_some _ _).symm.trans H; rw [hy119]; with_reducible exact H2_) | (have H2_ := (Option.bind_some _ _).symm.trans H; with_reducible exact H2_) | with_reducible exact H | (rw [hy119]; exact H) | exact H
                  have Ny119 := Aside0.mk hy119
                  clear hy119
                  have H' := Aside0.mk H
                  clear H
                  have p13 : 0 ≤ (x26_1 : Int) := of_decide_eq_true (by first | (with_reducible assumption) | assumption)
                  have q13 : (x26_1 : Int) < ((x4_1.length : Int) : Int) := of_decide_eq_true (by first | (with_reducible assumption) | assumption)
                  obtain ⟨go13, co13, eo13, gb13, gl13, cl13, HG13⟩ := Kd.R_form HO_4.out (by omega)
                  (first | cases eo13 | (injection eo13 with ea_ en_ ec_; (first | subst ea_ | (injection ea_ with ea_; subst ea_)); subst ec_; clear en_))
                  have GB13 := Aside0.mk gb13
                  have GG13 := Aside0.mk HG13
                  clear gb13 gl13 HG13
                  obtain ⟨hx13_0, hf13_0⟩ := Kd.R_celln 0 HO_4.out (x26_1 : Int) p13 q13
                  replace p13 := eq_true p13
                  replace q13 := eq_true q13
                  have HP16 := Kd.R_putg HO_4.out (x26_1 : Int) (-1)
                  go_wp2_with (first | ((with_reducible refine gate_store (t := 3) (p := 33) rfl ?_); refine store_event (t := 3) (p := 33) (v := ?vo_w17) (w1 := (wr.setCell ⟨go13, (x26_1 : Int).toNat, none⟩ (.int .i64 (-1)))) ?hg ?ho ?hn ?hr ?_; (case ho => rfl); (case hg => rfl); (case hn => rfl); (case hr => first | (go_simp; done) | (go_simp; rfl)); intro w17 hw; have hg : wr.grownBy w17 (some go13) := (by rw [hw]; exact HP16.2); have hp_ : Kd.R (Kd.int .i64) 3 w17 w.heap.size (fun k_ => some k_ ≠ (v110 : Value).ownBlock ∧ some k_ ≠ (v116 : Value).ownBlock) (.slice (some ⟨go13, 0, none⟩) x4_1.length co13) y118 := (by rw [hw, Ny118.out]; exact HP16.1); clear HP16; have n0_ := Aside0.mk (Kd.R_after (v := (.slice (some ⟨go13, 0, none⟩) x4_1.length co13)) (v1 := (.slice (some ⟨go13, 0, none⟩) x4_1.length co13)) (ok := (fun k_ => some k_ ≠ (v116 : Value).ownBlock)) (by (with_reducible repeat (first | apply Kd.R_alloc | apply Kd.R_drewN | apply Kd.R_drew)); exact Kd.R_mono HO_3.out (fun _ hk => ⟨hk.2, hk.1⟩)) hg (.inl rfl)); have n1_ := Aside0.mk (hp_); have n2_ := Aside0.mk (Kd.R_after (v := (.slice (some ⟨go13, 0, none⟩) x4_1.length co13)) (v1 := (.slice (some ⟨go13, 0, none⟩) x4_1.length co13)) (ok := (fun k_ => some k_ ≠ (v110 : Value).ownBlock)) (by (with_reducible repeat (first | apply Kd.R_alloc | apply Kd.R_drewN | apply Kd.R_drew)); exact HO_5.out) hg (.inl rfl)); have n3_ := Aside0.mk ((by rw [hw]; exact below_set (HB.out) GB13.out : Below w.heap.size w w17)); clear HO_3; clear HO_4; clear HO_5; clear HB; have HO_3 := n0_; have HO_4 := n1_; have HO_5 := n2_; have HB := n3_; clear n0_ n1_ n2_ n3_; clear hg hw hp_; have p15 : 0 ≤ (x26_1 : Int) := of_decide_eq_true (by first | (with_reducible assumption) | assumption); have q15 : (x26_1 : Int) < ((x5_1.length : Int) : Int) := of_decide_eq_true (by first | (with_reducible assumption) | assumption); obtain ⟨go15, co15, eo15, gb15, gl15, cl15, HG15⟩ := Kd.R_form HO_5.out (by omega); (first | cases eo15 | (injection eo15 with ea_ en_ ec_; (first | subst ea_ | (injection ea_ with ea_; subst ea_)); subst ec_; clear en_)); have GB15 := Aside0.mk gb15; have GG15 := Aside0.mk HG15; clear gb15 gl15 HG15; obtain ⟨hx15_0, hf15_0⟩ := Kd.R_celln 0 HO_5.out (x26_1 : Int) p15 q15; replace p15 := eq_true p15; replace q15 := eq_true q15; obtain ⟨hy18_, hz18_⟩ := Kd.R_celln 0 HO_5.out (x26_1 : Int) (of_decide_eq_true (by first | (with_reducible assumption) | assumption)) (of_decide_eq_true (by first | (with_reducible assumption) | assumption)); have HP18 := Kd.R_putg HO_5.out (x26_1 : Int) (-1)) | ((with_reducible refine gate_store (t := 3) (p := 34) rfl ?_); refine store_event (t := 3) (p := 34) (v := ?vo_w19) (w1 := (w17.setCell ⟨go15, (x26_1 : Int).toNat, none⟩ (.int .i64 (-1)))) ?hg ?ho ?hn ?hr ?_; (case ho => rfl); (case hg => rfl); (case hn => rfl); (case hr => first | (go_simp; done) | (go_simp; rfl)); intro w19 hw; have hg : w17.grownBy w19 (some go15) := (by rw [hw]; exact HP18.2); have hp_ : Kd.R (Kd.int .i64) 3 w19 w.heap.size (fun k_ => some k_ ≠ (v110 : Value).ownBlock ∧ some k_ ≠ (.slice (some ⟨go13, 0, none⟩) x4_1.length co13 : Value).ownBlock) (.slice (some ⟨go15, 0, none⟩) x5_1.length co15) y119 := (by rw [hw, Ny119.out]; exact HP18.1); clear HP18; have n0_ := Aside0.mk (Kd.R_after (v := (.slice (some ⟨go15, 0, none⟩) x5_1.length co15)) (v1 := (.slice (some ⟨go15, 0, none⟩) x5_1.length co15)) (ok := (fun k_ => some k_ ≠ (.slice (some ⟨go13, 0, none⟩) x4_1.length co13 : Value).ownBlock)) (by (with_reducible repeat (first | apply Kd.R_alloc | apply Kd.R_drewN | apply Kd.R_drew)); exact Kd.R_mono HO_3.out (fun _ hk => ⟨hk.2, hk.1⟩)) hg (.inl rfl)); have n1_ := Aside0.mk (Kd.R_after (v := (.slice (some ⟨go15, 0, none⟩) x5_1.length co15)) (v1 := (.slice (some ⟨go15, 0, none⟩) x5_1.length co15)) (ok := (fun k_ => some k_ ≠ (v110 : Value).ownBlock)) (by (with_reducible repeat (first | apply Kd.R_alloc | apply Kd.R_drewN | apply Kd.R_drew)); exact HO_4.out) hg (.inl rfl)); have n2_ := Aside0.mk (hp_); have n3_ := Aside0.mk ((by rw [hw]; exact below_set (HB.out) GB15.out : Below w.heap.size w w19)); clear HO_3; clear HO_4; clear HO_5; clear HB; have HO_3 := n0_; have HO_4 := n1_; have HO_5 := n2_; have HB := n3_; clear n0_ n1_ n2_ n3_; clear hg hw hp_))
                  go_roundg k1
                  case measure => have := HK1.out; omega
                  case rel => exact ⟨(y118), (y119), (wrap64 (x26_1 + 1)), (by first | rfl | (simp; done) | (simp [*]; done)), H', ⟨by have := HK1.out; omega⟩, ⟨by (with_reducible repeat (first | apply Kd.R_alloc | apply Kd.R_drewN | apply Kd.R_drew)); exact HO_3.out⟩, ⟨by (with_reducible repeat (first | apply Kd.R_alloc | apply Kd.R_drewN | apply Kd.R_drew)); exact HO_4.out⟩, ⟨by (with_reducible repeat (first | apply Kd.R_alloc | apply Kd.R_drewN | apply Kd.R_drew)); exact HO_5.out⟩, ⟨by repeat (first | exact HB.out | apply below_alloc | apply pw_below_drewN | apply below_drew1)⟩⟩
                · rw [if_neg c14] at H
                  exact absurd H (by simp)
              · rw [if_neg c12] at H
                exact absurd H (by simp)
            · rw [if_neg c11] at H
              exact absurd H (by simp)
          · rw [if_neg c10] at H
            have c10b0 : decide (x26_1 < (l0.length : Int)) = false := decide_eq_false c10
            clear c10
            have H' := Aside0.mk H
            clear H
            obtain ⟨Ao20, co20, eo20⟩ := Kd.R_slice HO_3.out
            subst eo20
            go_wp2
            go_loopg [38] k1 (fun kq v38 w' => ∃ (x4_2 : List Int) (x38_2 : Int), v38 = .int .i64 x38_2 ∧ Aside0 (graph_Idom.l1 kq l0 t109 x4_2 x5_1 t109 (t109.length : Int) x38_2 = some r) ∧ Aside0 (kq ≤ k1) ∧ Aside0 (Kd.R (Kd.int .i64) 3 w' w.heap.size (fun k_ => some k_ ≠ (v113 : Value).ownBlock ∧ some k_ ≠ (v116 : Value).ownBlock) (.slice Ao20 t109.length co20) t109) ∧ Aside0 (Kd.R (Kd.int .i64) 3 w' w.heap.size (fun k_ => some k_ ≠ ((.slice Ao20 t109.length co20) : Value).ownBlock ∧ some k_ ≠ (v116 : Value).ownBlock ∧ some k_ ≠ ((.slice Ao20 t109.length co20) : Value).ownBlock) v113 x4_2) ∧ Aside0 (Kd.R (Kd.int .i64) 3 w' w.heap.size (fun k_ => some k_ ≠ ((.slice Ao20 t109.length co20) : Value).ownBlock ∧ some k_ ≠ (v113 : Value).ownBlock ∧ some k_ ≠ ((.slice Ao20 t109.length co20) : Value).ownBlock) v116 x5_1) ∧ Aside0 (Kd.R (Kd.int .i64) 3 w' w.heap.size (fun k_ => some k_ ≠ (v113 : Value).ownBlock ∧ some k_ ≠ (v116 : Value).ownBlock) (.slice Ao20 t109.length co20) t109) ∧ Aside0 (Below w.heap.size w w'))
            case atStart => exact ⟨(x4_1), (0), (by first | rfl | (simp; done) | (simp [*]; done)), H', ⟨Nat.le_refl _⟩, ⟨by (with_reducible repeat (first | apply Kd.R_alloc | apply Kd.R_drewN | apply Kd.R_drew)); exact HO_3.out⟩, ⟨by (with_reducible repeat (first | apply Kd.R_alloc | apply Kd.R_drewN | apply Kd.R_drew)); exact Kd.R_mono HO_4.out (fun _ hk => ⟨hk.1, ⟨hk.2, hk.1⟩⟩)⟩, ⟨by (with_reducible repeat (first | apply Kd.R_alloc | apply Kd.R_drewN | apply Kd.R_drew)); exact Kd.R_mono HO_5.out (fun _ hk => ⟨hk.1, ⟨hk.2, hk.1⟩⟩)⟩, ⟨by (with_reducible repeat (first | apply Kd.R_alloc | apply Kd.R_drewN | apply Kd.R_drew)); exact HO_3.out⟩, ⟨by repeat (first | exact HB.out | apply below_alloc | apply pw_below_drewN | apply below_drew1)⟩⟩
            case round =>
              clear H'; (try clear c1); (try clear p1); (try clear q1); (try clear hx1); (try clear hf1); (try clear c2); (try clear p2); (try clear c3); (try clear c3b0); (try clear c3b1); (try clear c4); (try clear c4b0); (try clear c4b1); (try clear p6); (try clear c10); (try clear c10b0); (try clear c11); (try clear c11b0); (try clear c12); (try clear c12b0); (try clear p13); (try clear q13); (try clear hx13); (try clear hf13); (try clear c14); (try clear c14b0); (try clear p15); (try clear q15); (try clear hx15); (try clear hf15); (try clear hx13_0); (try clear hx15_0); (try clear p13); (try clear p15); (try clear p2); (try clear q13); (try clear q15)
              obtain ⟨x4_2, x38_2, rfl, HA, HK2, HO_3, HO_4, HO_5, HO_36, HB⟩ := hrel
              cases gk with
              | zero => exact absurd HA.out (by simp [graph_Idom.l1])
              | succ k2 =>
                have H := HA.out
                clear HA
                simp only [graph_Idom.l1] at H
                by_cases c21 : x38_2 < (t109.length : Int)
                · rw [if_pos c21] at H
                  have c21b0 : decide (x38_2 < (t109.length : Int)) = true := decide_eq_true c21
                  clear c21
                  by_cases c22 : 0 ≤ x38_2
                  · rw [if_pos c22] at H
                    have c22b0 : decide (0 ≤ x38_2) = true := decide_eq_true c22
                    clear c22
                    by_cases c23 : x38_2 < (t109.length : Int)
                    · rw [if_pos c23] at H
                      have c23b0 : decide (x38_2 < (t109.length : Int)) = true := decide_eq_true c23
                      clear c23
                      by_cases c24 : 0 ≤ (rd t109 x38_2)
                      · rw [if_pos c24] at H
                        have c24b0 : decide (0 ≤ (rd t109 x38_2)) = true := decide_eq_true c24
                        clear c24
                        by_cases c25 : (rd t109 x38_2) < (x4_2.length : Int)
                        · rw [if_pos c25] at H
                          have c25b0 : decide ((rd t109 x38_2) < (x4_2.length : Int)) = true := decide_eq_true c25
                          clear c25
                          obtain ⟨y121, hy121⟩ : ∃ y_ : List Int, y_ = (x4_2.set ((rd t109 x38_2) : Int).toNat x38_2) := ⟨_, rfl⟩
                          replace H : (graph_Idom.l1 k2 l0 t109 y121 x5_1 t109 (t109.length : Int) (wrap64 (x38_2 + 1))) = some r := by first | (rw [hy121]; with_reducible exact H) | (have H2_ := (Option.bind_some _ _).symm.trans H; rw [hy121]; with_reducible exact H2_) | (have H2_ := (Option.bind_some _ _).symm.trans H; with_reducible exact H2_) | with_reducible exact H | (rw [hy121]; exact H) | exact H
                          have Ny121 := Aside0.mk hy121
                          clear hy121
                          have H' := Aside0.mk H
                          clear H
                          have p120 : 0 ≤ (x38_2 : Int) := of_decide_eq_true (by first | (with_reducible assumption) | assumption)
                          have q120 : x38_2 < (t109.length : Int) := of_decide_eq_true (by first | (with_reducible assumption) | assumption)
                          obtain ⟨ad120, e120, hx120_0⟩ := Kd.at_int (Kd.R_reads' HO_36.out).2.2 x38_2 p120 q120
                          cases e120
                          replace p120 := eq_true p120
                          replace q120 := eq_true q120
                          have p26 : 0 ≤ ((rd t109 x38_2) : Int) := of_decide_eq_true (by first | (with_reducible assumption) | assumption)
                          have q26 : ((rd t109 x38_2) : Int) < ((x4_2.length : Int) : Int) := of_decide_eq_true (by first | (with_reducible assumption) | assumption)
                          obtain ⟨go26, co26, eo26, gb26, gl26, cl26, HG26⟩ := Kd.R_form HO_4.out (by omega)
                          (first | cases eo26 | (injection eo26 with ea_ en_ ec_; (first | subst ea_ | (injection ea_ with ea_; subst ea_)); subst ec_; clear en_))
                          have GB26 := Aside0.mk gb26
                          have GG26 := Aside0.mk HG26
                          clear gb26 gl26 HG26
                          obtain ⟨hx26_0, hf26_0⟩ := Kd.R_celln 0 HO_4.out ((rd t109 x38_2) : Int) p26 q26
                          replace p26 := eq_true p26
                          replace q26 := eq_true q26
                          have HP27 := Kd.R_putg HO_4.out ((rd t109 x38_2) : Int) x38_2
                          go_wp2_with (first | ((with_reducible refine gate_store (t := 3) (p := 46) rfl ?_); refine store_event (t := 3) (p := 46) (v := ?vo_w28) (w1 := (wr.setCell ⟨go26, ((rd t109 x38_2) : Int).toNat, none⟩ (.int .i64 x38_2))) ?hg ?ho ?hn ?hr ?_; (case ho => rfl); (case hg => rfl); (case hn => rfl); (case hr => first | (go_simp; done) | (go_simp; rfl)); intro w28 hw; have hg : wr.grownBy w28 (some go26) := (by rw [hw]; exact HP27.2); have hp_ : Kd.R (Kd.int .i64) 3 w28 w.heap.size (fun k_ => some k_ ≠ (.slice (some ad120) t109.length co20 : Value).ownBlock ∧ some k_ ≠ (v116 : Value).ownBlock ∧ some k_ ≠ (.slice (some ad120) t109.length co20 : Value).ownBlock) (.slice (some ⟨go26, 0, none⟩) x4_2.length co26) y121 := (by rw [hw, Ny121.out]; exact HP27.1); clear HP27; have n0_ := Aside0.mk (Kd.R_after (v := (.slice (some ⟨go26, 0, none⟩) x4_2.length co26)) (v1 := (.slice (some ⟨go26, 0, none⟩) x4_2.length co26)) (ok := (fun k_ => some k_ ≠ (v116 : Value).ownBlock)) (by (with_reducible repeat (first | apply Kd.R_alloc | apply Kd.R_drewN | apply Kd.R_drew)); exact Kd.R_mono HO_3.out (fun _ hk => ⟨hk.2, hk.1⟩)) hg (.inl rfl)); have n1_ := Aside0.mk (hp_); have n2_ := Aside0.mk (Kd.R_after (v := (.slice (some ⟨go26, 0, none⟩) x4_2.length co26)) (v1 := (.slice (some ⟨go26, 0, none⟩) x4_2.length co26)) (ok := (fun k_ => some k_ ≠ (.slice (some ad120) t109.length co20 : Value).ownBlock ∧ some k_ ≠ (.slice (some ad120) t109.length co20 : Value).ownBlock)) (by (with_reducible repeat (first | apply Kd.R_alloc | apply Kd.R_drewN | apply Kd.R_drew)); exact Kd.R_mono HO_5.out (fun _ hk => ⟨⟨hk.1, hk.2.2⟩, hk.2.1⟩)) hg (.inl rfl)); have n3_ := Aside0.mk (Kd.R_after (v := (.slice (some ⟨go26, 0, none⟩) x4_2.length co26)) (v1 := (.slice (some ⟨go26, 0, none⟩) x4_2.length co26)) (ok := (fun k_ => some k_ ≠ (v116 : Value).ownBlock)) (by (with_reducible repeat (first | apply Kd.R_alloc | apply Kd.R_drewN | apply Kd.R_drew)); exact Kd.R_mono HO_36.out (fun _ hk => ⟨hk.2, hk.1⟩)) hg (.inl rfl)); have n4_ := Aside0.mk ((by rw [hw]; exact below_set (HB.out) GB26.out : Below w.heap.size w w28)); clear HO_3; clear HO_4; clear HO_5; clear HO_36; clear HB; have HO_3 := n0_; have HO_4 := n1_; have HO_5 := n2_; have HO_36 := n3_; have HB := n4_; clear n0_ n1_ n2_ n3_ n4_; clear hg hw hp_))
                          go_roundg k2
                          case measure => have := HK1.out; have := HK2.out; omega
                          case rel => exact ⟨(y121), (wrap64 (x38_2 + 1)), (by first | rfl | (simp; done) | (simp [*]; done)), H', ⟨by have := HK1.out; have := HK2.out; omega⟩, ⟨by (with_reducible repeat (first | apply Kd.R_alloc | apply Kd.R_drewN | apply Kd.R_drew)); exact Kd.R_mono HO_3.out (fun _ hk => ⟨hk.2, hk.1⟩)⟩, ⟨by (with_reducible repeat (first | apply Kd.R_alloc | apply Kd.R_drewN | apply Kd.R_drew)); exact HO_4.out⟩, ⟨by (with_reducible repeat (first | apply Kd.R_alloc | apply Kd.R_drewN | apply Kd.R_drew)); exact Kd.R_mono HO_5.out (fun _ hk => ⟨hk.1.1, ⟨hk.2, hk.1.2⟩⟩)⟩, ⟨by (with_reducible repeat (first | apply Kd.R_alloc | apply Kd.R_drewN | apply Kd.R_drew)); exact Kd.R_mono HO_36.out (fun _ hk => ⟨hk.2, hk.1⟩)⟩, ⟨by repeat (first | exact HB.out | apply below_alloc | apply pw_below_drewN | apply below_drew1)⟩⟩
                        · rw [if_neg c25] at H
                          exact absurd H (by simp)
                      · rw [if_neg c24] at H
                        exact absurd H (by simp)
                    · rw [if_neg c23] at H
                      exact absurd H (by simp)
                  · rw [if_neg c22] at H
                    exact absurd H (by simp)
                · rw [if_neg c21] at H
                  have c21b0 : decide (x38_2 < (t109.length : Int)) = false := decide_eq_false c21
                  clear c21
                  replace H := Option.bind_eq_some_iff.mp H
                  obtain ⟨t122, A290, H⟩ := H
                  have A29 := Aside0.mk A290
                  clear A290
                  have H' := Aside0.mk H
                  clear H
                  go_wp2_with (first | ((with_reducible refine gate_callee (f := 47) rfl ?_); refine goesL_ (some 49) rfl rfl Try.func47 (by kernel_rfl) rfl #[.slice A0 l0.length c0] rfl (by (try simp only [List.map_toArray, List.map_cons, List.map_nil]); first | done | rfl | (simp only [List.length_drop, List.length_take]; rfl)) ?_; (with_reducible refine (graph_Preds.calls _ _ l0 t122 _ ?side1 ?side2 A29.out).mono ?_); (case side1 => repeat (first | exact (Kd.C_below HR0.out HB.out) | (with_reducible refine Kd.C_alloc ?_ _) | (with_reducible refine Kd.C_drewN ?_ _) | (with_reducible refine Kd.C_drew ?_))); (case side2 => exact HC0.out); rintro e w30 ⟨v123, rfl, ho0, hb⟩; refine ⟨_, rfl, ?_⟩; have n0_ := Aside0.mk (Kd.R_below (by (with_reducible repeat (first | apply Kd.R_alloc | apply Kd.R_drewN | apply Kd.R_drew)); exact HO_3.out) hb); have n1_ := Aside0.mk (Kd.R_below (by (with_reducible repeat (first | apply Kd.R_alloc | apply Kd.R_drewN | apply Kd.R_drew)); exact HO_4.out) hb); have n2_ := Aside0.mk (Kd.R_below (by (with_reducible repeat (first | apply Kd.R_alloc | apply Kd.R_drewN | apply Kd.R_drew)); exact HO_5.out) hb); have n3_ := Aside0.mk (Kd.R_below (by (with_reducible repeat (first | apply Kd.R_alloc | apply Kd.R_drewN | apply Kd.R_drew)); exact HO_36.out) hb); have n4_ := Aside0.mk (Kd.S_lower (Kd.S_new' (Kd.S_new' (Kd.S_new' (Kd.S_new' ho0 (Kd.R_lt (by (with_reducible repeat (first | apply Kd.R_alloc | apply Kd.R_drewN | apply Kd.R_drew)); exact HO_3.out))) (Kd.R_lt (by (with_reducible repeat (first | apply Kd.R_alloc | apply Kd.R_drewN | apply Kd.R_drew)); exact HO_4.out))) (Kd.R_lt (by (with_reducible repeat (first | apply Kd.R_alloc | apply Kd.R_drewN | apply Kd.R_drew)); exact HO_5.out))) (Kd.R_lt (by (with_reducible repeat (first | apply Kd.R_alloc | apply Kd.R_drewN | apply Kd.R_drew)); exact HO_36.out))) (below_size (by repeat (first | exact HB.out | apply below_alloc | apply pw_below_drewN | apply below_drew1)))); have n5_ := Aside0.mk (below_step (by repeat (first | exact HB.out | apply below_alloc | apply pw_below_drewN | apply below_drew1)) hb); clear HO_3; clear HO_4; clear HO_5; clear HO_36; clear HB; have HO_3 := n0_; have HO_4 := n1_; have HO_5 := n2_; have HO_36 := n3_; have HO124 := n4_; have HB := n5_; clear n0_ n1_ n2_ n3_ n4_ n5_; (try clear hb); (try clear hb2); (try clear hk); (try clear hi); (try clear ho0)))
                  go_loopg [10] k2 (fun kq v10 w' => ∃ (x5_3 : List Int) (x10_3 : Bool), v10 = .bool x10_3 ∧ Aside0 (graph_Idom.l2 kq t109 x4_2 x5_3 t122 x10_3 = some r) ∧ Aside0 (kq ≤ k2) ∧ Aside0 (Kd.R (Kd.int .i64) 3 w' w.heap.size (fun k_ => some k_ ≠ (v113 : Value).ownBlock ∧ some k_ ≠ (v116 : Value).ownBlock) (.slice Ao20 t109.length co20) t109) ∧ Aside0 (Kd.R (Kd.int .i64) 3 w' w.heap.size (fun k_ => some k_ ≠ ((.slice Ao20 t109.length co20) : Value).ownBlock ∧ some k_ ≠ (v116 : Value).ownBlock) v113 x4_2) ∧ Aside0 (Kd.R (Kd.int .i64) 3 w' w.heap.size (fun k_ => some k_ ≠ ((.slice Ao20 t109.length co20) : Value).ownBlock ∧ some k_ ≠ (v113 : Value).ownBlock) v116 x5_3) ∧ Aside0 (Kd.S (Kd.slice 3 (Kd.int .i64)) 23 w' w.heap.size (fun k_ => some k_ ≠ ((.slice Ao20 t109.length co20) : Value).ownBlock ∧ some k_ ≠ (v113 : Value).ownBlock ∧ some k_ ≠ (v116 : Value).ownBlock) v123 t122) ∧ Aside0 (Below w.heap.size w w'))
                  case atStart => exact ⟨(x5_1), (true), (by first | rfl | (simp; done) | (simp [*]; done)), H', ⟨Nat.le_refl _⟩, ⟨by (with_reducible repeat (first | apply Kd.R_alloc | apply Kd.R_drewN | apply Kd.R_drew)); exact HO_3.out⟩, ⟨by (with_reducible repeat (first | apply Kd.R_alloc | apply Kd.R_drewN | apply Kd.R_drew)); exact Kd.R_mono HO_4.out (fun _ hk => ⟨hk.1, hk.2.1⟩)⟩, ⟨by (with_reducible repeat (first | apply Kd.R_alloc | apply Kd.R_drewN | apply Kd.R_drew)); exact Kd.R_mono HO_5.out (fun _ hk => ⟨hk.1, hk.2.1⟩)⟩, ⟨by (with_reducible repeat (first | apply Kd.S_alloc | apply Kd.S_drewN | apply Kd.S_drew)); exact Kd.S_mono HO124.out (fun _ hk => ⟨hk.1.1.1.2, ⟨hk.1.1.2, hk.1.2⟩⟩)⟩, ⟨by repeat (first | exact HB.out | apply below_alloc | apply pw_below_drewN | apply below_drew1)⟩⟩
                  case round =>
                    clear H'; (try clear c1); (try clear p1); (try clear q1); (try clear hx1); (try clear hf1); (try clear c2); (try clear p2); (try clear q2); (try clear hx2); (try clear hf2); (try clear c3); (try clear c3b0); (try clear c3b1); (try clear c4); (try clear c4b0); (try clear c4b1); (try clear p6); (try clear c10); (try clear c10b0); (try clear c11); (try clear c11b0); (try clear c12); (try clear c12b0); (try clear p12); (try clear q12); (try clear hx12); (try clear p13); (try clear q13); (try clear hx13); (try clear hf13); (try clear c14); (try clear c14b0); (try clear p15); (try clear q15); (try clear hx15); (try clear hf15); (try clear c21); (try clear c21b0); (try clear c22); (try clear c22b0); (try clear c23); (try clear c23b0); (try clear c24); (try clear c24b0); (try clear c25); (try clear c25b0); (try clear c26); (try clear p26); (try clear q26); (try clear hx26); (try clear hf26); (try clear c30); (try clear hx120_0); (try clear hx13_0); (try clear hx15_0); (try clear hx26_0); (try clear p1); (try clear p120); (try clear p13); (try clear p15); (try clear p2); (try clear p26); (try clear p6); (try clear q1); (try clear q120); (try clear q13); (try clear q15); (try clear q26)
                    obtain ⟨x5_3, x10_3, rfl, HA, HK3, HO_3, HO_4, HO_5, HO_9, HB⟩ := hrel
                    cases gk with
                    | zero => exact absurd HA.out (by simp [graph_Idom.l2])
                    | succ k3 =>
                      have H := HA.out
                      clear HA
                      simp only [graph_Idom.l2] at H
                      by_cases c31 : x10_3 = true
                      · subst c31
                        rw [if_pos rfl] at H
                        obtain ⟨ji32, hji32⟩ : ∃ j_ : Int, (mn 1 (t109.length : Int)) = j_ := ⟨_, rfl⟩
                        replace H : (if 0 ≤ (ji32) then (if (ji32) ≤ (t109.length : Int) then ((some (t109.drop ((ji32) : Int).toNat : List Int)).bind fun y125 => (graph_Idom.l3 k3 t109 x4_2 x5_3 t122 false y125 (y125.length : Int) 0)) else (none)) else (none)) = some r := by first | (rw [hji32] at H; exact H) | (simp only [hji32] at H ⊢; exact H)
                        have hji32_ : (if (t109.length : Int) < 1 then (t109.length : Int) else 1) = ji32 := hji32
                        by_cases c33 : 0 ≤ (ji32)
                        · rw [if_pos c33] at H
                          have c33b0 := eq_true c33
                          have c33b1 : decide (0 ≤ (ji32)) = true := decide_eq_true c33
                          clear c33
                          by_cases c34 : (ji32) ≤ (t109.length : Int)
                          · rw [if_pos c34] at H
                            have c34b0 := eq_true c34
                            have c34b1 : decide ((ji32) ≤ (t109.length : Int)) = true := decide_eq_true c34
                            clear c34
                            obtain ⟨y125, hy125⟩ : ∃ y_ : List Int, y_ = (t109.drop ((ji32) : Int).toNat) := ⟨_, rfl⟩
                            replace H : (graph_Idom.l3 k3 t109 x4_2 x5_3 t122 false y125 (y125.length : Int) 0) = some r := by first | (rw [hy125]; with_reducible exact H) | (have H2_ := (Option.bind_some _ _).symm.trans H; rw [hy125]; with_reducible exact H2_) | (have H2_ := (Option.bind_some _ _).symm.trans H; with_reducible exact H2_) | with_reducible exact H | (rw [hy125]; exact H) | exact H
                            have Ny125 := Aside0.mk hy125
                            clear hy125
                            have H' := Aside0.mk H
                            clear H
                            have q35 : ((ji32) : Int) ≤ ((t109.length : Int) : Int) := of_decide_eq_true (by first | (with_reducible assumption) | assumption)
                            obtain ⟨i035, hi035, _, hsz35, _⟩ := info_parts info3
                            have hroom35 : t109.length ≤ co20 := (Kd.R_reads' HO_3.out).2.1
                            have hC35 : Kd.C (Kd.int .i64) _ Ao20 t109.length t109 := (Kd.R_reads' HO_3.out).2.2
                            have q035 : (0 : Int) ≤ ((ji32) : Int) := of_decide_eq_true (by first | (with_reducible assumption) | assumption)
                            have hcut35 := cut_from (P := Try.prog) 23 3 .i64 Try.underlying23 hi035 1 hsz35 Ao20 t109.length co20 (ji32) q035 q35
                            have hr35 := Kd.C_drop (m := ((ji32) : Int).toNat) (c := co20) hC35 (by omega) hroom35
                            obtain ⟨A35, hA35⟩ : ∃ A1, A1 = (if co20 = ((ji32) : Int).toNat then Ao20 else (Ao20 : Option Addr).map (·.add (((ji32) : Int).toNat * 1))) := ⟨_, rfl⟩
                            obtain ⟨c35, hc35⟩ : ∃ c1, c1 = co20 - ((ji32) : Int).toNat := ⟨_, rfl⟩
                            have hy35 : y125.length = t109.length - ((ji32) : Int).toNat := (by rw [Ny125.out, List.length_drop] <;> omega)
                            rw [show (t109).drop ((ji32) : Int).toNat = y125 from Ny125.out.symm] at hr35
                            replace hr35 : Kd.C (Kd.int .i64) _ A35 y125.length y125 := (by rw [hA35]; exact hr35)
                            rw [← hy35, ← hA35, ← hc35] at hcut35
                            have HR128 := Aside0.mk hr35
                            have HC128 := Aside0.mk (show y125.length ≤ c35 from by rw [hy35, hc35]; exact Nat.sub_le_sub_right hroom35 _)
                            clear hr35 hC35 hroom35 hi035 hsz35 hc35
                            have KY35 := Aside0.mk hy35
                            have KA35 := Aside0.mk hA35
                            clear hy35 hA35
                            have KL35 := Aside0.mk (show ((ji32) : Int).toNat ≤ t109.length from by omega)
                            replace q35 := eq_true q35
                            go_wp2
                            go_loopg [10, 57] k3 (fun kq v10 v57 w' => ∃ (x5_4 : List Int) (x10_4 : Bool) (x57_4 : Int), v10 = .bool x10_4 ∧ v57 = .int .i64 x57_4 ∧ Aside0 (graph_Idom.l3 kq t109 x4_2 x5_4 t122 x10_4 y125 (y125.length : Int) x57_4 = some r) ∧ Aside0 (kq ≤ k3) ∧ Aside0 (Kd.R (Kd.int .i64) 3 w' w.heap.size (fun k_ => some k_ ≠ (v113 : Value).ownBlock ∧ some k_ ≠ (v116 : Value).ownBlock) (.slice Ao20 t109.length co20) t109) ∧ Aside0 (Kd.R (Kd.int .i64) 3 w' w.heap.size (fun k_ => some k_ ≠ ((.slice Ao20 t109.length co20) : Value).ownBlock ∧ some k_ ≠ (v116 : Value).ownBlock) v113 x4_2) ∧ Aside0 (Kd.R (Kd.int .i64) 3 w' w.heap.size (fun k_ => some k_ ≠ ((.slice Ao20 t109.length co20) : Value).ownBlock ∧ some k_ ≠ (v113 : Value).ownBlock) v116 x5_4) ∧ Aside0 (Kd.S (Kd.slice 3 (Kd.int .i64)) 23 w' w.heap.size (fun k_ => some k_ ≠ ((.slice Ao20 t109.length co20) : Value).ownBlock ∧ some k_ ≠ (v113 : Value).ownBlock ∧ some k_ ≠ (v116 : Value).ownBlock) v123 t122) ∧ Aside0 (Kd.C (Kd.int .i64) w' A35 y125.length y125) ∧ Aside0 (Below w.heap.size w w'))
                            case atStart => exact ⟨(x5_3), (false), (0), (by first | rfl | (simp; done) | (simp [*]; done)), (by first | rfl | (simp; done) | (simp [*]; done)), H', ⟨Nat.le_refl _⟩, ⟨by (with_reducible repeat (first | apply Kd.R_alloc | apply Kd.R_drewN | apply Kd.R_drew)); exact HO_3.out⟩, ⟨by (with_reducible repeat (first | apply Kd.R_alloc | apply Kd.R_drewN | apply Kd.R_drew)); exact HO_4.out⟩, ⟨by (with_reducible repeat (first | apply Kd.R_alloc | apply Kd.R_drewN | apply Kd.R_drew)); exact HO_5.out⟩, ⟨by (with_reducible repeat (first | apply Kd.S_alloc | apply Kd.S_drewN | apply Kd.S_drew)); exact HO_9.out⟩, ⟨by repeat (first | (with_reducible exact HR128.out) | (with_reducible refine Kd.C_alloc ?_ _) | (with_reducible refine Kd.C_drewN ?_ _) | (with_reducible refine Kd.C_drew ?_) | exact HR128.out)⟩, ⟨by repeat (first | exact HB.out | apply below_alloc | apply pw_below_drewN | apply below_drew1)⟩⟩
                            case round =>
                              clear H'; (try clear c1); (try clear p1); (try clear q1); (try clear hx1); (try clear hf1); (try clear c2); (try clear p2); (try clear q2); (try clear hx2); (try clear hf2); (try clear c3); (try clear c3b0); (try clear c3b1); (try clear q3); (try clear c4); (try clear c4b0); (try clear c4b1); (try clear p6); (try clear c10); (try clear c10b0); (try clear c11); (try clear c11b0); (try clear c12); (try clear c12b0); (try clear p12); (try clear q12); (try clear hx12); (try clear p13); (try clear q13); (try clear hx13); (try clear hf13); (try clear c14); (try clear c14b0); (try clear p15); (try clear q15); (try clear hx15); (try clear hf15); (try clear c21); (try clear c21b0); (try clear c22); (try clear c22b0); (try clear c23); (try clear c23b0); (try clear c24); (try clear c24b0); (try clear c25); (try clear c25b0); (try clear c26); (try clear p26); (try clear q26); (try clear hx26); (try clear hf26); (try clear c30); (try clear c31); (try clear c33); (try clear c33b0); (try clear c33b1); (try clear c34); (try clear c34b0); (try clear c34b1); (try clear c35); (try clear q35); (try clear hx120_0); (try clear hx13_0); (try clear hx15_0); (try clear hx26_0); (try clear p1); (try clear p12); (try clear p120); (try clear p13); (try clear p15); (try clear p2); (try clear p26); (try clear p6); (try clear q035); (try clear q1); (try clear q12); (try clear q120); (try clear q13); (try clear q15); (try clear q2); (try clear q26); (try clear q35)
                              obtain ⟨x5_4, x10_4, x57_4, rfl, rfl, HA, HK4, HO_3, HO_4, HO_5, HO_9, HR128, HB⟩ := hrel
                              cases gk with
                              | zero => exact absurd HA.out (by simp [graph_Idom.l3])
                              | succ k4 =>
                                have H := HA.out
                                clear HA
                                simp only [graph_Idom.l3] at H
                                by_cases c36 : x57_4 < (y125.length : Int)
                                · rw [if_pos c36] at H
                                  have c36b0 : decide (x57_4 < (y125.length : Int)) = true := decide_eq_true c36
                                  clear c36
                                  by_cases c37 : 0 ≤ x57_4
                                  · rw [if_pos c37] at H
                                    have c37b0 : decide (0 ≤ x57_4) = true := decide_eq_true c37
                                    clear c37
                                    by_cases c38 : x57_4 < (y125.length : Int)
                                    · rw [if_pos c38] at H
                                      have c38b0 : decide (x57_4 < (y125.length : Int)) = true := decide_eq_true c38
                                      clear c38
                                      by_cases c39 : 0 ≤ (rd y125 x57_4)
                                      · rw [if_pos c39] at H
                                        have c39b0 : decide (0 ≤ (rd y125 x57_4)) = true := decide_eq_true c39
                                        clear c39
                                        by_cases c40 : (rd y125 x57_4) < (t122.length : Int)
                                        · rw [if_pos c40] at H
                                          have c40b0 : decide ((rd y125 x57_4) < (t122.length : Int)) = true := decide_eq_true c40
                                          clear c40
                                          have H' := Aside0.mk H
                                          clear H
                                          have p129 : 0 ≤ (x57_4 : Int) := of_decide_eq_true (by first | (with_reducible assumption) | assumption)
                                          have q129 : x57_4 < (y125.length : Int) := of_decide_eq_true (by first | (with_reducible assumption) | assumption)
                                          obtain ⟨ad129, e129, hx129_0⟩ := Kd.at_int HR128.out x57_4 p129 q129
                                          cases e129
                                          try replace hx129_0 := (HB.out.cell (World.block_lt_of_cell? w _ hx129_0)).trans hx129_0
                                          replace p129 := eq_true p129
                                          replace q129 := eq_true q129
                                          obtain ⟨Ao41, co41, eo41⟩ := Kd.S_slice HO_9.out
                                          subst eo41
                                          have p130 : 0 ≤ ((rd y125 x57_4) : Int) := of_decide_eq_true (by first | (with_reducible assumption) | assumption)
                                          have q130 : (rd y125 x57_4) < (t122.length : Int) := of_decide_eq_true (by first | (with_reducible assumption) | assumption)
                                          obtain ⟨ad130, A130_0, c130_0, e130, hx130_0, hl130_0, hi130_0⟩ := at_L1 (Kd.S_reads' HO_9.out).2.2 (rd y125 x57_4) p130 q130
                                          cases e130
                                          obtain ⟨ce130, hce130, hMe130, hcc130⟩ := Kd.S_get HO_9.out [] (rd y125 x57_4) p130 (by first | exact q130 | exact of_decide_eq_true (by first | (with_reducible assumption) | assumption) | (have e_ := (Kd.S_reads' HO_9.out).1; omega))
                                          obtain ⟨ve130_0, rfl, ge130_0⟩ := hMe130
                                          have hv130_0 := hcc130 0 _ rfl
                                          rw [Nat.add_zero, show ((Kd.slice 3 (Kd.int .i64))).sz = 1 from rfl, Nat.mul_one] at hv130_0
                                          replace hv130_0 := Option.some.inj (hv130_0.symm.trans hx130_0)
                                          rw [hv130_0] at ge130_0
                                          have HL130_0 := Aside0.mk (show Kd.R (Kd.int .i64) 3 _ _ _ _ (rd_L1 t122 (rd y125 x57_4)) from ge130_0)
                                          clear hv130_0 ge130_0; clear hcc130 hce130
                                          have HR130_0 := Aside0.mk hi130_0
                                          have HC130_0 := Aside0.mk hl130_0
                                          clear hi130_0 hl130_0
                                          replace p130 := eq_true p130
                                          replace q130 := eq_true q130
                                          go_wp2
                                          go_loopg [13, 66] k4 (fun kq v13 v66 w' => ∃ (x13_5 : Int) (x66_5 : Int), v13 = .int .i64 x13_5 ∧ v66 = .int .i64 x66_5 ∧ Aside0 (graph_Idom.l4 kq t109 x4_2 x5_4 t122 x10_4 (rd y125 x57_4) x13_5 y125 (y125.length : Int) x57_4 (rd_L1 t122 (rd y125 x57_4)) ((rd_L1 t122 (rd y125 x57_4)).length : Int) x66_5 = some r) ∧ Aside0 (kq ≤ k4) ∧ Aside0 (Kd.R (Kd.int .i64) 3 w' w.heap.size (fun k_ => some k_ ≠ (v113 : Value).ownBlock ∧ some k_ ≠ (v116 : Value).ownBlock) (.slice Ao20 t109.length co20) t109) ∧ Aside0 (Kd.R (Kd.int .i64) 3 w' w.heap.size (fun k_ => some k_ ≠ ((.slice Ao20 t109.length co20) : Value).ownBlock ∧ some k_ ≠ (v116 : Value).ownBlock) v113 x4_2) ∧ Aside0 (Kd.R (Kd.int .i64) 3 w' w.heap.size (fun k_ => some k_ ≠ ((.slice Ao20 t109.length co20) : Value).ownBlock ∧ some k_ ≠ (v113 : Value).ownBlock) v116 x5_4) ∧ Aside0 (Kd.S (Kd.slice 3 (Kd.int .i64)) 23 w' w.heap.size (fun k_ => some k_ ≠ ((.slice Ao20 t109.length co20) : Value).ownBlock ∧ some k_ ≠ (v113 : Value).ownBlock ∧ some k_ ≠ (v116 : Value).ownBlock) (.slice (some ad130) t122.length co41) t122) ∧ Aside0 (Kd.C (Kd.int .i64) w' (some ad129) y125.length y125) ∧ Aside0 (Kd.C (Kd.int .i64) w' A130_0 (rd_L1 t122 (rd y125 x57_4)).length (rd_L1 t122 (rd y125 x57_4))) ∧ Aside0 (Below w.heap.size w w'))
                                          case atStart => exact ⟨((-1)), (0), (by first | rfl | (simp; done) | (simp [*]; done)), (by first | rfl | (simp; done) | (simp [*]; done)), H', ⟨Nat.le_refl _⟩, ⟨by (with_reducible repeat (first | apply Kd.R_alloc | apply Kd.R_drewN | apply Kd.R_drew)); exact HO_3.out⟩, ⟨by (with_reducible repeat (first | apply Kd.R_alloc | apply Kd.R_drewN | apply Kd.R_drew)); exact HO_4.out⟩, ⟨by (with_reducible repeat (first | apply Kd.R_alloc | apply Kd.R_drewN | apply Kd.R_drew)); exact HO_5.out⟩, ⟨by (with_reducible repeat (first | apply Kd.S_alloc | apply Kd.S_drewN | apply Kd.S_drew)); exact HO_9.out⟩, ⟨by repeat (first | (with_reducible exact HR128.out) | (with_reducible refine Kd.C_alloc ?_ _) | (with_reducible refine Kd.C_drewN ?_ _) | (with_reducible refine Kd.C_drew ?_) | exact HR128.out)⟩, ⟨by repeat (first | (with_reducible exact HR130_0.out) | (with_reducible refine Kd.C_alloc ?_ _) | (with_reducible refine Kd.C_drewN ?_ _) | (with_reducible refine Kd.C_drew ?_) | exact HR130_0.out)⟩, ⟨by repeat (first | exact HB.out | apply below_alloc | apply pw_below_drewN | apply below_drew1)⟩⟩
                                          case round =>
                                            clear H'; (try clear c1); (try clear p1); (try clear q1); (try clear hx1); (try clear hf1); (try clear c2); (try clear p2); (try clear q2); (try clear hx2); (try clear hf2); (try clear c3); (try clear c3b0); (try clear c3b1); (try clear q3); (try clear c4); (try clear c4b0); (try clear c4b1); (try clear p6); (try clear c10); (try clear c10b0); (try clear c11); (try clear c11b0); (try clear c12); (try clear c12b0); (try clear p12); (try clear q12); (try clear hx12); (try clear c13); (try clear p13); (try clear q13); (try clear hx13); (try clear hf13); (try clear c14); (try clear c14b0); (try clear p15); (try clear q15); (try clear hx15); (try clear hf15); (try clear c21); (try clear c21b0); (try clear c22); (try clear c22b0); (try clear c23); (try clear c23b0); (try clear c24); (try clear c24b0); (try clear c25); (try clear c25b0); (try clear c26); (try clear p26); (try clear q26); (try clear hx26); (try clear hf26); (try clear c30); (try clear c31); (try clear c33); (try clear c33b0); (try clear c33b1); (try clear c34); (try clear c34b0); (try clear c34b1); (try clear c35); (try clear q35); (try clear c36); (try clear c36b0); (try clear c37); (try clear c37b0); (try clear c38); (try clear c38b0); (try clear c39); (try clear c39b0); (try clear c40); (try clear c40b0); (try clear hx120_0); (try clear hx129_0); (try clear hx130_0); (try clear hx13_0); (try clear hx15_0); (try clear hx26_0); (try clear p1); (try clear p12); (try clear p120); (try clear p129); (try clear p13); (try clear p130); (try clear p15); (try clear p2); (try clear p26); (try clear p6); (try clear q035); (try clear q1); (try clear q12); (try clear q120); (try clear q129); (try clear q13); (try clear q130); (try clear q15); (try clear q2); (try clear q26); (try clear q3); (try clear q35)
                                            obtain ⟨x13_5, x66_5, rfl, rfl, HA, HK5, HO_3, HO_4, HO_5, HO_9, HR128, HR130_0, HB⟩ := hrel
                                            cases gk with
                                            | zero => exact absurd HA.out (by simp [graph_Idom.l4])
                                            | succ k5 =>
                                              have H := HA.out
                                              clear HA
                                              simp only [graph_Idom.l4] at H
                                              by_cases c42 : x66_5 < ((rd_L1 t122 (rd y125 x57_4)).length : Int)
                                              · rw [if_pos c42] at H
                                                have c42b0 : decide (x66_5 < ((rd_L1 t122 (rd y125 x57_4)).length : Int)) = true := decide_eq_true c42
                                                clear c42
                                                by_cases c43 : 0 ≤ x66_5
                                                · rw [if_pos c43] at H
                                                  have c43b0 : decide (0 ≤ x66_5) = true := decide_eq_true c43
                                                  clear c43
                                                  by_cases c44 : x66_5 < ((rd_L1 t122 (rd y125 x57_4)).length : Int)
                                                  · rw [if_pos c44] at H
                                                    have c44b0 : decide (x66_5 < ((rd_L1 t122 (rd y125 x57_4)).length : Int)) = true := decide_eq_true c44
                                                    clear c44
                                                    have HC45 := Aside0.mk H
                                                    clear H
                                                    have p133 : 0 ≤ (x66_5 : Int) := of_decide_eq_true (by first | (with_reducible assumption) | assumption)
                                                    have q133 : x66_5 < ((rd_L1 t122 (rd y125 x57_4)).length : Int) := of_decide_eq_true (by first | (with_reducible assumption) | assumption)
                                                    obtain ⟨ad133, e133, hx133_0⟩ := Kd.at_int HR130_0.out x66_5 p133 q133
                                                    cases e133
                                                    try replace hx133_0 := (HB.out.cell (World.block_lt_of_cell? w _ hx133_0)).trans hx133_0
                                                    replace p133 := eq_true p133
                                                    replace q133 := eq_true q133
                                                    go_upto_region 25 with (fail)
                                                    go_cut [85] (fun v85 wc => ∃ (kq : Nat) (x85_44 : Bool), v85 = .bool x85_44 ∧ Aside0 (graph_Idom.j5 kq t109 x4_2 x5_4 t122 x10_4 (rd y125 x57_4) x13_5 (rd (rd_L1 t122 (rd y125 x57_4)) x66_5) y125 (y125.length : Int) x57_4 (rd_L1 t122 (rd y125 x57_4)) ((rd_L1 t122 (rd y125 x57_4)).length : Int) x66_5 x85_44 = some r) ∧ Aside0 (kq ≤ k5) ∧ Aside0 (Kd.R (Kd.int .i64) 3 wc w.heap.size (fun k_ => some k_ ≠ (v113 : Value).ownBlock ∧ some k_ ≠ (v116 : Value).ownBlock) (.slice Ao20 t109.length co20) t109) ∧ Aside0 (Kd.R (Kd.int .i64) 3 wc w.heap.size (fun k_ => some k_ ≠ ((.slice Ao20 t109.length co20) : Value).ownBlock ∧ some k_ ≠ (v116 : Value).ownBlock) v113 x4_2) ∧ Aside0 (Kd.R (Kd.int .i64) 3 wc w.heap.size (fun k_ => some k_ ≠ ((.slice Ao20 t109.length co20) : Value).ownBlock ∧ some k_ ≠ (v113 : Value).ownBlock) v116 x5_4) ∧ Aside0 (Kd.S (Kd.slice 3 (Kd.int .i64)) 23 wc w.heap.size (fun k_ => some k_ ≠ ((.slice Ao20 t109.length co20) : Value).ownBlock ∧ some k_ ≠ (v113 : Value).ownBlock ∧ some k_ ≠ (v116 : Value).ownBlock) (.slice (some ad130) t122.length co41) t122) ∧ Aside0 (Kd.C (Kd.int .i64) wc (some ad129) y125.length y125) ∧ Aside0 (Kd.C (Kd.int .i64) wc (some ad133) (rd_L1 t122 (rd y125 x57_4)).length (rd_L1 t122 (rd y125 x57_4))) ∧ Aside0 (Below w.heap.size w wc))
                                                    case first =>
                                                      have H := HC45.out
                                                      clear HC45
                                                      by_cases c46 : 0 ≤ (rd (rd_L1 t122 (rd y125 x57_4)) x66_5)
                                                      · rw [if_pos c46] at H
                                                        have c46b0 : decide (0 ≤ (rd (rd_L1 t122 (rd y125 x57_4)) x66_5)) = true := decide_eq_true c46
                                                        clear c46
                                                        (first | rw [c46b0] | (simp only [i64_w, i32_w]; rw [c46b0]) | skip)
                                                        by_cases c47 : (rd (rd_L1 t122 (rd y125 x57_4)) x66_5) < (x4_2.length : Int)
                                                        · rw [if_pos c47] at H
                                                          have c47b0 : decide ((rd (rd_L1 t122 (rd y125 x57_4)) x66_5) < (x4_2.length : Int)) = true := decide_eq_true c47
                                                          clear c47
                                                          by_cases c48 : (rd x4_2 (rd (rd_L1 t122 (rd y125 x57_4)) x66_5)) < 0
                                                          · rw [if_pos c48] at H
                                                            have c48b0 : decide ((rd x4_2 (rd (rd_L1 t122 (rd y125 x57_4)) x66_5)) < 0) = true := decide_eq_true c48
                                                            clear c48
                                                            have H' := Aside0.mk H
                                                            clear H
                                                            obtain ⟨Ao49, co49, eo49⟩ := Kd.R_slice HO_4.out
                                                            subst eo49
                                                            have p134 : 0 ≤ ((rd (rd_L1 t122 (rd y125 x57_4)) x66_5) : Int) := of_decide_eq_true (by first | (with_reducible assumption) | assumption)
                                                            have q134 : (rd (rd_L1 t122 (rd y125 x57_4)) x66_5) < (x4_2.length : Int) := of_decide_eq_true (by first | (with_reducible assumption) | assumption)
                                                            obtain ⟨ad134, e134, hx134_0⟩ := Kd.at_int (Kd.R_reads' HO_4.out).2.2 (rd (rd_L1 t122 (rd y125 x57_4)) x66_5) p134 q134
                                                            cases e134
                                                            replace p134 := eq_true p134
                                                            replace q134 := eq_true q134
                                                            go_wp2
                                                            go_meet
                                                            case rel => exact ⟨_, (true), (by first | rfl | (simp; done) | (simp [*]; done)), H', ⟨by have := HK1.out; have := HK2.out; have := HK3.out; have := HK4.out; have := HK5.out; first | omega | exact Nat.le_refl _⟩, ⟨by (with_reducible repeat (first | apply Kd.R_alloc | apply Kd.R_drewN | apply Kd.R_drew)); exact HO_3.out⟩, ⟨by (with_reducible repeat (first | apply Kd.R_alloc | apply Kd.R_drewN | apply Kd.R_drew)); exact HO_4.out⟩, ⟨by (with_reducible repeat (first | apply Kd.R_alloc | apply Kd.R_drewN | apply Kd.R_drew)); exact HO_5.out⟩, ⟨by (with_reducible repeat (first | apply Kd.S_alloc | apply Kd.S_drewN | apply Kd.S_drew)); exact HO_9.out⟩, ⟨by repeat (first | (with_reducible exact HR128.out) | (with_reducible refine Kd.C_alloc ?_ _) | (with_reducible refine Kd.C_drewN ?_ _) | (with_reducible refine Kd.C_drew ?_) | exact HR128.out)⟩, ⟨by repeat (first | (with_reducible exact HR130_0.out) | (with_reducible refine Kd.C_alloc ?_ _) | (with_reducible refine Kd.C_drewN ?_ _) | (with_reducible refine Kd.C_drew ?_) | exact HR130_0.out)⟩, ⟨by repeat (first | exact HB.out | apply below_alloc | apply pw_below_drewN | apply below_drew1)⟩⟩
                                                          · rw [if_neg c48] at H
                                                            have c48b0 : decide ((rd x4_2 (rd (rd_L1 t122 (rd y125 x57_4)) x66_5)) < 0) = false := decide_eq_false c48
                                                            clear c48
                                                            by_cases c50 : (rd (rd_L1 t122 (rd y125 x57_4)) x66_5) = 0
                                                            · rw [if_pos c50] at H
                                                              have c50b0 : ((rd (rd_L1 t122 (rd y125 x57_4)) x66_5) == 0) = true := beq_iff_eq.mpr c50
                                                              have c50b1 : ((rd (rd_L1 t122 (rd y125 x57_4)) x66_5) != 0) = false := bne_eq_false_iff_eq.mpr c50
                                                              clear c50
                                                              have H' := Aside0.mk H
                                                              clear H
                                                              obtain ⟨Ao51, co51, eo51⟩ := Kd.R_slice HO_4.out
                                                              subst eo51
                                                              have p134 : 0 ≤ ((rd (rd_L1 t122 (rd y125 x57_4)) x66_5) : Int) := of_decide_eq_true (by first | (with_reducible assumption) | assumption)
                                                              have q134 : (rd (rd_L1 t122 (rd y125 x57_4)) x66_5) < (x4_2.length : Int) := of_decide_eq_true (by first | (with_reducible assumption) | assumption)
                                                              obtain ⟨ad134, e134, hx134_0⟩ := Kd.at_int (Kd.R_reads' HO_4.out).2.2 (rd (rd_L1 t122 (rd y125 x57_4)) x66_5) p134 q134
                                                              cases e134
                                                              replace p134 := eq_true p134
                                                              replace q134 := eq_true q134
                                                              go_wp2
                                                              go_meet
                                                              case rel => exact ⟨_, (false), (by first | rfl | (simp; done) | (simp [*]; done)), H', ⟨by have := HK1.out; have := HK2.out; have := HK3.out; have := HK4.out; have := HK5.out; first | omega | exact Nat.le_refl _⟩, ⟨by (with_reducible repeat (first | apply Kd.R_alloc | apply Kd.R_drewN | apply Kd.R_drew)); exact HO_3.out⟩, ⟨by (with_reducible repeat (first | apply Kd.R_alloc | apply Kd.R_drewN | apply Kd.R_drew)); exact HO_4.out⟩, ⟨by (with_reducible repeat (first | apply Kd.R_alloc | apply Kd.R_drewN | apply Kd.R_drew)); exact HO_5.out⟩, ⟨by (with_reducible repeat (first | apply Kd.S_alloc | apply Kd.S_drewN | apply Kd.S_drew)); exact HO_9.out⟩, ⟨by repeat (first | (with_reducible exact HR128.out) | (with_reducible refine Kd.C_alloc ?_ _) | (with_reducible refine Kd.C_drewN ?_ _) | (with_reducible refine Kd.C_drew ?_) | exact HR128.out)⟩, ⟨by repeat (first | (with_reducible exact HR130_0.out) | (with_reducible refine Kd.C_alloc ?_ _) | (with_reducible refine Kd.C_drewN ?_ _) | (with_reducible refine Kd.C_drew ?_) | exact HR130_0.out)⟩, ⟨by repeat (first | exact HB.out | apply below_alloc | apply pw_below_drewN | apply below_drew1)⟩⟩
                                                            · rw [if_neg c50] at H
                                                              have c50b0 : ((rd (rd_L1 t122 (rd y125 x57_4)) x66_5) == 0) = false := beq_eq_false_iff_ne.mpr c50
                                                              have c50b1 : ((rd (rd_L1 t122 (rd y125 x57_4)) x66_5) != 0) = true := bne_iff_ne.mpr c50
                                                              by_cases c52 : (rd (rd_L1 t122 (rd y125 x57_4)) x66_5) < (x5_4.length : Int)
                                                              · rw [if_pos c52] at H
                                                                have c52b0 : decide ((rd (rd_L1 t122 (rd y125 x57_4)) x66_5) < (x5_4.length : Int)) = true := decide_eq_true c52
                                                                clear c52
                                                                have H' := Aside0.mk H
                                                                clear H
                                                                obtain ⟨Ao53, co53, eo53⟩ := Kd.R_slice HO_4.out
                                                                subst eo53
                                                                have p134 : 0 ≤ ((rd (rd_L1 t122 (rd y125 x57_4)) x66_5) : Int) := of_decide_eq_true (by first | (with_reducible assumption) | assumption)
                                                                have q134 : (rd (rd_L1 t122 (rd y125 x57_4)) x66_5) < (x4_2.length : Int) := of_decide_eq_true (by first | (with_reducible assumption) | assumption)
                                                                obtain ⟨ad134, e134, hx134_0⟩ := Kd.at_int (Kd.R_reads' HO_4.out).2.2 (rd (rd_L1 t122 (rd y125 x57_4)) x66_5) p134 q134
                                                                cases e134
                                                                replace p134 := eq_true p134
                                                                replace q134 := eq_true q134
                                                                obtain ⟨Ao54, co54, eo54⟩ := Kd.R_slice HO_5.out
                                                                subst eo54
                                                                have p135 : 0 ≤ ((rd (rd_L1 t122 (rd y125 x57_4)) x66_5) : Int) := of_decide_eq_true (by first | (with_reducible assumption) | assumption)
                                                                have q135 : (rd (rd_L1 t122 (rd y125 x57_4)) x66_5) < (x5_4.length : Int) := of_decide_eq_true (by first | (with_reducible assumption) | assumption)
                                                                obtain ⟨ad135, e135, hx135_0⟩ := Kd.at_int (Kd.R_reads' HO_5.out).2.2 (rd (rd_L1 t122 (rd y125 x57_4)) x66_5) p135 q135
                                                                cases e135
                                                                replace p135 := eq_true p135
                                                                replace q135 := eq_true q135
                                                                go_wp2
                                                                go_meet
                                                                case rel => exact ⟨_, (decide ((rd x5_4 (rd (rd_L1 t122 (rd y125 x57_4)) x66_5)) < 0)), (by first | rfl | (simp; done) | (simp [*]; done)), H', ⟨by have := HK1.out; have := HK2.out; have := HK3.out; have := HK4.out; have := HK5.out; first | omega | exact Nat.le_refl _⟩, ⟨by (with_reducible repeat (first | apply Kd.R_alloc | apply Kd.R_drewN | apply Kd.R_drew)); exact HO_3.out⟩, ⟨by (with_reducible repeat (first | apply Kd.R_alloc | apply Kd.R_drewN | apply Kd.R_drew)); exact HO_4.out⟩, ⟨by (with_reducible repeat (first | apply Kd.R_alloc | apply Kd.R_drewN | apply Kd.R_drew)); exact HO_5.out⟩, ⟨by (with_reducible repeat (first | apply Kd.S_alloc | apply Kd.S_drewN | apply Kd.S_drew)); exact HO_9.out⟩, ⟨by repeat (first | (with_reducible exact HR128.out) | (with_reducible refine Kd.C_alloc ?_ _) | (with_reducible refine Kd.C_drewN ?_ _) | (with_reducible refine Kd.C_drew ?_) | exact HR128.out)⟩, ⟨by repeat (first | (with_reducible exact HR130_0.out) | (with_reducible refine Kd.C_alloc ?_ _) | (with_reducible refine Kd.C_drewN ?_ _) | (with_reducible refine Kd.C_drew ?_) | exact HR130_0.out)⟩, ⟨by repeat (first | exact HB.out | apply below_alloc | apply pw_below_drewN | apply below_drew1)⟩⟩
                                                              · rw [if_neg c52] at H
                                                                exact absurd H (by simp)
                                                        · rw [if_neg c47] at H
                                                          exact absurd H (by simp)
                                                      · rw [if_neg c46] at H
                                                        exact absurd H (by simp)
                                                    case rest =>
                                                      clear HC45; (try clear c1); (try clear p1); (try clear q1); (try clear hx1); (try clear hf1); (try clear c2); (try clear p2); (try clear q2); (try clear hx2); (try clear hf2); (try clear c3); (try clear c3b0); (try clear c3b1); (try clear q3); (try clear c4); (try clear c4b0); (try clear c4b1); (try clear c5); (try clear p6); (try clear c10); (try clear c10b0); (try clear c11); (try clear c11b0); (try clear c12); (try clear c12b0); (try clear p12); (try clear q12); (try clear hx12); (try clear c13); (try clear p13); (try clear q13); (try clear hx13); (try clear hf13); (try clear c14); (try clear c14b0); (try clear p15); (try clear q15); (try clear hx15); (try clear hf15); (try clear c21); (try clear c21b0); (try clear c22); (try clear c22b0); (try clear c23); (try clear c23b0); (try clear c24); (try clear c24b0); (try clear c25); (try clear c25b0); (try clear c26); (try clear p26); (try clear q26); (try clear hx26); (try clear hf26); (try clear c30); (try clear c31); (try clear c33); (try clear c33b0); (try clear c33b1); (try clear c34); (try clear c34b0); (try clear c34b1); (try clear c35); (try clear q35); (try clear c36); (try clear c36b0); (try clear c37); (try clear c37b0); (try clear c38); (try clear c38b0); (try clear c39); (try clear c39b0); (try clear c40); (try clear c40b0); (try clear c42); (try clear c42b0); (try clear c43); (try clear c43b0); (try clear c44); (try clear c44b0); (try clear c46); (try clear c46b0); (try clear c47); (try clear c47b0); (try clear c48); (try clear c48b0); (try clear c50); (try clear c50b0); (try clear c50b1); (try clear c52); (try clear c52b0); (try clear hx120_0); (try clear hx129_0); (try clear hx130_0); (try clear hx133_0); (try clear hx134_0); (try clear hx135_0); (try clear hx13_0); (try clear hx15_0); (try clear hx26_0); (try clear p1); (try clear p12); (try clear p120); (try clear p129); (try clear p13); (try clear p130); (try clear p133); (try clear p134); (try clear p135); (try clear p15); (try clear p2); (try clear p26)
                                                      (try clear p6); (try clear q035); (try clear q1); (try clear q12); (try clear q120); (try clear q129); (try clear q13); (try clear q130); (try clear q133); (try clear q134); (try clear q135); (try clear q15); (try clear q2); (try clear q26); (try clear q3); (try clear q35)
                                                      obtain ⟨kq, x85_44, rfl, HA, HJ44, HO_3, HO_4, HO_5, HO_9, HR128, HR130_0, HB⟩ := hcut
                                                      cases kq with
                                                      | zero => exact absurd HA.out (by simp [graph_Idom.j5])
                                                      | succ kj44 =>
                                                        have H := HA.out
                                                        clear HA
                                                        simp only [graph_Idom.j5] at H
                                                        by_cases c55 : x85_44 = true
                                                        · subst c55
                                                          rw [if_pos rfl] at H
                                                          have H' := Aside0.mk H
                                                          clear H
                                                          go_wp2
                                                          go_roundg kj44
                                                          case measure => have := HK1.out; have := HK2.out; have := HK3.out; have := HK4.out; have := HK5.out; have := HJ44.out; omega
                                                          case rel => exact ⟨(x13_5), (wrap64 (x66_5 + 1)), (by first | rfl | (simp; done) | (simp [*]; done)), (by first | rfl | (simp; done) | (simp [*]; done)), H', ⟨by have := HK1.out; have := HK2.out; have := HK3.out; have := HK4.out; have := HK5.out; have := HJ44.out; omega⟩, ⟨by (with_reducible repeat (first | apply Kd.R_alloc | apply Kd.R_drewN | apply Kd.R_drew)); exact HO_3.out⟩, ⟨by (with_reducible repeat (first | apply Kd.R_alloc | apply Kd.R_drewN | apply Kd.R_drew)); exact HO_4.out⟩, ⟨by (with_reducible repeat (first | apply Kd.R_alloc | apply Kd.R_drewN | apply Kd.R_drew)); exact HO_5.out⟩, ⟨by (with_reducible repeat (first | apply Kd.S_alloc | apply Kd.S_drewN | apply Kd.S_drew)); exact HO_9.out⟩, ⟨by repeat (first | (with_reducible exact HR128.out) | (with_reducible refine Kd.C_alloc ?_ _) | (with_reducible refine Kd.C_drewN ?_ _) | (with_reducible refine Kd.C_drew ?_) | exact HR128.out)⟩, ⟨by repeat (first | (with_reducible exact HR130_0.out) | (with_reducible refine Kd.C_alloc ?_ _) | (with_reducible refine Kd.C_drewN ?_ _) | (with_reducible refine Kd.C_drew ?_) | exact HR130_0.out)⟩, ⟨by repeat (first | exact HB.out | apply below_alloc | apply pw_below_drewN | apply below_drew1)⟩⟩
                                                        · replace c55 := Bool.eq_false_iff.mpr c55
                                                          subst c55
                                                          rw [if_neg (show ¬ (false = true) by decide)] at H
                                                          by_cases c56 : x13_5 < 0
                                                          · rw [if_pos c56] at H
                                                            have c56b0 : decide (x13_5 < 0) = true := decide_eq_true c56
                                                            clear c56
                                                            have H' := Aside0.mk H
                                                            clear H
                                                            go_wp2
                                                            go_roundg kj44
                                                            case measure => have := HK1.out; have := HK2.out; have := HK3.out; have := HK4.out; have := HK5.out; have := HJ44.out; omega
                                                            case rel => exact ⟨((rd (rd_L1 t122 (rd y125 x57_4)) x66_5)), (wrap64 (x66_5 + 1)), (by first | rfl | (simp; done) | (simp [*]; done)), (by first | rfl | (simp; done) | (simp [*]; done)), H', ⟨by have := HK1.out; have := HK2.out; have := HK3.out; have := HK4.out; have := HK5.out; have := HJ44.out; omega⟩, ⟨by (with_reducible repeat (first | apply Kd.R_alloc | apply Kd.R_drewN | apply Kd.R_drew)); exact HO_3.out⟩, ⟨by (with_reducible repeat (first | apply Kd.R_alloc | apply Kd.R_drewN | apply Kd.R_drew)); exact HO_4.out⟩, ⟨by (with_reducible repeat (first | apply Kd.R_alloc | apply Kd.R_drewN | apply Kd.R_drew)); exact HO_5.out⟩, ⟨by (with_reducible repeat (first | apply Kd.S_alloc | apply Kd.S_drewN | apply Kd.S_drew)); exact HO_9.out⟩, ⟨by repeat (first | (with_reducible exact HR128.out) | (with_reducible refine Kd.C_alloc ?_ _) | (with_reducible refine Kd.C_drewN ?_ _) | (with_reducible refine Kd.C_drew ?_) | exact HR128.out)⟩, ⟨by repeat (first | (with_reducible exact HR130_0.out) | (with_reducible refine Kd.C_alloc ?_ _) | (with_reducible refine Kd.C_drewN ?_ _) | (with_reducible refine Kd.C_drew ?_) | exact HR130_0.out)⟩, ⟨by repeat (first | exact HB.out | apply below_alloc | apply pw_below_drewN | apply below_drew1)⟩⟩
                                                          · rw [if_neg c56] at H
                                                            have c56b0 : decide (x13_5 < 0) = false := decide_eq_false c56
                                                            clear c56
                                                            replace H := Option.bind_eq_some_iff.mp H
                                                            obtain ⟨t136, A570, H⟩ := H
                                                            have A57 := Aside0.mk A570
                                                            clear A570
                                                            have H' := Aside0.mk H
                                                            clear H
                                                            obtain ⟨Ao58, co58, eo58⟩ := Kd.R_slice HO_5.out
                                                            subst eo58
                                                            obtain ⟨Ao59, co59, eo59⟩ := Kd.R_slice HO_4.out
                                                            subst eo59
                                                            go_wp2_with (first | ((with_reducible refine gate_callee (f := 73) rfl ?_); refine goesL_ (some 93) rfl rfl Try.func73 (by kernel_rfl) rfl #[.slice Ao58 x5_4.length co58, .slice Ao59 x4_2.length co59, .int .i64 x13_5, .int .i64 (rd (rd_L1 t122 (rd y125 x57_4)) x66_5)] rfl (by (try simp only [List.map_toArray, List.map_cons, List.map_nil]); first | done | rfl | (simp only [List.length_drop, List.length_take]; rfl)) ?_; (with_reducible refine (graph_common.calls kj44 _ _ x5_4 _ _ x4_2 x13_5 (rd (rd_L1 t122 (rd y125 x57_4)) x66_5) t136 _ ?side1 ?side2 ?side3 ?side4 A57.out).mono ?_); (case side1 => repeat (first | exact (Kd.R_reads' HO_5.out).2.2 | (with_reducible refine Kd.C_alloc ?_ _) | (with_reducible refine Kd.C_drewN ?_ _) | (with_reducible refine Kd.C_drew ?_))); (case side2 => exact (Kd.R_reads' HO_5.out).2.1); (case side3 => repeat (first | exact (Kd.R_reads' HO_4.out).2.2 | (with_reducible refine Kd.C_alloc ?_ _) | (with_reducible refine Kd.C_drewN ?_ _) | (with_reducible refine Kd.C_drew ?_))); (case side4 => exact (Kd.R_reads' HO_4.out).2.1); rintro e w' ⟨rfl, ⟨nd, rfl⟩⟩; refine ⟨_, rfl, ?_⟩))
                                                            go_roundg kj44
                                                            case measure => have := HK1.out; have := HK2.out; have := HK3.out; have := HK4.out; have := HK5.out; have := HJ44.out; omega
                                                            case rel => exact ⟨(t136), (wrap64 (x66_5 + 1)), (by first | rfl | (simp; done) | (simp [*]; done)), (by first | rfl | (simp; done) | (simp [*]; done)), H', ⟨by have := HK1.out; have := HK2.out; have := HK3.out; have := HK4.out; have := HK5.out; have := HJ44.out; omega⟩, ⟨by (with_reducible repeat (first | apply Kd.R_alloc | apply Kd.R_drewN | apply Kd.R_drew)); exact HO_3.out⟩, ⟨by (with_reducible repeat (first | apply Kd.R_alloc | apply Kd.R_drewN | apply Kd.R_drew)); exact HO_4.out⟩, ⟨by (with_reducible repeat (first | apply Kd.R_alloc | apply Kd.R_drewN | apply Kd.R_drew)); exact HO_5.out⟩, ⟨by (with_reducible repeat (first | apply Kd.S_alloc | apply Kd.S_drewN | apply Kd.S_drew)); exact HO_9.out⟩, ⟨by repeat (first | (with_reducible exact HR128.out) | (with_reducible refine Kd.C_alloc ?_ _) | (with_reducible refine Kd.C_drewN ?_ _) | (with_reducible refine Kd.C_drew ?_) | exact HR128.out)⟩, ⟨by repeat (first | (with_reducible exact HR130_0.out) | (with_reducible refine Kd.C_alloc ?_ _) | (with_reducible refine Kd.C_drewN ?_ _) | (with_reducible refine Kd.C_drew ?_) | exact HR130_0.out)⟩, ⟨by repeat (first | exact HB.out | apply below_alloc | apply pw_below_drewN | apply below_drew1)⟩⟩
                                                  · rw [if_neg c44] at H
                                                    exact absurd H (by simp)
                                                · rw [if_neg c43] at H
                                                  exact absurd H (by simp)
                                              · rw [if_neg c42] at H
                                                have c42b0 : decide (x66_5 < ((rd_L1 t122 (rd y125 x57_4)).length : Int)) = false := decide_eq_false c42
                                                clear c42
                                                by_cases c60 : 0 ≤ (rd y125 x57_4)
                                                · rw [if_pos c60] at H
                                                  have c60b0 : decide (0 ≤ (rd y125 x57_4)) = true := decide_eq_true c60
                                                  clear c60
                                                  by_cases c61 : (rd y125 x57_4) < (x5_4.length : Int)
                                                  · rw [if_pos c61] at H
                                                    have c61b0 : decide ((rd y125 x57_4) < (x5_4.length : Int)) = true := decide_eq_true c61
                                                    clear c61
                                                    by_cases c62 : (rd x5_4 (rd y125 x57_4)) = x13_5
                                                    · rw [if_pos c62] at H
                                                      have c62b0 : ((rd x5_4 (rd y125 x57_4)) == x13_5) = true := beq_iff_eq.mpr c62
                                                      have c62b1 : ((rd x5_4 (rd y125 x57_4)) != x13_5) = false := bne_eq_false_iff_eq.mpr c62
                                                      clear c62
                                                      have H' := Aside0.mk H
                                                      clear H
                                                      obtain ⟨Ao63, co63, eo63⟩ := Kd.R_slice HO_5.out
                                                      subst eo63
                                                      have p131 : 0 ≤ ((rd y125 x57_4) : Int) := of_decide_eq_true (by first | (with_reducible assumption) | assumption)
                                                      have q131 : (rd y125 x57_4) < (x5_4.length : Int) := of_decide_eq_true (by first | (with_reducible assumption) | assumption)
                                                      obtain ⟨ad131, e131, hx131_0⟩ := Kd.at_int (Kd.R_reads' HO_5.out).2.2 (rd y125 x57_4) p131 q131
                                                      cases e131
                                                      replace p131 := eq_true p131
                                                      replace q131 := eq_true q131
                                                      go_wp2
                                                      go_roundg k5
                                                      case measure => have := HK1.out; have := HK2.out; have := HK3.out; have := HK4.out; have := HK5.out; omega
                                                      case rel => exact ⟨(x5_4), (x10_4), (wrap64 (x57_4 + 1)), (by first | rfl | (simp; done) | (simp [*]; done)), (by first | rfl | (simp; done) | (simp [*]; done)), H', ⟨by have := HK1.out; have := HK2.out; have := HK3.out; have := HK4.out; have := HK5.out; omega⟩, ⟨by (with_reducible repeat (first | apply Kd.R_alloc | apply Kd.R_drewN | apply Kd.R_drew)); exact HO_3.out⟩, ⟨by (with_reducible repeat (first | apply Kd.R_alloc | apply Kd.R_drewN | apply Kd.R_drew)); exact HO_4.out⟩, ⟨by (with_reducible repeat (first | apply Kd.R_alloc | apply Kd.R_drewN | apply Kd.R_drew)); exact HO_5.out⟩, ⟨by (with_reducible repeat (first | apply Kd.S_alloc | apply Kd.S_drewN | apply Kd.S_drew)); exact HO_9.out⟩, ⟨by repeat (first | (with_reducible exact HR128.out) | (with_reducible refine Kd.C_alloc ?_ _) | (with_reducible refine Kd.C_drewN ?_ _) | (with_reducible refine Kd.C_drew ?_) | exact HR128.out)⟩, ⟨by repeat (first | exact HB.out | apply below_alloc | apply pw_below_drewN | apply below_drew1)⟩⟩
                                                    · rw [if_neg c62] at H
                                                      have c62b0 : ((rd x5_4 (rd y125 x57_4)) == x13_5) = false := beq_eq_false_iff_ne.mpr c62
                                                      have c62b1 : ((rd x5_4 (rd y125 x57_4)) != x13_5) = true := bne_iff_ne.mpr c62
                                                      obtain ⟨y132, hy132⟩ : ∃ y_ : List Int, y_ = (x5_4.set ((rd y125 x57_4) : Int).toNat x13_5) := ⟨_, rfl⟩
                                                      replace H : (graph_Idom.l3 k5 t109 x4_2 y132 t122 true y125 (y125.length : Int) (wrap64 (x57_4 + 1))) = some r := by first | (rw [hy132]; with_reducible exact H) | (have H2_ := (Option.bind_some _ _).symm.trans H; rw [hy132]; with_reducible exact H2_) | (have H2_ := (Option.bind_some _ _).symm.trans H; with_reducible exact H2_) | with_reducible exact H | (rw [hy132]; exact H) | exact H
                                                      have Ny132 := Aside0.mk hy132
                                                      clear hy132
                                                      have H' := Aside0.mk H
                                                      clear H
                                                      obtain ⟨Ao65, co65, eo65⟩ := Kd.R_slice HO_5.out
                                                      subst eo65
                                                      have p131 : 0 ≤ ((rd y125 x57_4) : Int) := of_decide_eq_true (by first | (with_reducible assumption) | assumption)
                                                      have q131 : (rd y125 x57_4) < (x5_4.length : Int) := of_decide_eq_true (by first | (with_reducible assumption) | assumption)
                                                      obtain ⟨ad131, e131, hx131_0⟩ := Kd.at_int (Kd.R_reads' HO_5.out).2.2 (rd y125 x57_4) p131 q131
                                                      cases e131
                                                      replace p131 := eq_true p131
                                                      replace q131 := eq_true q131
                                                      have p64 : 0 ≤ ((rd y125 x57_4) : Int) := of_decide_eq_true (by first | (with_reducible assumption) | assumption)
                                                      have q64 : ((rd y125 x57_4) : Int) < ((x5_4.length : Int) : Int) := of_decide_eq_true (by first | (with_reducible assumption) | assumption)
                                                      obtain ⟨go64, co64, eo64, gb64, gl64, cl64, HG64⟩ := Kd.R_form HO_5.out (by omega)
                                                      (first | cases eo64 | (injection eo64 with ea_ en_ ec_; (first | subst ea_ | (injection ea_ with ea_; subst ea_)); subst ec_; clear en_))
                                                      have GB64 := Aside0.mk gb64
                                                      have GG64 := Aside0.mk HG64
                                                      clear gb64 gl64 HG64
                                                      (first | simp only [add_plain] at hx131_0 | skip)
                                                      obtain ⟨hx64_0, hf64_0⟩ := Kd.R_celln 0 HO_5.out ((rd y125 x57_4) : Int) p64 q64
                                                      replace p64 := eq_true p64
                                                      replace q64 := eq_true q64
                                                      have HP66 := Kd.R_putg HO_5.out ((rd y125 x57_4) : Int) x13_5
                                                      go_wp2_with (first | ((with_reducible refine gate_store (t := 3) (p := 104) rfl ?_); refine store_event (t := 3) (p := 104) (v := ?vo_w67) (w1 := (wr.setCell ⟨go64, ((rd y125 x57_4) : Int).toNat, none⟩ (.int .i64 x13_5))) ?hg ?ho ?hn ?hr ?_; (case ho => rfl); (case hg => rfl); (case hn => rfl); (case hr => first | (go_simp; done) | (go_simp; rfl)); intro w67 hw; have hg : wr.grownBy w67 (some go64) := (by rw [hw]; exact HP66.2); have hp_ : Kd.R (Kd.int .i64) 3 w67 w.heap.size (fun k_ => some k_ ≠ (.slice Ao20 t109.length co20 : Value).ownBlock ∧ some k_ ≠ (v113 : Value).ownBlock) (.slice (some ⟨go64, 0, none⟩) x5_4.length co65) y132 := (by rw [hw, Ny132.out]; exact HP66.1); clear HP66; have n0_ := Aside0.mk (Kd.R_after (v := (.slice (some ⟨go64, 0, none⟩) x5_4.length co65)) (v1 := (.slice (some ⟨go64, 0, none⟩) x5_4.length co65)) (ok := (fun k_ => some k_ ≠ (v113 : Value).ownBlock)) (by (with_reducible repeat (first | apply Kd.R_alloc | apply Kd.R_drewN | apply Kd.R_drew)); exact HO_3.out) hg (.inl rfl)); have n1_ := Aside0.mk (Kd.R_after (v := (.slice (some ⟨go64, 0, none⟩) x5_4.length co65)) (v1 := (.slice (some ⟨go64, 0, none⟩) x5_4.length co65)) (ok := (fun k_ => some k_ ≠ (.slice Ao20 t109.length co20 : Value).ownBlock)) (by (with_reducible repeat (first | apply Kd.R_alloc | apply Kd.R_drewN | apply Kd.R_drew)); exact HO_4.out) hg (.inl rfl)); have n2_ := Aside0.mk (hp_); have n3_ := Aside0.mk (Kd.S_after (v := (.slice (some ⟨go64, 0, none⟩) x5_4.length co65)) (v1 := (.slice (some ⟨go64, 0, none⟩) x5_4.length co65)) (ok := (fun k_ => some k_ ≠ (.slice Ao20 t109.length co20 : Value).ownBlock ∧ some k_ ≠ (v113 : Value).ownBlock)) (by (with_reducible repeat (first | apply Kd.S_alloc | apply Kd.S_drewN | apply Kd.S_drew)); exact Kd.S_mono HO_9.out (fun _ hk => ⟨⟨hk.1, hk.2.1⟩, hk.2.2⟩)) hg (.inl rfl)); have n4_ := Aside0.mk ((by rw [hw]; exact below_set (HB.out) GB64.out : Below w.heap.size w w67)); have n5_ := Aside0.mk ((show Kd.C (Kd.int .i64) w67 (some ad129) y125.length y125 from by rw [Ny125.out, KA35.out]; exact Kd.C_drop (m := ((ji32) : Int).toNat) (c := co20) ((Kd.R_reads' (Kd.R_after (v := (.slice (some ⟨go64, 0, none⟩) x5_4.length co65)) (v1 := (.slice (some ⟨go64, 0, none⟩) x5_4.length co65)) (ok := (fun k_ => some k_ ≠ (v113 : Value).ownBlock)) (by (with_reducible repeat (first | apply Kd.R_alloc | apply Kd.R_drewN | apply Kd.R_drew)); exact HO_3.out) hg (.inl rfl))).2.2) KL35.out ((Kd.R_reads' (Kd.R_after (v := (.slice (some ⟨go64, 0, none⟩) x5_4.length co65)) (v1 := (.slice (some ⟨go64, 0, none⟩) x5_4.length co65)) (ok := (fun k_ => some k_ ≠ (v113 : Value).ownBlock)) (by (with_reducible repeat (first | apply Kd.R_alloc | apply Kd.R_drewN | apply Kd.R_drew)); exact HO_3.out) hg (.inl rfl))).2.1))); clear HO_3; clear HO_4; clear HO_5; clear HO_9; clear HB; clear HR128; have HO_3 := n0_; have HO_4 := n1_; have HO_5 := n2_; have HO_9 := n3_; have HB := n4_; have HR128 := n5_; clear n0_ n1_ n2_ n3_ n4_ n5_; clear hg hw hp_))
                                                      go_roundg k5
                                                      case measure => have := HK1.out; have := HK2.out; have := HK3.out; have := HK4.out; have := HK5.out; omega
                                                      case rel => exact ⟨(y132), (true), (wrap64 (x57_4 + 1)), (by first | rfl | (simp; done) | (simp [*]; done)), (by first | rfl | (simp; done) | (simp [*]; done)), H', ⟨by have := HK1.out; have := HK2.out; have := HK3.out; have := HK4.out; have := HK5.out; omega⟩, ⟨by (with_reducible repeat (first | apply Kd.R_alloc | apply Kd.R_drewN | apply Kd.R_drew)); exact HO_3.out⟩, ⟨by (with_reducible repeat (first | apply Kd.R_alloc | apply Kd.R_drewN | apply Kd.R_drew)); exact HO_4.out⟩, ⟨by (with_reducible repeat (first | apply Kd.R_alloc | apply Kd.R_drewN | apply Kd.R_drew)); exact HO_5.out⟩, ⟨by (with_reducible repeat (first | apply Kd.S_alloc | apply Kd.S_drewN | apply Kd.S_drew)); exact Kd.S_mono HO_9.out (fun _ hk => ⟨hk.1.1, ⟨hk.1.2, hk.2⟩⟩)⟩, ⟨by repeat (first | (with_reducible exact HR128.out) | (with_reducible refine Kd.C_alloc ?_ _) | (with_reducible refine Kd.C_drewN ?_ _) | (with_reducible refine Kd.C_drew ?_) | exact HR128.out)⟩, ⟨by repeat (first | exact HB.out | apply below_alloc | apply pw_below_drewN | apply below_drew1)⟩⟩
                                                  · rw [if_neg c61] at H
                                                    exact absurd H (by simp)
                                                · rw [if_neg c60] at H
                                                  exact absurd H (by simp)
                                        · rw [if_neg c40] at H
                                          exact absurd H (by simp)
                                      · rw [if_neg c39] at H
                                        exact absurd H (by simp)
                                    · rw [if_neg c38] at H
                                      exact absurd H (by simp)
                                  · rw [if_neg c37] at H
                                    exact absurd H (by simp)
                                · rw [if_neg c36] at H
                                  have c36b0 : decide (x57_4 < (y125.length : Int)) = false := decide_eq_false c36
                                  clear c36
                                  have H' := Aside0.mk H
                                  clear H
                                  go_wp2
                                  go_roundg k4
                                  case measure => have := HK1.out; have := HK2.out; have := HK3.out; have := HK4.out; omega
                                  case rel => exact ⟨(x5_4), (x10_4), (by first | rfl | (simp; done) | (simp [*]; done)), H', ⟨by have := HK1.out; have := HK2.out; have := HK3.out; have := HK4.out; omega⟩, ⟨by (with_reducible repeat (first | apply Kd.R_alloc | apply Kd.R_drewN | apply Kd.R_drew)); exact HO_3.out⟩, ⟨by (with_reducible repeat (first | apply Kd.R_alloc | apply Kd.R_drewN | apply Kd.R_drew)); exact HO_4.out⟩, ⟨by (with_reducible repeat (first | apply Kd.R_alloc | apply Kd.R_drewN | apply Kd.R_drew)); exact HO_5.out⟩, ⟨by (with_reducible repeat (first | apply Kd.S_alloc | apply Kd.S_drewN | apply Kd.S_drew)); exact HO_9.out⟩, ⟨by repeat (first | exact HB.out | apply below_alloc | apply pw_below_drewN | apply below_drew1)⟩⟩
                          · rw [if_neg c34] at H
                            exact absurd H (by simp)
                        · rw [if_neg c33] at H
                          exact absurd H (by simp)
                      · replace c31 := Bool.eq_false_iff.mpr c31
                        subst c31
                        rw [if_neg (show ¬ (false = true) by decide)] at H
                        obtain rfl := Option.some.inj H
                        go_wp2
                        go_ret
                        exact ⟨_, by first | rfl | (simp [errW_none, errW_some] <;> rfl) | (simp [*, errW_none, errW_some] <;> rfl), by (with_reducible repeat (first | apply Kd.R_alloc | apply Kd.R_drewN | apply Kd.R_drew)); exact Kd.R_mono HO_5.out (fun _ hk => trivial), by repeat (first | exact HB.out | apply below_alloc | apply pw_below_drewN | apply below_drew1)⟩
    · rw [if_neg c4] at H
      exact absurd H (by simp)
  · rw [if_neg c3] at H
    exact absurd H (by simp)

end Go.Proofs.Ytnmeomdjhjgnfaa.X
end
section
set_option linter.unusedSimpArgs false
set_option linter.unusedVariables false
namespace Go.Proofs.Ytnmeomdjhjgnfaa.X
open Go.RowKit Go.Proofs.YtnmeomdjhjgnfaaW.PrintWords Go.Proofs.YtnmeomdjhjgnfaaW.PrintLast Go.Proofs.YtnmeomdjhjgnfaaW.PrintMore

def headL (g : List (List Int)) (d : List Int) : List Int := keptL (((edgesL g).filter fun e => backL d e.1 e.2).map (·.2)) g.length
def graph_Headers.f (k : Nat) (l0 : List (List Int)) : Option (List Int) :=
  if okG l0 = true then (graph_Idom.f k l0).bind fun d => if d.length = l0.length ∧ (edgesL l0).length ≤ 100000000 then some (headL l0 d) else none else none
def redL (g : List (List Int)) (d o : List Int) : Bool :=
  (edgesL g).all fun e => !(decide (0 < numL o e.1) && (decide (numL o e.2 ≤ numL o e.1) && !backL d e.1 e.2))
def graph_Reducible.f (k : Nat) (l0 : List (List Int)) : Option Bool :=
  if okG l0 = true then (graph_Idom.f k l0).bind fun d => (graph_Order.f k l0).bind fun o => if d.length = l0.length ∧ o.length ≤ 1000000 ∧ (∀ b ∈ o, 0 ≤ b ∧ b < l0.length) then some (redL l0 d o) else none else none
def openL (g : List (List Int)) (d : List Int) (h : Int) : List Int := ((edgesL g).filter fun e => e.2 == h && backL d e.1 e.2).map (·.1)
def graph_Body.f (k : Nat) (l0 : List (List Int)) (a1 : Int) : Option (List Int) :=
  if okG l0 = true then (graph_Idom.f k l0).bind fun d => (graph_Order.f k l0).bind fun o => if d.length = l0.length ∧ (edgesL l0).length ≤ 100000000 ∧ o.length ≤ 1000000 ∧ (∀ b ∈ o, 0 ≤ b ∧ b < l0.length) ∧ -1 ≤ a1 ∧ a1 ≤ l0.length then
    (if openL l0 d a1 = [] then some [] else (bodyLoop (predsL l0) k (openL l0 d a1) [a1]).map fun s => isort (o.filter fun b => s.contains b)) else none else none
theorem graph_Headers.mono (k : Nat) (l0 : List (List Int)) : LeO (graph_Headers.f k l0) (graph_Headers.f (k + 1) l0) := by
  unfold graph_Headers.f
  exact LeO.ite (LeO.bind (graph_Idom.mono _ _) (fun _ => LeO.refl _)) (LeO.refl _)
theorem graph_Reducible.mono (k : Nat) (l0 : List (List Int)) : LeO (graph_Reducible.f k l0) (graph_Reducible.f (k + 1) l0) := by
  unfold graph_Reducible.f
  exact LeO.ite (LeO.bind (graph_Idom.mono _ _) (fun _ => LeO.bind (graph_Order.mono _ _) (fun _ => LeO.refl _))) (LeO.refl _)
theorem graph_Body.mono (k : Nat) (l0 : List (List Int)) (a1 : Int) : LeO (graph_Body.f k l0 a1) (graph_Body.f (k + 1) l0 a1) := by
  unfold graph_Body.f
  exact LeO.ite (LeO.bind (graph_Idom.mono _ _) (fun _ => LeO.bind (graph_Order.mono _ _) (fun _ => LeO.ite (LeO.ite (LeO.refl _) (LeO.map _ (bodyLoop_mono _ _ _ _))) (LeO.refl _)))) (LeO.refl _)
end Go.Proofs.Ytnmeomdjhjgnfaa.X
end
section
set_option linter.unusedSimpArgs false
namespace Go.Proofs.Ytnmeomdjhjgnfaa.X
open Go.RowKit Go.Shelf Go.Proofs.YtnmeomdjhjgnfaaW.PrintWords Go.Proofs.YtnmeomdjhjgnfaaW.PrintLast Go.Proofs.YtnmeomdjhjgnfaaW.PrintMore
set_option linter.unusedVariables false

set_option maxHeartbeats 2000000 in
set_option maxRecDepth 100000 in
theorem back1_calls (bk : Nat) (Ad : Option Addr) (cd : Nat) (d : List Int) (a b : Int) (w : World) (hbx : w.cell? ⟨bk, 0, none⟩ = some (.slice Ad d.length cd)) (hR : Kd.C (Kd.int .i64) w Ad d.length d) (hc : d.length ≤ cd) (hlen : d.length ≤ 1000000) (ha0 : 0 ≤ a) (ha1 : a < d.length) :
    Calls Try.prog 103 #[.int .i64 a, .int .i64 b, .pointer (some ⟨bk, 0, none⟩)] w fun e w' => e = .returned (.bool (backL d a b)) ∧ Below w.heap.size w w' := by
  obtain ⟨ad, rfl, hcx⟩ := Kd.at_int hR a ha0 ha1
  have HR := Aside0.mk hR
  have HC := Aside0.mk hc
  have HD : Aside0 (graph_Dominates.f d b a = some (domL d b a)) := ⟨by unfold graph_Dominates.f; rw [if_pos hlen]⟩
  clear hR hc hlen
  go_enter Try.func103, Try.ntmps103
  by_cases h0 : a = 0
  · subst h0
    go_wp2_with fail
    refine (graph_Dominates.calls (some ad) cd d b 0 (domL d b 0) w HR.out HC.out HD.out).mono ?_
    rintro e w' ⟨rfl, hB⟩
    cases hd : domL d b 0 with
    | true =>
      go_wp2
      go_ret
      exact ⟨by rw [show backL d 0 b = true from by simp [backL, hd]]; rfl, hB⟩
    | false =>
      go_wp2
      go_ret
      exact ⟨by rw [show backL d 0 b = false from by simp [backL, hd]]; rfl, hB⟩
  · have h0' : (a == 0) = false := by simpa using h0
    by_cases h1 : 0 ≤ rd d a
    · have h1' : decide (0 ≤ rd d a) = true := decide_eq_true h1
      go_wp2_with fail
      refine (graph_Dominates.calls (some ad) cd d b a (domL d b a) w HR.out HC.out HD.out).mono ?_
      rintro e w' ⟨rfl, hB⟩
      cases hd : domL d b a with
      | true =>
        go_wp2
        go_ret
        exact ⟨by rw [show backL d a b = true from by simp [backL, hd, h1]]; rfl, hB⟩
      | false =>
        go_wp2
        go_ret
        exact ⟨by rw [show backL d a b = false from by simp [backL, hd]]; rfl, hB⟩
    · have h1' : decide (0 ≤ rd d a) = false := decide_eq_false h1
      go_wp2
      go_ret
      exact ⟨by rw [show backL d a b = false from by simp [backL, h0', h1']]; rfl, Below.refl _ _⟩

set_option maxHeartbeats 2000000 in
set_option maxRecDepth 100000 in
theorem back_calls (k : Nat) (A0 : Option Addr) (c0 : Nat) (l0 : List (List Int)) (d : List Int) (w : World) (hr0 : Kd.C (Kd.slice 3 (Kd.int .i64)) w A0 l0.length l0) (hc0 : l0.length ≤ c0) (h : graph_Idom.f k l0 = some d) :
    Calls Try.prog 83 #[.slice A0 l0.length c0] w fun e w' => ∃ (bk : Nat) (Ad : Option Addr) (cd : Nat), e = .returned (.func (.func 103) #[] #[.pointer (some ⟨bk, 0, none⟩)]) ∧ w.heap.size ≤ bk ∧ w'.heap[bk]? = some (.cells #[.slice Ad d.length cd] 23 (0, 0)) ∧
      Kd.R (Kd.int .i64) 3 w' w.heap.size (fun k => k < bk) (.slice Ad d.length cd) d ∧ Below w.heap.size w w' := by
  have HR := Aside0.mk hr0
  have HC0 := Aside0.mk hc0
  have H := Aside0.mk h
  clear hr0 hc0 h
  go_enter Try.func83, Try.ntmps83
  go_wp2_with fail
  refine (graph_Idom.calls k A0 c0 l0 d w HR.out HC0.out H.out).mono ?_
  rintro e w4 ⟨v0, rfl, ho, hB⟩
  obtain ⟨Ad, cd, rfl⟩ := Kd.R_slice ho
  go_wp2
  go_ret
  refine ⟨w4.heap.size, Ad, cd, rfl, hB.size, World.alloc_heap_new _ _, Kd.R_alloc (Kd.R_mono (Kd.R_bound ho) (fun k hk => hk.2.2.1)) _, below_alloc hB _⟩
end Go.Proofs.Ytnmeomdjhjgnfaa.X
end
section
set_option linter.unusedSimpArgs false
namespace Go.Proofs.Ytnmeomdjhjgnfaa.X
open Go.RowKit Go.Shelf Go.Proofs.YtnmeomdjhjgnfaaW.PrintWords Go.Proofs.YtnmeomdjhjgnfaaW.PrintLast Go.Proofs.YtnmeomdjhjgnfaaW.PrintMore
set_option linter.unusedVariables false
attribute [local go_sem] Oper.semAt_some

def hdL (d : List Int) (es : List (Int × Int)) : List Int := (es.filter fun e => backL d e.1 e.2).map (·.2)
theorem hdL_snoc (d : List Int) (es : List (Int × Int)) (a b : Int) : hdL d (es ++ [(a, b)]) = if backL d a b = true then hdL d es ++ [b] else hdL d es := by
  unfold hdL
  rw [List.filter_append, List.map_append]
  simp only [List.filter_cons, List.filter_nil]
  split <;> simp
theorem edgesFrom_in (n : Nat) : ∀ (rows : List (List Int)) (i : Nat), i + rows.length ≤ n → (∀ r ∈ rows, ∀ b ∈ r, 0 ≤ b ∧ b < n) → ∀ e ∈ edgesFrom i rows, (0 ≤ e.1 ∧ e.1 < n) ∧ 0 ≤ e.2 ∧ e.2 < n
  | [], _, _, _, e, he => by simp [edgesFrom] at he
  | r :: rows, i, hi, h, e, he => by
    simp only [edgesFrom, List.mem_append, List.mem_map] at he
    simp only [List.length_cons] at hi
    rcases he with ⟨b, hb, rfl⟩ | he
    · exact ⟨by constructor <;> simp <;> omega, h r List.mem_cons_self b hb⟩
    · exact edgesFrom_in n rows (i + 1) (by omega) (fun r hr => h r (List.mem_cons_of_mem _ hr)) e he
theorem edgesL_in (g : List (List Int)) (e : Int × Int) (he : e ∈ edgesL g) : (0 ≤ e.1 ∧ e.1 < g.length) ∧ 0 ≤ e.2 ∧ e.2 < g.length :=
  edgesFrom_in g.length (cleanL g) 0 (by rw [cleanL_length]; omega) (cleanL_in g) e he
/-- Sorting and making compact a row within bounds is what kept tells. -/
theorem kept_all (l : List Int) (n : Int) (h : ∀ x ∈ l, 0 ≤ x ∧ x < n) : Lib.compact (isort l) = keptL l n := by
  exact kept_of l l n (fun x => ⟨fun hx => ⟨hx, h x hx⟩, fun hx => hx.1⟩)
theorem hdL_length (d : List Int) (es : List (Int × Int)) : (hdL d es).length ≤ es.length := by
  unfold hdL; rw [List.length_map]; exact List.length_filter_le _ _
set_option maxHeartbeats 4000000 in
set_option maxRecDepth 100000 in
theorem graph_Headers.calls (k : Nat) (A0 : Option Addr) (c0 : Nat) (l0 : List (List Int)) (r : List Int) (w : World) (hr0 : Kd.C (Kd.slice 3 (Kd.int .i64)) w A0 l0.length l0) (hc0 : l0.length ≤ c0) (h : graph_Headers.f k l0 = some r) :
    Calls Try.prog 38 #[.slice A0 l0.length c0] w fun e w' => ∃ v0_ : Value, e = .returned (v0_) ∧ Kd.R (Kd.int .i64) 3 w' w.heap.size (fun _ => True) v0_ r ∧ Below w.heap.size w w' := by
  unfold graph_Headers.f at h
  split at h
  case isFalse => cases h
  rename_i hok
  obtain ⟨d, hd, h⟩ := Option.bind_eq_some_iff.1 h
  split at h
  case isFalse => cases h
  rename_i hdl
  obtain ⟨hdl, hel⟩ := hdl
  injection h with h
  have hlen := (okG_len hok).1
  have HR := Aside0.mk hr0
  have HC0 := Aside0.mk hc0
  have HOK := Aside0.mk hok
  have HE := Aside0.mk h
  have HD := Aside0.mk hd
  have HEL := Aside0.mk hel
  have HDL := Aside0.mk hdl
  clear hr0 hc0 hok h hd hel hdl
  refine (callsIn_wide (n := 6)).1 ?_
  refine callsIn_of_wp_marks Try.func38 rfl trivial ?_ rfl
  simp only [Try.ntmps38, List.size_toArray, List.length_cons, List.length_nil, Nat.reduceAdd, Nat.reduceSub, Array.replicate_succ, Array.replicate_zero, List.push_toArray, List.append_toArray, List.nil_append, List.cons_append]
  refine wpIn_seq (wpIn_wide.2 ?_)
  go_wp2
  refine wpIn_seq (wpIn_wide.2 ?_)
  go_wp2_with fail
  refine (back_calls k A0 c0 l0 d _ HR.out HC0.out HD.out).mono ?_
  rintro e W2 ⟨bk, Ad, cd, rfl, hbk, hbx, hRd, hB2⟩
  have HBX := Aside0.mk hbx
  have HRd := Aside0.mk hRd
  have HB2 := Aside0.mk hB2
  have hbk2 := blk_lt hbx
  clear hbx hRd hB2
  go_wp2
  refine wpIn_seq (wpIn_wide.2 ?_)
  go_wp2
  refine wpIn_seq (wpIn_seq ?_)
  gi_wp2
  refine ⟨trivial, ?_⟩
  refine (callsIn_wide.2 (edges_calls A0 l0.length c0 _)).mono ?_
  rintro e w' ⟨rfl, rfl⟩
  gi_wp2
  have c3 := cell_new_c' W2 (.func (.func 103) #[] #[.pointer (some ⟨bk, 0, none⟩)]) 53
  have c4 := World.alloc_heap_new (W2.alloc (.cells #[.func (.func 103) #[] #[.pointer (some ⟨bk, 0, none⟩)]] 53)) (.cells #[.slice none 0 0] 23)
  have c6 := cell_new_c' ((W2.alloc (.cells #[.func (.func 103) #[] #[.pointer (some ⟨bk, 0, none⟩)]] 53)).alloc (.cells #[.slice none 0 0] 23)) (.slice A0 l0.length c0) 22
  have hB5 : Below W2.heap.size W2 (((W2.alloc (.cells #[.func (.func 103) #[] #[.pointer (some ⟨bk, 0, none⟩)]] 53)).alloc (.cells #[.slice none 0 0] 23)).alloc (.cells #[.slice A0 l0.length c0] 22)) := below_alloc (below_alloc (below_alloc (Below.refl _ _) _) _) _
  simp only [World.size_alloc] at c4 c6
  obtain ⟨wL, hwL⟩ : ∃ wL, (((W2.alloc (.cells #[.func (.func 103) #[] #[.pointer (some ⟨bk, 0, none⟩)]] 53)).alloc (.cells #[.slice none 0 0] 23)).alloc (.cells #[.slice A0 l0.length c0] 22)) = wL := ⟨_, rfl⟩
  have hsz : wL.heap.size = W2.heap.size + 3 := by rw [← hwL]; simp
  have k5 : wL.heap[W2.heap.size + 1]? = some (.cells #[.slice none 0 0] 23 (0, 0)) := by
    rw [← hwL]
    exact (below_alloc (Below.refl _ _) _ : Below _ _ _).block _ (by simp) |>.trans c4
  have k3 : wL.cell? ⟨W2.heap.size, 0, none⟩ = some (.func (.func 103) #[] #[.pointer (some ⟨bk, 0, none⟩)]) := by rw [← hwL]; exact cell_alloc' _ (cell_alloc' _ c3.1)
  have K3 := Aside0.mk k3
  have HI0 := Aside0.mk (OutIn.start (d := Kd.int .i64) (e := 3) k5)
  have hMW := HI0.out.names
  have hMd : Told wL.heap.size (BxM (W2.heap.size + 1)) := BxM.told (by omega)
  rw [hwL] at c6 hB5 ⊢
  have HB5 := Aside0.mk hB5
  have HBL := Aside0.mk (HB2.out.trans (hB5.mono HB2.out.size))
  refine wpIn_rangeFunc_ownG rfl (by omega) (gf := 104) (lb := #[.pointer (some ⟨W2.heap.size + 1 + 1, 0, none⟩)]) rfl trivial (enters_of Try.func104 (by kernel_rfl) rfl)
    (edges_stops 5 (by omega) (W2.heap.size + 1 + 1) A0 c0 l0 HOK.out (BxM (W2.heap.size + 1)) wL hMd hMW (Kd.C_below HR.out HBL.out) HC0.out c6.1) EdKp.trans (EdKp.put hMd) (Below.refl _ _) (fun _ => rfl)
    (fun pre W => OutIn wL (W2.heap.size + 1) (Kd.int .i64) 3 23 (hdL d (pre.map Subtype.val)) W)
    (fun _ _ _ => False)
    (fun s A B row hs hg hr => hs.kept hg hr (by omega))
    (fun _ _ _ _ _ hs _ _ => hs)
    HI0.out
    (fun x => { tmps := #[Value.slice A0 l0.length c0, undef, Value.slice none 0 0,
          Value.pointer (some { block := W2.heap.size, off := 0 }),
          Value.pointer (some { block := W2.heap.size + 1, off := 0 }), .int .i64 x.1.1, .int .i64 x.1.2, Value.slice A0 l0.length c0,
          Value.func (Fn.func 103) #[] #[Value.pointer (some { block := bk, off := 0 })], Value.slice A0 l0.length c0,
          Value.func (Fn.func 104) #[] #[Value.pointer (some { block := W2.heap.size + 1 + 1, off := 0 })], .int .i64 x.1.1, .int .i64 x.1.2,
          undef, undef, undef, undef, undef, undef, undef, undef, undef, undef, undef, undef], defers := [] }) ?assign ?body ?done ?stop
  case assign =>
    intro l x W K hK
    simp only [edEnc]
    gi_wp2
    exact hK
  case body =>
    rintro l pre ⟨⟨a, b⟩, ha0, ha1, hb0, hb1⟩ W hI hlt
    have HSZ := Aside0.mk hsz
    clear hMd hMW hB5 c3 c4 c6 HI0 hwL k5 k3 hsz
    simp only at ha0 ha1 hb0 hb1
    obtain ⟨out, hout⟩ : ∃ out, hdL d (pre.map Subtype.val) = out := ⟨_, rfl⟩
    rw [hout] at hI
    have HOL : Aside0 (out.length ≤ 1000000000000) := ⟨by
      have h1 := hdL_length d (pre.map Subtype.val)
      rw [hout, List.length_map] at h1
      have h2 := HEL.out
      omega⟩
    have hsnoc : hdL d ((pre ++ [(⟨(a, b), by omega⟩ : Ed l0.length)]).map Subtype.val) = if backL d a b = true then out ++ [b] else out := by
      rw [List.map_append, ← hout]
      exact hdL_snoc _ _ _ _
    have HSN := Aside0.mk hsnoc
    have HIN := Aside0.mk hI
    clear hsnoc hout
    have hf := hI.far
    have hBW : Below W2.heap.size W2 W := HB5.out.trans (hI.stay.mono (by have := HSZ.out; omega))
    have hc3 : W.cell? ⟨W2.heap.size, 0, none⟩ = some (.func (.func 103) #[] #[.pointer (some ⟨bk, 0, none⟩)]) := (hI.stay.cell (p := ⟨W2.heap.size, 0, none⟩) (by simp)).trans K3.out
    have hcon := back1_calls bk Ad cd d a b W ((hBW.cell (p := ⟨bk, 0, none⟩) hbk2).trans (cell_of_box' HBX.out).1) (Kd.C_below (Kd.R_reads' HRd.out).2.2 hBW) (Kd.R_reads' HRd.out).2.1 (by have := HDL.out; omega) ha0 (by have := HDL.out; omega)
    have HCON := Aside0.mk hcon
    clear hcon hI hBW
    cases hback : backL d a b with
    | false =>
      have HSN2 := HSN.out
      rw [hback] at HSN2 HCON
      have HSN3 := Aside0.mk HSN2
      clear HSN2
      gi_wp2
      refine ⟨trivial, ?_⟩
      refine (CallsIn.inRound l (callsIn_wide.2 HCON.out)).mono ?_
      rintro e W' ⟨rfl, hB⟩
      gi_wp2
      have hr := HIN.out.call hB (by have := HSZ.out; omega)
      refine ⟨hr.1, hr.2.1, ?_⟩
      show OutIn _ _ _ _ _ (hdL d _) _
      rw [HSN3.out]
      exact hr.2.2
    | true =>
      have HSN2 := HSN.out
      rw [hback] at HSN2 HCON
      have HSN3 := Aside0.mk HSN2
      clear HSN2
      refine wpIn_block ?_
      refine wpIn_seq ?_
      refine wpIn_mono (Q := Exit.then (fun a' w' => Below W.heap.size W w' ∧ a' = { tmps := #[Value.slice A0 l0.length c0, undef, Value.slice none 0 0,
          Value.pointer (some { block := W2.heap.size, off := 0 }),
          Value.pointer (some { block := W2.heap.size + 1, off := 0 }), .int .i64 a, .int .i64 b, Value.slice A0 l0.length c0,
          Value.func (Fn.func 103) #[] #[Value.pointer (some { block := bk, off := 0 })], Value.slice A0 l0.length c0,
          Value.func (Fn.func 104) #[] #[Value.pointer (some { block := W2.heap.size + 1 + 1, off := 0 })], .int .i64 a, .int .i64 b,
          Value.func (Fn.func 103) #[] #[Value.pointer (some { block := bk, off := 0 })], .int .i64 a, .int .i64 b, .bool true, undef, undef, undef, undef, undef, undef, undef, undef], defers := [] }) (fun _ _ _ => False)) ?first ?rest
      case first =>
        gi_wp2
        refine ⟨trivial, ?_⟩
        refine (CallsIn.inRound l (callsIn_wide.2 HCON.out)).mono ?_
        rintro e W' ⟨rfl, hB⟩
        gi_wp2
        exact ⟨hB, trivial⟩
      case rest =>
        intro e a' W' h'
        cases e <;> first | exact h'.elim | skip
        obtain ⟨hB, rfl⟩ := h'
        obtain ⟨hk1, hk2, hI2⟩ := HIN.out.call hB (by have := HSZ.out; omega)
        obtain ⟨v, h5, hRv⟩ := hI2.box
        obtain ⟨hc5, hf5⟩ := cell_of_box' h5
        obtain ⟨Av, cv, rfl⟩ := Kd.R_slice hRv
        have HRv := Aside0.mk hRv
        have H5 := Aside0.mk h5
        have HK := Aside0.mk (And.intro hk1 hk2)
        have HI2 := Aside0.mk hI2
        have hf2 := hI2.far
        clear hRv h5 hk1 hk2 hI2
        refine wpIn_cond_true rfl ?_
        refine wpIn_list_plain (by kernel_rfl) (fun ⟨_, _, h'⟩ => h') ?_
        go_wp2_with (first | ((with_reducible refine gate_builtin (b := .append) (xs := #[.tmp 17, .tmp 19]) rfl ?_); at_builtin; refine Kd.R_append (Kd.int .i64) (w0 := W') (W := W') wL.heap.size rfl (.tmp 17) (.tmp 19) 23 3 (.int .i64 0) 8 rfl Try.underlying23 info3 rfl (by decide) (by omega) (.slice Av out.length cv) out b [.int .i64 b] (fun _ => True) (fun _ => False) rfl rfl ?aP (fun _ hk => hk.elim) ?aF ?aO ?aB ?aS ?aL ?_; (case aP => rfl); (case aF => exact fun _ _ => trivial); (case aO => exact HRv.out); (case aB => exact Below.refl _ _); (case aS => exact hf2); (case aL => have := HOL.out; omega); intro v20 W7 ho hb hg hat; obtain ⟨A20, n20, c20, rfl⟩ : ∃ A n c, v20 = .slice A n c := ⟨_, _, _, (Kd.R_slice ho).choose_spec.choose_spec⟩; obtain ⟨hc57, hf57⟩ := cell_of_box' ((hg.block (W2.heap.size + 1) (blk_lt H5.out) (fun h => by have := Kd.R_base HRv.out _ h.symm; have := HSZ.out; omega)).trans H5.out)) | fail)
        obtain ⟨hr1, hr2, hr3⟩ := HI2.out.append (by have := HSZ.out; omega) H5.out HRv.out ho hg hat
        refine ⟨HK.out.1.trans hr1, HK.out.2.trans hr2, ?_⟩
        show OutIn _ _ _ _ _ (hdL d _) _
        rw [HSN3.out]
        exact hr3
  case done =>
    rintro D ys W hD hys hI hK
    obtain ⟨out, hout⟩ : ∃ out, hdL d (ys.map Subtype.val) = out := ⟨_, rfl⟩
    have HOL : Aside0 (out.length ≤ 100000000) := ⟨by
      have h1 := hdL_length d (ys.map Subtype.val)
      rw [hout, hys] at h1
      have h2 := HEL.out
      omega⟩
    have HFR : Aside0 (Lib.compact (isort out) = r) := ⟨by
      rw [hys] at hout
      rw [← hout, ← HE.out]
      exact kept_all _ _ (fun x hx => by
        obtain ⟨e, he, rfl⟩ := List.mem_map.1 hx
        exact (edgesL_in l0 e (List.mem_filter.1 he).1).2)⟩
    rw [hout] at hI
    have hbW : Below w.heap.size w W := HBL.out.trans (hI.stay.mono (by have := HB2.out.size; omega))
    obtain ⟨v, h5, hRv⟩ := hI.box
    obtain ⟨hc5, hf5⟩ := cell_of_box' h5
    have HRv := Aside0.mk hRv
    have HBW := Aside0.mk hbW
    have hf := hI.far
    obtain ⟨Av, cv, rfl⟩ := Kd.R_slice hRv
    have HI := Aside0.mk hI
    have H5 := Aside0.mk h5
    clear hRv hbW hI h5 hout
    refine wpIn_seq (wpIn_wide.2 ?_)
    go_wp2_with fail
    refine (sort_R HRv.out HOL.out).mono ?_
    rintro e W1 ⟨rfl, hs1, hg1⟩
    have h51 := (hg1.block (W2.heap.size + 1) (blk_lt H5.out) (fun h => by have := Kd.R_base HRv.out _ h.symm; omega)).trans H5.out
    obtain ⟨hc51, hf51⟩ := cell_of_box' h51
    have HB1 := Aside0.mk (HBW.out.grown hg1 HBW.out.size (fun k hk => by have := Kd.R_base HRv.out k hk; have := HB2.out.size; omega))
    have HS1 := Aside0.mk hs1
    have HK1 : Aside0 (W1.heap[D]? = some (.deferred (some []))) := ⟨(hg1.block D (Array.getElem?_eq_some_iff.1 hK).1 (fun h => by
      obtain ⟨c, hc⟩ := Kd.R_typed HRv.out D h.symm
      rw [hc] at hK; cases hK)).trans hK⟩
    clear hs1 hg1 h51
    go_wp2
    refine wpIn_seq (wpIn_wide.2 ?_)
    go_wp2_with fail
    refine (compact_R HS1.out (by rw [isort_length]; exact HOL.out)).mono ?_
    rintro e W3 ⟨v', rfl, hs2, hg2⟩
    have HB3 := Aside0.mk (HB1.out.grown hg2 HB1.out.size (fun k hk => by have := Kd.R_base HS1.out k hk; have := HB2.out.size; omega))
    have HS3 := Aside0.mk hs2
    have HK3 : Aside0 (W3.heap[D]? = some (.deferred (some []))) := ⟨(hg2.block D (Array.getElem?_eq_some_iff.1 HK1.out).1 (fun h => by
      obtain ⟨c, hc⟩ := Kd.R_typed HS1.out D h.symm
      have := HK1.out
      rw [hc] at this; cases this)).trans HK1.out⟩
    clear hs2 hg2
    go_wp2
    gi_wp2
    refine ⟨by simp, .inl ⟨_, _, rfl, run_takeDeferred HK3.out, ?_⟩⟩
    refine ⟨_, results_tmp rfl _ _ _, _, rfl, ?_, ?_⟩
    · have h2 := HS3.out
      rw [HFR.out] at h2
      exact Kd.R_mono (Kd.R_lower (R_nocells h2 (grownBy_putObj' _ D _) (fun r e => by cases e; exact ⟨_, HK3.out, rfl⟩)) HBL.out.size) (fun _ _ => trivial)
    · exact HB3.out.grown (grownBy_putObj' _ D _) HB3.out.size (fun k e => by cases e; have := HBL.out.size; omega)
  case stop =>
    rintro D c pre W _ _ h _
    exact h.elim
end Go.Proofs.Ytnmeomdjhjgnfaa.X
end
section
set_option linter.unusedSimpArgs false
/-! A map of the call's own from whole numbers, read as a plain function. -/
namespace Go.Proofs.Ytnmeomdjhjgnfaa.X
open Go.RowKit Go.Maps Go.Proofs.YtnmeomdjhjgnfaaW.PrintWords Go.Proofs.YtnmeomdjhjgnfaaW.PrintLast Go.Proofs.YtnmeomdjhjgnfaaW.PrintMore
set_option linter.unusedVariables false
set_option maxRecDepth 100000

theorem u117 : Try.prog.underlying 117 = some (.map 3 3) := by kernel_rfl
theorem u55 : Try.prog.underlying 55 = some (.map 3 4) := by kernel_rfl
theorem key3 : Keyed Try.prog 3 := int_keyed Try.underlying3
theorem zero3' (w : World) : (zeroValue 3).run Try.prog w = .ok (.int .i64 0) w := by kernel_rfl
theorem zero4' (w : World) : (zeroValue 4).run Try.prog w = .ok (.bool false) w := by kernel_rfl
def wf64 (x : Int) : Prop := (Lit.int .i64 x).wf = true
theorem wf64_of {x : Int} (h0 : -9223372036854775808 ≤ x) (h1 : x ≤ 9223372036854775807) : wf64 x := by
  have e1 : IntKind.i64.min = -9223372036854775808 := by decide
  have e2 : IntKind.i64.max = 9223372036854775807 := by decide
  simp [wf64, Lit.wf, e1, e2]; omega

structure MI (w : World) (b n : Nat) (f : Int → Int) : Prop where
  own : ∃ D : DataW Unit, w.ownsMap Try.prog 3 (plainElem Try.prog 3) b n D ∧ ∀ x, wf64 x → D.atKey (.int .i64 x) (.lit (.int .i64 0)) = .lit (.int .i64 (f x))
theorem MI.made (w : World) : MI (w.alloc (.map #[] 0)) w.heap.size 0 (fun _ => 0) := ⟨_, World.ownsMap_made _ _ _ _, fun _ _ => rfl⟩
theorem MI.kept {w w' : World} {b n : Nat} {f : Int → Int} {row : Option Nat} (h : MI w b n f) (hg : w.grownBy w' row) (hne : some b ≠ row) : MI w' b n f := by
  obtain ⟨D, hD, hf⟩ := h.own
  exact ⟨D, hD.kept hg hne, hf⟩
theorem MI.below {w w' : World} {b n : Nat} {f : Int → Int} (h : MI w b n f) (hb : Below w.heap.size w w') : MI w' b n f := by
  obtain ⟨D, ⟨es, clock, hb', F, hs, hD⟩, hf⟩ := h.own
  exact ⟨D, ⟨es, clock, (hb.block b (Array.getElem?_eq_some_iff.1 hb').1).trans hb', F, hs, hD⟩, hf⟩
theorem MI.lt {w : World} {b n : Nat} {f : Int → Int} (h : MI w b n f) : b < w.heap.size := by
  obtain ⟨D, hD, _⟩ := h.own
  exact hD.lt
theorem MI.isMap {w : World} {b n : Nat} {f : Int → Int} (h : MI w b n f) : ∃ es clock, w.heap[b]? = some (.map es clock) := by
  obtain ⟨D, ⟨es, clock, hb', _⟩, _⟩ := h.own
  exact ⟨es, clock, hb'⟩
theorem MI.look {w : World} {b n : Nat} {f : Int → Int} (h : MI w b n f) {x : Int} (hx : wf64 x) : (Instr.lookup 117 (.map (some b)) (.int .i64 x) false).run Try.prog w = .ok (.int .i64 (f x)) w := by
  obtain ⟨D, hD, hf⟩ := h.own
  obtain ⟨c, hrun, hat, _⟩ := hD.lookup_int key3 u117 Try.underlying3 (zero3' w) (keyOf_int_mk Try.underlying3 hx)
  rw [hf x hx] at hat
  injection hat with hat
  injection hat with _ hat
  rw [hat]
  exact hrun
theorem MI.put {w : World} {b n : Nat} {f : Int → Int} (h : MI w b n f) {x v : Int} (hx : wf64 x) (hv : wf64 v) (hn : n < maxLen) :
    ∃ w', (Instr.mapUpdate 117 (.map (some b)) (.int .i64 x) (.int .i64 v)).run Try.prog w = .ok () w' ∧ MI w' b (n + 1) (fun y => if y = x then v else f y) ∧ w.grownBy w' (some b) := by
  obtain ⟨D, hD, hf⟩ := h.own
  obtain ⟨w', hrun, h1, h2⟩ := hD.update key3 u117 hn (keyOf_int_mk Try.underlying3 hx) (plainElem_int Try.underlying3 hv)
  refine ⟨w', hrun, ⟨_, h1, fun y hy => ?_⟩, h2⟩
  split
  · rename_i e
    subst e
    obtain ⟨es, clock, _, _, _, rfl⟩ := hD
    exact atKey_put_same ⟨_, rfl⟩ (key3.key (keyOf_int_mk Try.underlying3 hy)) _ _
  · rename_i e
    rw [atKey_put_other (by intro he; injection he with _ he; exact e he)]
    exact hf y hy

structure MB (w : World) (b n : Nat) (f : Int → Bool) : Prop where
  own : ∃ D : DataW Unit, w.ownsMap Try.prog 3 (plainElem Try.prog 4) b n D ∧ ∀ x, wf64 x → D.atKey (.int .i64 x) (.lit (.bool false)) = .lit (.bool (f x))
theorem MB.made (w : World) : MB (w.alloc (.map #[] 0)) w.heap.size 0 (fun _ => false) := ⟨_, World.ownsMap_made _ _ _ _, fun _ _ => rfl⟩
theorem MB.kept {w w' : World} {b n : Nat} {f : Int → Bool} {row : Option Nat} (h : MB w b n f) (hg : w.grownBy w' row) (hne : some b ≠ row) : MB w' b n f := by
  obtain ⟨D, hD, hf⟩ := h.own
  exact ⟨D, hD.kept hg hne, hf⟩
theorem MB.below {w w' : World} {b n : Nat} {f : Int → Bool} (h : MB w b n f) (hb : Below w.heap.size w w') : MB w' b n f := by
  obtain ⟨D, ⟨es, clock, hb', F, hs, hD⟩, hf⟩ := h.own
  exact ⟨D, ⟨es, clock, (hb.block b (Array.getElem?_eq_some_iff.1 hb').1).trans hb', F, hs, hD⟩, hf⟩
theorem MB.lt {w : World} {b n : Nat} {f : Int → Bool} (h : MB w b n f) : b < w.heap.size := by
  obtain ⟨D, hD, _⟩ := h.own
  exact hD.lt
theorem MB.isMap {w : World} {b n : Nat} {f : Int → Bool} (h : MB w b n f) : ∃ es clock, w.heap[b]? = some (.map es clock) := by
  obtain ⟨D, ⟨es, clock, hb', _⟩, _⟩ := h.own
  exact ⟨es, clock, hb'⟩
theorem MB.look {w : World} {b n : Nat} {f : Int → Bool} (h : MB w b n f) {x : Int} (hx : wf64 x) : (Instr.lookup 55 (.map (some b)) (.int .i64 x) false).run Try.prog w = .ok (.bool (f x)) w := by
  obtain ⟨D, hD, hf⟩ := h.own
  obtain ⟨v, ps, hrun, hv⟩ := hD.lookup key3 u55 (zero4' w) (plainElem_bool Try.underlying4 false) (keyOf_int_mk Try.underlying3 hx)
  rw [hf x hx] at hv
  have : v = .bool (f x) := by
    unfold plainElem at hv
    simp only [Try.underlying4] at hv
    cases v <;> simp_all
  rw [← this]
  exact hrun
theorem MB.put {w : World} {b n : Nat} {f : Int → Bool} (h : MB w b n f) {x : Int} (v : Bool) (hx : wf64 x) (hn : n < maxLen) :
    ∃ w', (Instr.mapUpdate 55 (.map (some b)) (.int .i64 x) (.bool v)).run Try.prog w = .ok () w' ∧ MB w' b (n + 1) (fun y => if y = x then v else f y) ∧ w.grownBy w' (some b) := by
  obtain ⟨D, hD, hf⟩ := h.own
  obtain ⟨w', hrun, h1, h2⟩ := hD.update key3 u55 hn (keyOf_int_mk Try.underlying3 hx) (plainElem_bool Try.underlying4 v)
  refine ⟨w', hrun, ⟨_, h1, fun y hy => ?_⟩, h2⟩
  split
  · rename_i e
    subst e
    obtain ⟨es, clock, _, _, _, rfl⟩ := hD
    exact atKey_put_same ⟨_, rfl⟩ (key3.key (keyOf_int_mk Try.underlying3 hy)) _ _
  · rename_i e
    rw [atKey_put_other (by intro he; injection he with _ he; exact e he)]
    exact hf y hy
end Go.Proofs.Ytnmeomdjhjgnfaa.X
namespace Go.Proofs.Ytnmeomdjhjgnfaa.X
open Go.RowKit Go.Shelf Go.Proofs.YtnmeomdjhjgnfaaW.PrintWords Go.Proofs.YtnmeomdjhjgnfaaW.PrintLast Go.Proofs.YtnmeomdjhjgnfaaW.PrintMore
set_option linter.unusedVariables false
attribute [local go_sem] Oper.semAt_some

theorem numL_snoc (o : List Int) (b x : Int) : numL (o ++ [b]) x = if x = b then (o.length : Int) + 1 else numL o x := by
  unfold numL
  rw [List.reverse_append]
  simp only [List.reverse_cons, List.reverse_nil, List.nil_append, List.cons_append, numR, List.length_reverse]
  by_cases h : b = x
  · subst h; simp
  · rw [if_neg h, if_neg (fun e => h e.symm)]
theorem results_cell_bool {fn : Func} {p : Tmp} (h : fn.results = #[.cell p 4]) (tmps : Array Value) (w : World) (a : Addr) (b : Bool) (hp : tmps.getD p undef = .pointer (some a)) (hc : w.cell? a = some (.bool b)) :
    (results fn tmps).run Try.prog w = .ok (.bool b) w := by
  have hp' : tmps[p]?.getD undef = .pointer (some a) := by simpa using hp
  simp only [results, h]
  go_simp
def badE (d o : List Int) (e : Int × Int) : Bool := decide (0 < numL o e.1) && (decide (numL o e.2 ≤ numL o e.1) && !backL d e.1 e.2)
set_option maxHeartbeats 4000000 in
set_option maxRecDepth 100000 in
theorem graph_Reducible.calls (k : Nat) (A0 : Option Addr) (c0 : Nat) (l0 : List (List Int)) (r : Bool) (w : World) (hr0 : Kd.C (Kd.slice 3 (Kd.int .i64)) w A0 l0.length l0) (hc0 : l0.length ≤ c0) (h : graph_Reducible.f k l0 = some r) :
    Calls Try.prog 49 #[.slice A0 l0.length c0] w fun e w' => e = .returned (.bool r) ∧ Below w.heap.size w w' := by
  unfold graph_Reducible.f at h
  split at h
  case isFalse => cases h
  rename_i hok
  obtain ⟨d, hd, h⟩ := Option.bind_eq_some_iff.1 h
  obtain ⟨o, ho, h⟩ := Option.bind_eq_some_iff.1 h
  split at h
  case isFalse => cases h
  rename_i hdl
  obtain ⟨hdl, hol, hob⟩ := hdl
  injection h with h
  have hlen := (okG_len hok).1
  have HR := Aside0.mk hr0
  have HC0 := Aside0.mk hc0
  have HOK := Aside0.mk hok
  have HE := Aside0.mk h
  have HD := Aside0.mk hd
  have HO := Aside0.mk ho
  have HDL := Aside0.mk hdl
  have HOL := Aside0.mk hol
  have HOB := Aside0.mk hob
  clear hr0 hc0 hok h hd ho hdl hol hob
  have hmm := @run_makeMap Try.prog
  refine (callsIn_wide (n := 6)).1 ?_
  refine callsIn_of_wp_marks Try.func49 rfl trivial ?_ rfl
  simp only [Try.ntmps49, List.size_toArray, List.length_cons, List.length_nil, Nat.reduceAdd, Nat.reduceSub, Array.replicate_succ, Array.replicate_zero, List.push_toArray, List.append_toArray, List.nil_append, List.cons_append]
  refine wpIn_seq (wpIn_wide.2 ?_)
  go_wp2
  have hb0 : Below w.heap.size w (w.alloc (.cells #[.bool false] 4)) := below_alloc (Below.refl _ _) _
  have hcr := World.alloc_heap_new w (.cells #[.bool false] 4)
  obtain ⟨W1, hW1⟩ : ∃ W1, w.alloc (.cells #[.bool false] 4) = W1 := ⟨_, rfl⟩
  have hs1 : W1.heap.size = w.heap.size + 1 := by rw [← hW1]; simp
  rw [hW1] at hb0 hcr ⊢
  have HCR := Aside0.mk hcr
  have HB1 := Aside0.mk hb0
  have HS1 := Aside0.mk hs1
  clear hb0 hcr hs1 hW1
  refine wpIn_seq (wpIn_wide.2 ?_)
  go_wp2_with fail
  refine (back_calls k A0 c0 l0 d _ (Kd.C_below HR.out HB1.out) HC0.out HD.out).mono ?_
  rintro e W2 ⟨bk, Ad, cd, rfl, hbk, hbx, hRd, hB2⟩
  have HBX := Aside0.mk hbx
  have HRd := Aside0.mk hRd
  have HB2 := Aside0.mk hB2
  have hbk2 := blk_lt hbx
  clear hbx hRd hB2
  go_wp2
  refine wpIn_seq (wpIn_wide.2 ?_)
  go_wp2
  refine wpIn_seq (wpIn_wide.2 ?_)
  have hB3 : Below W2.heap.size W2 (((W2.alloc (.cells #[.func (.func 103) #[] #[.pointer (some ⟨bk, 0, none⟩)]] 53)).alloc (.map #[] 0)).alloc (.cells #[.map (some (W2.heap.size + 1))] 117)) := below_alloc (below_alloc (below_alloc (Below.refl _ _) _) _) _
  have c3 := cell_alloc' (.cells #[.map (some (W2.heap.size + 1))] 117) (cell_alloc' (.map #[] 0) (cell_new_c' W2 (.func (.func 103) #[] #[.pointer (some ⟨bk, 0, none⟩)]) 53).1)
  have c4 := (cell_new_c' ((W2.alloc (.cells #[.func (.func 103) #[] #[.pointer (some ⟨bk, 0, none⟩)]] 53)).alloc (.map #[] 0)) (.map (some (W2.heap.size + 1))) 117).1
  have hM3 := (MI.made (W2.alloc (.cells #[.func (.func 103) #[] #[.pointer (some ⟨bk, 0, none⟩)]] 53))).below (below_alloc (Below.refl _ _) (.cells #[.map (some (W2.heap.size + 1))] 117))
  have hs3 : ((((W2.alloc (.cells #[.func (.func 103) #[] #[.pointer (some ⟨bk, 0, none⟩)]] 53)).alloc (.map #[] 0)).alloc (.cells #[.map (some (W2.heap.size + 1))] 117))).heap.size = W2.heap.size + 3 := by simp
  simp only [World.size_alloc] at c4 hM3
  obtain ⟨W3, hW3⟩ : ∃ W3, (((W2.alloc (.cells #[.func (.func 103) #[] #[.pointer (some ⟨bk, 0, none⟩)]] 53)).alloc (.map #[] 0)).alloc (.cells #[.map (some (W2.heap.size + 1))] 117)) = W3 := ⟨_, rfl⟩
  rw [hW3] at hB3 c3 c4 hM3 hs3 ⊢
  have C3 := Aside0.mk c3
  have C4 := Aside0.mk c4
  have HM3 := Aside0.mk hM3
  have HB3 := Aside0.mk hB3
  have HS3 := Aside0.mk hs3
  clear hW3 c3 c4 hM3 hB3 hs3
  have HB03 := Aside0.mk (HB1.out.trans ((HB2.out.trans (HB3.out.mono HB2.out.size)).mono HB1.out.size))
  go_wp2_with fail
  refine (graph_Order.calls k A0 c0 l0 o _ (Kd.C_below HR.out HB03.out) HC0.out HO.out).mono ?_
  rintro e W4 ⟨v13, rfl, hRo, hB4⟩
  obtain ⟨Ao, co, rfl⟩ := Kd.R_slice hRo
  have HRo := Aside0.mk (Kd.R_reads' hRo).2.2
  have C34 := Aside0.mk ((hB4.cell (World.block_lt_of_cell? _ _ C3.out)).trans C3.out)
  have C44 := Aside0.mk ((hB4.cell (World.block_lt_of_cell? _ _ C4.out)).trans C4.out)
  have HM4 := Aside0.mk (HM3.out.below hB4)
  have HB4 := Aside0.mk hB4
  clear hRo hB4
  go_wp2
  go_loopg [15] o.length (fun kq v15 W' => ∃ i : Nat, v15 = .int .i64 i ∧ Aside0 (kq + i = o.length) ∧ Aside0 (MI W' (W2.heap.size + 1) i (numL (o.take i))) ∧ Aside0 (W4.grownBy W' (some (W2.heap.size + 1))))
  case atStart => exact ⟨0, rfl, ⟨rfl⟩, ⟨HM4.out⟩, ⟨⟨rfl, rfl, rfl, Nat.le_refl _, fun _ _ _ => rfl⟩⟩⟩
  case round =>
    obtain ⟨i, rfl, HI, HM, HG⟩ := hrel
    cases gk with
    | zero =>
      have hi : i = o.length := by have := HI.out; omega
      subst hi
      rw [List.take_length] at HM
      obtain ⟨es4, ck4, hmap4⟩ := HM4.out.isMap
      have hnc : ∀ r, some (W2.heap.size + 1) = some r → ∃ o : Obj, W4.heap[r]? = some o ∧ o.isCells = false := fun r e => by injection e with e; subst e; exact ⟨_, hmap4, rfl⟩
      have hs4 := HB4.out.size
      have hs3 := HS3.out
      have hs2 := HB2.out.size
      have hs1 := HS1.out
      have hK3 := cell_kept C34.out HG.out hnc
      have hK4 := cell_kept C44.out HG.out hnc
      have hB05 : Below w.heap.size w wr := (HB03.out.trans (HB4.out.mono (HB03.out.size))).grown HG.out (by omega) (fun k e => by injection e with e; omega)
      have hB15 : Below W1.heap.size W1 wr := ((HB2.out.trans (HB3.out.mono HB2.out.size)).trans (HB4.out.mono (by omega))).grown HG.out (by omega) (fun k e => by injection e with e; omega)
      have hB25 : Below (W2.heap.size) W2 wr := (HB3.out.trans (HB4.out.mono (by omega))).grown HG.out (by omega) (fun k e => by injection e with e; omega)
      have KR := Aside0.mk ((hB15.block _ (Array.getElem?_eq_some_iff.1 HCR.out).1).trans HCR.out)
      have KX := Aside0.mk ((hB25.block bk hbk2).trans HBX.out)
      have KD := Aside0.mk (Kd.C_below (Kd.R_reads' HRd.out).2.2 hB25)
      have KDc := Aside0.mk ((Kd.R_reads' HRd.out).2.1)
      have K3 := Aside0.mk hK3
      have K4 := Aside0.mk hK4
      have HB5 := Aside0.mk hB05
      have hws : w.heap.size < wr.heap.size := (Array.getElem?_eq_some_iff.1 KR.out).1
      clear hK3 hK4 hB05 hB15 hB25 hs4 hs3 hs2 hs1 hnc hmap4 HG HB4 HM4 C34 C44 HRo HB03 HB3 HM3 C3 C4 HCR HB2 HRd HBX HS3
      go_wp2
      refine wpIn_seq (wpIn_seq ?_)
      gi_wp2
      refine ⟨trivial, ?_⟩
      refine (callsIn_wide.2 (edges_calls A0 l0.length c0 _)).mono ?_
      rintro e w' ⟨rfl, rfl⟩
      gi_wp2
      have c6 := cell_new_c' wr (.slice A0 l0.length c0) 22
      have hB6 : Below wr.heap.size wr (wr.alloc (.cells #[.slice A0 l0.length c0] 22)) := below_alloc (Below.refl _ _) _
      have hs6 : (wr.alloc (.cells #[.slice A0 l0.length c0] 22)).heap.size = wr.heap.size + 1 := by simp
      obtain ⟨wL, hwL⟩ : ∃ wL, wr.alloc (.cells #[.slice A0 l0.length c0] 22) = wL := ⟨_, rfl⟩
      rw [hwL] at c6 hB6 hs6 ⊢
      have HB6 := Aside0.mk hB6
      have HS6 := Aside0.mk hs6
      clear hB6 hs6 hwL
      refine wpIn_rangeFunc_ownG rfl (by omega) (gf := 104) (lb := #[.pointer (some ⟨wr.heap.size, 0, none⟩)]) rfl trivial (enters_of Try.func104 (by kernel_rfl) rfl)
        (edges_stops 5 (by omega) wr.heap.size A0 c0 l0 HOK.out (fun _ _ => False) wL (fun _ _ _ _ h => h.elim) (fun _ h => h.elim) (Kd.C_below HR.out (HB5.out.trans (HB6.out.mono HB5.out.size))) HC0.out c6.1) EdKp.trans (EdKp.put (fun _ _ _ _ h => h.elim)) (Below.refl _ _) (fun _ => rfl)
        (fun pre W => Below wL.heap.size wL W ∧ ∀ e ∈ pre.map Subtype.val, badE d o e = false)
        (fun c pre W => (c = .ret ∧ ∃ e ∈ pre.map Subtype.val, badE d o e = true) ∧ (W.cell? ⟨w.heap.size, 0, none⟩ = some (.bool false) ∧ Below w.heap.size w W))
        (OwnFrom.and (ownFrom_below (Nat.le_refl _) (Nat.le_refl _)) (ownFrom_pure _ _))
        (fun c s A B row hs hg hr => ⟨hs.1, cell_kept hs.2.1 hg (fun r e => (hr r e).2), hs.2.2.grown hg hs.2.2.size (fun k e => by have := (hr k e).1; have := HS6.out; omega)⟩)
        ⟨Below.refl _ _, by simp⟩
        (fun x => { tmps := #[Value.slice A0 l0.length c0, undef, Value.pointer (some { block := w.heap.size, off := 0 }),
          Value.pointer (some { block := W2.heap.size, off := 0 }),
          Value.pointer (some { block := W2.heap.size + 1 + 1, off := 0 }), u5, u6, .int .i64 x.1.1, .int .i64 x.1.2,
          Value.slice A0 l0.length c0, Value.func (Fn.func 103) #[] #[Value.pointer (some { block := bk, off := 0 })],
          Value.map (some (W2.heap.size + 1)), Value.slice A0 l0.length c0, Value.slice Ao o.length co,
          Value.int IntKind.i64 ↑o.length, Value.int IntKind.i64 ↑o.length, Value.bool false, u17, u18, u19, u20, u21,
          u22, u23, u24, Value.slice A0 l0.length c0,
          Value.func (Fn.func 104) #[] #[Value.pointer (some { block := wr.heap.size, off := 0 })], .int .i64 x.1.1, .int .i64 x.1.2, undef, undef, undef, undef, undef, undef, undef, undef, undef, undef, undef, undef, undef, undef, undef, undef, undef, undef, undef, undef], defers := [] }) ?assign ?body ?done ?stop
      case assign =>
        intro l x W K hK
        simp only [edEnc]
        gi_wp2
        exact hK
      case body =>
        rintro l pre ⟨⟨a, b⟩, ha0, ha1, hb0, hb1⟩ W ⟨hB, hall⟩ hlt
        simp only at ha0 ha1 hb0 hb1
        have hbW1 : Below wr.heap.size wr W := HB6.out.trans (hB.mono HB6.out.size)
        have hc3 := (hbW1.cell (World.block_lt_of_cell? _ _ K3.out)).trans K3.out
        have hc4 := (hbW1.cell (World.block_lt_of_cell? _ _ K4.out)).trans K4.out
        have hMW := HM.out.below hbW1
        have hla := hMW.look (x := a) (wf64_of (by omega) (by omega))
        have hlb := hMW.look (x := b) (wf64_of (by omega) (by omega))
        have hhr := (hbW1.block _ hws).trans KR.out
        have hcon := back1_calls bk Ad cd d a b W ((hbW1.cell (p := ⟨bk, 0, none⟩) (Array.getElem?_eq_some_iff.1 KX.out).1).trans (cell_of_box' KX.out).1) (Kd.C_below KD.out hbW1) KDc.out (by have := HDL.out; omega) ha0 (by have := HDL.out; omega)
        have HCON := Aside0.mk hcon
        have HHR := Aside0.mk hhr
        have HALL := Aside0.mk hall
        have HB := Aside0.mk hB
        have HBWW : Aside0 (Below w.heap.size w W) := ⟨HB5.out.trans (hbW1.mono HB5.out.size)⟩
        have HFW : Aside0 (wL.heap.size ≤ W.heap.size) := ⟨hB.size⟩
        have hgood : badE d o (a, b) = false → ∀ e ∈ (pre ++ [(⟨(a, b), by omega⟩ : Ed l0.length)]).map Subtype.val, badE d o e = false := by
          intro hb e he
          rw [List.map_append, List.mem_append] at he
          rcases he with he | he
          · exact HALL.out e he
          · simp only [List.map_cons, List.map_nil, List.mem_singleton] at he
            rw [he]; exact hb
        have HGOOD := Aside0.mk hgood
        clear hcon hhr hall hB hbW1 hMW hgood
        by_cases h1 : 0 < numL o a
        · have k1 : decide (0 < numL o a) = true := decide_eq_true h1
          by_cases h2 : numL o b ≤ numL o a
          · have k2 : decide (numL o b ≤ numL o a) = true := decide_eq_true h2
            cases hback : backL d a b with
            | true =>
              rw [hback] at HCON
              gi_wp2
              refine ⟨trivial, ?_⟩
              refine (CallsIn.inRound l (callsIn_wide.2 HCON.out)).mono ?_
              rintro e W' ⟨rfl, hBW'⟩
              gi_wp2
              have hbe : badE d o (a, b) = false := by simp [badE, hback]
              exact ⟨KeepsFrom.of_below hBW', EdKp.of_below (fun _ _ _ _ h => h.elim) HFW.out hBW', HB.out.trans (hBW'.mono HFW.out), HGOOD.out hbe⟩
            | false =>
              rw [hback] at HCON
              gi_wp2
              refine ⟨trivial, ?_⟩
              refine (CallsIn.inRound l (callsIn_wide.2 HCON.out)).mono ?_
              rintro e W' ⟨rfl, hBW'⟩
              have hhr' := (hBW'.block _ (Array.getElem?_eq_some_iff.1 HHR.out).1).trans HHR.out
              obtain ⟨hcr, hfr⟩ := cell_of_box' hhr'
              gi_wp2
              have hbe : badE d o (a, b) = true := by simp [badE, hback, h1, h2]
              have hg8 := grownBy_setCell_b W' w.heap.size 0 (.bool false)
              refine ⟨(KeepsFrom.of_below hBW').trans (KeepsFrom.of_grownBy hg8 (fun j e => by injection e with e; have := HS6.out; omega)), ⟨rfl, (a, b), by simp, hbe⟩, World.cell?_setCell_same _ _ _ hcr, ?_⟩
              exact (HBWW.out.trans (hBW'.mono HBWW.out.size)).grown hg8 (by have := HBWW.out.size; have := hBW'.size; omega) (fun k e => by injection e with e; omega)
          · have k2 : decide (numL o b ≤ numL o a) = false := decide_eq_false h2
            gi_wp2
            refine ⟨fun f h => (by cases h), ?_⟩
            gi_wp2
            have hbe : badE d o (a, b) = false := by simp [badE, k2]
            exact ⟨KeepsFrom.refl _ _, EdKp.refl _ _ _, HB.out, HGOOD.out hbe⟩
        · have k1 : decide (0 < numL o a) = false := decide_eq_false h1
          gi_wp2
          refine ⟨fun f h => (by cases h), ?_⟩
          gi_wp2
          have hbe : badE d o (a, b) = false := by simp [badE, k1]
          exact ⟨KeepsFrom.refl _ _, EdKp.refl _ _ _, HB.out, HGOOD.out hbe⟩
      case done =>
        rintro D ys W hD hys ⟨hB, hall⟩ hK
        have hr : r = true := by
          rw [← HE.out]
          unfold redL
          rw [List.all_eq_true]
          intro e he
          rw [← hys] at he
          have h1 := hall e he
          unfold badE at h1
          rw [h1]; rfl
        subst hr
        have hh1 : W.heap[w.heap.size]? = some (.cells #[.bool false] 4 (0, 0)) := ((HB6.out.trans (hB.mono HB6.out.size)).block w.heap.size hws).trans KR.out
        obtain ⟨hc1, hf1⟩ := cell_of_box' hh1
        have hbW : Below w.heap.size w W := (HB5.out.trans (HB6.out.mono HB5.out.size)).trans (hB.mono (by have := HS6.out; omega))
        gi_wp2
        refine ⟨by simp, .inl ⟨_, _, rfl, run_takeDeferred ((Below.heap_setCell _ _ _ D (by have := HS6.out; simp only; omega)).trans hK), ?_⟩⟩
        refine ⟨_, results_cell_bool rfl _ _ ⟨w.heap.size, 0, none⟩ true rfl ?_, rfl, ?_⟩
        · exact cell_kept (World.cell?_setCell_same _ _ _ hc1) (grownBy_putObj' _ D _) (fun r e => by cases e; exact ⟨_, (Below.heap_setCell _ _ _ D (by have := HS6.out; simp only; omega)).trans hK, rfl⟩)
        · exact (hbW.grown (grownBy_setCell_b W w.heap.size 0 (.bool true)) hbW.size (fun k e => by injection e with e; omega)).grown (grownBy_putObj' _ D _) (by have := hbW.size; simp [World.setCell]; omega) (fun k e => by cases e; have := HS6.out; omega)
      case stop =>
        rintro D c pre W hD hpre ⟨⟨rfl, hbad⟩, hc1, hbW⟩ hK
        have hr : r = false := by
          rw [← HE.out]
          unfold redL
          rw [List.all_eq_false]
          obtain ⟨e, he, hb⟩ := hbad
          refine ⟨e, hpre.subset he, ?_⟩
          unfold badE at hb
          rw [hb]; simp
        subst hr
        gi_wp2
        refine ⟨by simp, .inl ⟨_, _, rfl, run_takeDeferred hK, ?_⟩⟩
        refine ⟨_, results_cell_bool rfl _ _ ⟨w.heap.size, 0, none⟩ false rfl ?_, rfl, ?_⟩
        · exact cell_kept hc1 (grownBy_putObj' _ D _) (fun r e => by cases e; exact ⟨_, hK, rfl⟩)
        · exact hbW.grown (grownBy_putObj' _ D _) hbW.size (fun k e => by cases e; have := HS6.out; omega)
    | succ k1 =>
      have hi : i < o.length := by have := HI.out; omega
      obtain ⟨ad, eao, hc⟩ := Kd.at_int HRo.out (i : Int) (by omega) (by omega)
      subst eao
      simp only [Int.toNat_natCast] at hc
      obtain ⟨es4, ck4, hmap4⟩ := HM4.out.isMap
      have hnc : ∀ r, some (W2.heap.size + 1) = some r → ∃ o : Obj, W4.heap[r]? = some o ∧ o.isCells = false := fun r e => by injection e with e; subst e; exact ⟨_, hmap4, rfl⟩
      have hcw : wr.cell? (ad.add i) = some (.int .i64 (rd o i)) := cell_kept hc HG.out hnc
      have hcb : wr.cell? ⟨W2.heap.size + 1 + 1, 0, none⟩ = some (.map (some (W2.heap.size + 1))) := cell_kept C44.out HG.out hnc
      have hmem : rd o i ∈ o := by
        have e : rd o i = o[i] := by simp [rd, hi]
        rw [e]; exact List.getElem_mem _
      have hbo := HOB.out _ hmem
      have hol := HOL.out
      have hwf : wf64 (rd o i) := wf64_of (by omega) (by omega)
      have hwi : wrap64 ((i : Int) + 1) = (i : Int) + 1 := by unfold wrap64; omega
      obtain ⟨W', hrun, hM', hg'⟩ := HM.out.put (v := (i : Int) + 1) hwf (wf64_of (by omega) (by omega)) (by unfold maxLen; omega)
      have HM' : Aside0 (MI W' (W2.heap.size + 1) (i + 1) (numL (o.take (i + 1)))) := ⟨by
        have e : numL (o.take (i + 1)) = fun y => if y = rd o i then (i : Int) + 1 else numL (o.take i) y := by
          funext y
          rw [take_snoc_rd o i hi, numL_snoc, List.length_take, Nat.min_eq_left (by omega)]
        rw [e]; exact hM'⟩
      have HG' := Aside0.mk (HG.out.trans hg')
      clear hM' hg' hnc hmap4 hc hbo hmem
      go_wp2
      go_roundg k1
      case measure => omega
      case rel => exact ⟨i + 1, by go_num, ⟨by have := HI.out; omega⟩, HM', HG'⟩
end Go.Proofs.Ytnmeomdjhjgnfaa.X
end
section
set_option linter.unusedSimpArgs false
namespace Go.Proofs.Ytnmeomdjhjgnfaa.X
open Go.RowKit Go.Shelf Go.Proofs.YtnmeomdjhjgnfaaW.PrintWords Go.Proofs.YtnmeomdjhjgnfaaW.PrintLast Go.Proofs.YtnmeomdjhjgnfaaW.PrintMore
set_option linter.unusedVariables false
attribute [local go_sem] Oper.semAt_some

def opL (d : List Int) (h : Int) (es : List (Int × Int)) : List Int := (es.filter fun e => e.2 == h && backL d e.1 e.2).map (·.1)
theorem opL_snoc (d : List Int) (h : Int) (es : List (Int × Int)) (a b : Int) : opL d h (es ++ [(a, b)]) = if (b == h && backL d a b) = true then opL d h es ++ [a] else opL d h es := by
  unfold opL
  rw [List.filter_append, List.map_append]
  simp only [List.filter_cons, List.filter_nil]
  split <;> simp
theorem opL_length (d : List Int) (h : Int) (es : List (Int × Int)) : (opL d h es).length ≤ es.length := by
  unfold opL; rw [List.length_map]; exact List.length_filter_le _ _

/-- The code's end is a return. -/
def onlyRet (Q : Exit → Act → World → Prop) : Exit → Act → World → Prop
  | .ret, a, w => Q .ret a w
  | _, _, _ => False
theorem wpIn_onlyRet {F : Fence} {n : Nat} {P : Program} {c : Code} {Q : Exit → Act → World → Prop} {a : Act} {w : World} (h : c.wpIn F n P (onlyRet Q) a w) : c.wpIn F n P Q a w :=
  wpIn_mono h (fun e a w h => by cases e <;> first | exact h | exact h.elim)
theorem preds_in_fold (n : Nat) (es : List (Int × Int)) : ∀ rows : List (List Int), (∀ r ∈ rows, ∀ x ∈ r, 0 ≤ x ∧ x < (n : Int)) → (∀ e ∈ es, 0 ≤ e.1 ∧ e.1 < n) → ∀ r ∈ es.foldl predStep rows, ∀ x ∈ r, 0 ≤ x ∧ x < n := by
  induction es with
  | nil => intro rows h _; exact h
  | cons e es ih =>
    intro rows h he
    refine ih _ (fun r hr x hx => ?_) (fun e' h' => he e' (List.mem_cons_of_mem _ h'))
    rcases List.mem_or_eq_of_mem_set hr with hr | rfl
    · exact h r hr x hx
    · rcases List.mem_append.1 hx with hx | hx
      · rcases getD_mem rows e.2.toNat with h2 | h2
        · rw [h2] at hx; cases hx
        · exact h _ h2 x hx
      · rw [List.mem_singleton.1 hx]; exact he e List.mem_cons_self
theorem predsL_in (g : List (List Int)) : ∀ r ∈ predsL g, ∀ x ∈ r, 0 ≤ x ∧ x < g.length :=
  preds_in_fold g.length (edgesL g) _ (fun r hr x hx => by rw [List.eq_of_mem_replicate hr] at hx; cases hx) (fun e he => (edgesL_in g e he).1)
theorem getD_mem' (l : List (List Int)) (i : Nat) : ∀ x ∈ l.getD i [], l.getD i [] ∈ l := by
  intro x hx
  rcases getD_mem l i with h | h
  · rw [h] at hx; cases hx
  · exact h
theorem MB.same {w w' : World} {b n : Nat} {f : Int → Bool} (h : MB w b n f) (he : w'.heap[b]? = w.heap[b]?) : MB w' b n f := by
  obtain ⟨D, ⟨es, clock, hb', F, hs, hD⟩, hf⟩ := h.own
  exact ⟨D, ⟨es, clock, he.trans hb', F, hs, hD⟩, hf⟩
/-- Memory while the loop's blocks are gathered. -/
structure BdIn (w wL : World) (b9 bm D : Nat) (o s : List Int) (W : World) : Prop where
  box : ∃ v, W.heap[b9]? = some (.cells #[v] 23 (0, 0)) ∧ (Kd.int .i64).R 3 W wL.heap.size (fun _ => True) v o
  map : MB W bm s.length (fun x => s.contains x)
  stay : ∀ k, k < b9 → k ≠ bm → W.heap[k]? = wL.heap[k]?
  below : Below w.heap.size w W
  defer : W.heap[D]? = some (.deferred (some []))
  far : wL.heap.size ≤ W.heap.size
theorem bd_store {w wL W : World} {b9 bm D : Nat} {o' s : List Int} {v v' : Value} (hv : W.heap[b9]? = some (.cells #[v] 23 (0, 0))) (hmap : MB W bm s.length (fun x => s.contains x)) (hstay : ∀ k, k < b9 → k ≠ bm → W.heap[k]? = wL.heap[k]?) (hbelow : Below w.heap.size w W)
    (hdefer : W.heap[D]? = some (.deferred (some []))) (hf : wL.heap.size ≤ W.heap.size) (hw : w.heap.size ≤ bm) (h1 : bm < b9) (h2 : b9 < wL.heap.size) (h3 : wL.heap.size ≤ D) (hR : (Kd.int .i64).R 3 W wL.heap.size (fun _ => True) v' o') :
    BdIn w wL b9 bm D o' s (W.setCell ⟨b9, 0, none⟩ v') := by
  have hg := grownBy_setCell_b W b9 0 v'
  have hne : ∀ k, k < W.heap.size → k ≠ b9 → (W.setCell ⟨b9, 0, none⟩ v').heap[k]? = W.heap[k]? := fun k hk hn => hg.block k hk (by intro e; injection e with e; exact hn e)
  refine ⟨⟨v', heap_box hv _, Kd.R_mono (Kd.R_step (Kd.R_bound hR) (fun k hk hlt => hne k hlt (by have := hk.2.1; omega))) (fun _ _ => trivial)⟩, hmap.same (hne bm (by omega) (by omega)), fun k hk hn => (hne k (by omega) (by omega)).trans (hstay k hk hn),
    hbelow.grown hg hbelow.size (fun k e => by injection e with e; omega), (hne D (Array.getElem?_eq_some_iff.1 hdefer).1 (by omega)).trans hdefer, Nat.le_trans hf hg.size⟩
theorem BdIn.pop {w wL W : World} {b9 bm D : Nat} {o o' s : List Int} {v' : Value} (h : BdIn w wL b9 bm D o s W) (hw : w.heap.size ≤ bm) (h1 : bm < b9) (h2 : b9 < wL.heap.size) (h3 : wL.heap.size ≤ D) (hR : (Kd.int .i64).R 3 W wL.heap.size (fun _ => True) v' o') :
    BdIn w wL b9 bm D o' s (W.setCell ⟨b9, 0, none⟩ v') := by
  obtain ⟨v, hv, _⟩ := h.box
  exact bd_store hv h.map h.stay h.below h.defer h.far hw h1 h2 h3 hR
theorem BdIn.put {w wL W W' : World} {b9 bm D : Nat} {o s s' : List Int} (h : BdIn w wL b9 bm D o s W) (hw : w.heap.size ≤ bm) (h1 : bm < b9) (h2 : b9 < wL.heap.size) (h3 : wL.heap.size ≤ D) (hg : W.grownBy W' (some bm)) (hM : MB W' bm s'.length (fun x => s'.contains x)) :
    BdIn w wL b9 bm D o s' W' := by
  obtain ⟨v, hv, hR⟩ := h.box
  have hne : ∀ k, k < W.heap.size → k ≠ bm → W'.heap[k]? = W.heap[k]? := fun k hk hn => hg.block k hk (by intro e; injection e with e; exact hn e)
  have hf := h.far
  refine ⟨⟨v, (hne b9 (by omega) (by omega)).trans hv, Kd.R_mono (Kd.R_step (Kd.R_bound hR) (fun k hk hlt => hne k hlt (by have := hk.2.1; omega))) (fun _ _ => trivial)⟩, hM, fun k hk hn => (hne k (by omega) hn).trans (h.stay k hk hn),
    h.below.grown hg h.below.size (fun k e => by injection e with e; omega), (hne D (Array.getElem?_eq_some_iff.1 h.defer).1 (by omega)).trans h.defer, Nat.le_trans h.far hg.size⟩
theorem BdIn.grow {w wL W W' : World} {b9 bm D : Nat} {o s : List Int} {v : Value} (h : BdIn w wL b9 bm D o s W) (h1 : bm < b9) (h2 : b9 < wL.heap.size) (hw : w.heap.size ≤ wL.heap.size)
    (hv : W.heap[b9]? = some (.cells #[v] 23 (0, 0))) (hR : (Kd.int .i64).R 3 W wL.heap.size (fun _ => True) v o) (hg : W.grownBy W' v.ownBlock) :
    W'.heap[b9]? = some (.cells #[v] 23 (0, 0)) ∧ MB W' bm s.length (fun x => s.contains x) ∧ (∀ k, k < b9 → k ≠ bm → W'.heap[k]? = wL.heap[k]?) ∧ Below w.heap.size w W' ∧ W'.heap[D]? = some (.deferred (some [])) ∧ wL.heap.size ≤ W'.heap.size := by
  have hb := Kd.R_base hR
  have hf := h.far
  have hne : ∀ k, k < wL.heap.size → W'.heap[k]? = W.heap[k]? := fun k hk => hg.block k (by omega) (fun e => by have := hb k e.symm; omega)
  refine ⟨(hne b9 h2).trans hv, h.map.same (hne bm (by omega)), fun k hk hn => (hne k (by omega)).trans (h.stay k hk hn), h.below.grown hg h.below.size (fun k e => by have := hb k e; omega), ?_, Nat.le_trans hf hg.size⟩
  refine (hg.block D (Array.getElem?_eq_some_iff.1 h.defer).1 (fun e => ?_)).trans h.defer
  obtain ⟨c, hc⟩ := Kd.R_typed hR D e.symm
  have := h.defer
  rw [hc] at this
  cases this
theorem BdIn.app {w wL W W' : World} {b9 bm D : Nat} {o o' s : List Int} {v v' : Value} (h : BdIn w wL b9 bm D o s W) (hw : w.heap.size ≤ bm) (h1 : bm < b9) (h2 : b9 < wL.heap.size) (h3 : wL.heap.size ≤ D)
    (hv : W.heap[b9]? = some (.cells #[v] 23 (0, 0))) (hR : (Kd.int .i64).R 3 W wL.heap.size (fun _ => True) v o) (hg : W.grownBy W' v.ownBlock) (hR' : (Kd.int .i64).R 3 W' wL.heap.size (fun _ => True) v' o') :
    BdIn w wL b9 bm D o' s (W'.setCell ⟨b9, 0, none⟩ v') := by
  obtain ⟨k1, k2, k3, k4, k5, k6⟩ := h.grow h1 h2 (by omega) hv hR hg
  exact bd_store k1 k2 k3 k4 k5 k6 hw h1 h2 h3 hR'
set_option maxHeartbeats 8000000 in
set_option maxRecDepth 100000 in
theorem graph_Body.calls (k : Nat) (A0 : Option Addr) (c0 : Nat) (l0 : List (List Int)) (a1 : Int) (r : List Int) (w : World) (hr0 : Kd.C (Kd.slice 3 (Kd.int .i64)) w A0 l0.length l0) (hc0 : l0.length ≤ c0) (h : graph_Body.f k l0 a1 = some r) :
    Calls Try.prog 39 #[.slice A0 l0.length c0, .int .i64 a1] w fun e w' => ∃ v0_ : Value, e = .returned (v0_) ∧ Kd.R (Kd.int .i64) 3 w' w.heap.size (fun _ => True) v0_ r ∧ Below w.heap.size w w' := by
  unfold graph_Body.f at h
  split at h
  case isFalse => cases h
  rename_i hok
  obtain ⟨d, hd, h⟩ := Option.bind_eq_some_iff.1 h
  obtain ⟨o, ho, h⟩ := Option.bind_eq_some_iff.1 h
  split at h
  case isFalse => cases h
  rename_i hdl
  obtain ⟨hdl, hel, hol, hob, ha0, ha1⟩ := hdl
  have hlen := (okG_len hok).1
  have HR := Aside0.mk hr0
  have HC0 := Aside0.mk hc0
  have HOK := Aside0.mk hok
  have HE := Aside0.mk h
  have HD := Aside0.mk hd
  have HO := Aside0.mk ho
  have HDL := Aside0.mk hdl
  have HEL := Aside0.mk hel
  have HOL := Aside0.mk hol
  have HOB := Aside0.mk hob
  clear hr0 hc0 hok h hd ho hdl hol hob hel
  have hmm := @run_makeMap Try.prog
  refine (callsIn_wide (n := 6)).1 ?_
  refine callsIn_of_wp_marks Try.func39 rfl trivial ?_ rfl
  simp only [Try.ntmps39, List.size_toArray, List.length_cons, List.length_nil, Nat.reduceAdd, Nat.reduceSub, Array.replicate_succ, Array.replicate_zero, List.push_toArray, List.append_toArray, List.nil_append, List.cons_append]
  refine wpIn_seq (wpIn_wide.2 ?_)
  go_wp2
  have hb0 : Below w.heap.size w (w.alloc (.cells #[.int .i64 a1] 3)) := below_alloc (Below.refl _ _) _
  have hcr := cell_new_c' w (.int .i64 a1) 3
  obtain ⟨W1, hW1⟩ : ∃ W1, w.alloc (.cells #[.int .i64 a1] 3) = W1 := ⟨_, rfl⟩
  have hs1 : W1.heap.size = w.heap.size + 1 := by rw [← hW1]; simp
  rw [hW1] at hb0 hcr ⊢
  have HCR := Aside0.mk hcr.1
  have HB1 := Aside0.mk hb0
  have HS1 := Aside0.mk hs1
  clear hb0 hcr hs1 hW1
  refine wpIn_seq (wpIn_wide.2 ?_)
  go_wp2_with fail
  refine (back_calls k A0 c0 l0 d _ (Kd.C_below HR.out HB1.out) HC0.out HD.out).mono ?_
  rintro e W2 ⟨bk, Ad, cd, rfl, hbk, hbx, hRd, hB2⟩
  have HBX := Aside0.mk hbx
  have HRd := Aside0.mk (Kd.R_reads' hRd)
  have HB2 := Aside0.mk (HB1.out.trans (hB2.mono HB1.out.size))
  have HCR2 := Aside0.mk ((hB2.cell (World.block_lt_of_cell? _ _ HCR.out)).trans HCR.out)
  have hbk2 := blk_lt hbx
  clear hbx hRd hB2 HCR HB1 HS1
  go_wp2
  have hb3 : Below W2.heap.size W2 (W2.alloc (.cells #[.func (.func 103) #[] #[.pointer (some ⟨bk, 0, none⟩)]] 53)) := below_alloc (Below.refl _ _) _
  have hc3 := cell_new_c' W2 (.func (.func 103) #[] #[.pointer (some ⟨bk, 0, none⟩)]) 53
  obtain ⟨W3, hW3⟩ : ∃ W3, W2.alloc (.cells #[.func (.func 103) #[] #[.pointer (some ⟨bk, 0, none⟩)]] 53) = W3 := ⟨_, rfl⟩
  have hs3 : W3.heap.size = W2.heap.size + 1 := by rw [← hW3]; simp
  rw [hW3] at hb3 hc3 ⊢
  have HC3 := Aside0.mk hc3.1
  have HB3 := Aside0.mk hb3
  have HS3 := Aside0.mk hs3
  have HB03 := Aside0.mk (HB2.out.trans (hb3.mono HB2.out.size))
  clear hb3 hc3 hs3 hW3
  refine wpIn_seq (wpIn_wide.2 ?_)
  go_wp2_with fail
  refine (graph_Preds.calls A0 c0 l0 (predsL l0) _ (Kd.C_below HR.out HB03.out) HC0.out (by unfold graph_Preds.f; rw [if_pos HOK.out])).mono ?_
  rintro e W4 ⟨v17, rfl, hS17, hB4⟩
  obtain ⟨Ap, cp, rfl, _, _⟩ := Kd.S_reads hS17
  rw [predsL_length] at hS17 ⊢
  have HP4 := Aside0.mk hS17
  have HB4 := Aside0.mk hB4
  clear hS17 hB4
  go_wp2
  refine wpIn_seq (wpIn_wide.2 ?_)
  go_wp2_with fail
  refine (graph_Order.calls k A0 c0 l0 o _ (Kd.C_below HR.out (HB03.out.trans (HB4.out.mono HB03.out.size))) HC0.out HO.out).mono ?_
  rintro e W5 ⟨v21, rfl, hRo, hB5⟩
  obtain ⟨Ao, co, rfl⟩ := Kd.R_slice hRo
  have HO5 := Aside0.mk (Kd.R_reads' hRo)
  have HB35 := Aside0.mk (HB4.out.trans (hB5.mono HB4.out.size))
  have HP5 := Aside0.mk (Kd.S_mono (ok' := fun k => k < W4.heap.size) (Kd.S_bound (Kd.S_below (Kd.S_mono (ok' := fun k => k < W4.heap.size) (Kd.S_bound HP4.out) (fun k hk => hk.2.2.1)) hB5)) (fun k hk => hk.1))
  have hs45 := hB5.size
  clear hRo hB5 HP4
  go_wp2
  have hHM := World.alloc_heap_new W5 (.map #[] 0)
  obtain ⟨W6, hrun6, hM6, hg6⟩ := (MB.made W5).put (x := a1) true (wf64_of (by omega) (by omega)) (by unfold maxLen; omega)
  have hc6 : (W5.alloc (.map #[] 0)).cell? ⟨w.heap.size, 0, none⟩ = some (.int .i64 a1) := cell_alloc' _ ((HB35.out.cell (World.block_lt_of_cell? _ _ ((HB3.out.cell (World.block_lt_of_cell? _ _ HCR2.out)).trans HCR2.out))).trans ((HB3.out.cell (World.block_lt_of_cell? _ _ HCR2.out)).trans HCR2.out))
  have hs56 : W5.heap.size + 1 ≤ W6.heap.size := by have := hg6.size; simpa using this
  have HB56 : Aside0 (Below W5.heap.size W5 W6) := ⟨(below_alloc (Below.refl _ _) _).grown hg6 (by simp) (fun k e => by injection e with e; omega)⟩
  have HM6 := Aside0.mk hM6
  clear hM6 hg6 hHM
  refine wpIn_seq (wpIn_wide.2 ?_)
  go_wp2
  have hM6 := HM6.out.below (below_alloc (Below.refl _ W6) (.cells #[.slice none 0 0] 23))
  have k9 := World.alloc_heap_new W6 (.cells #[.slice none 0 0] 23)
  have hB67 : Below W6.heap.size W6 (W6.alloc (.cells #[.slice none 0 0] 23)) := below_alloc (Below.refl _ _) _
  refine wpIn_seq (wpIn_wide.2 ?_)
  go_wp2
  obtain ⟨W7, hW7⟩ : ∃ W7, W6.alloc (.cells #[.slice none 0 0] 23) = W7 := ⟨_, rfl⟩
  have hs67 : W7.heap.size = W6.heap.size + 1 := by rw [← hW7]; simp
  rw [hW7] at hM6 k9 hB67 ⊢
  have hfn : (fun y : Int => if y = a1 then true else false) = fun y => [a1].contains y := by
    funext y
    by_cases hy : y = a1 <;> simp [hy]
  rw [hfn] at hM6
  have hB57 : Below W5.heap.size W5 W7 := HB56.out.trans (hB67.mono (by omega))
  have hB37 : Below W3.heap.size W3 W7 := HB35.out.trans (hB57.mono (by have := HB35.out.size; omega))
  have hB27 : Below W2.heap.size W2 W7 := HB3.out.trans (hB37.mono (by have := HB3.out.size; omega))
  have hB07 : Below w.heap.size w W7 := HB2.out.trans (hB27.mono (by have := HB2.out.size; omega))
  have K1 := Aside0.mk ((hB27.cell (World.block_lt_of_cell? _ _ HCR2.out)).trans HCR2.out)
  have K3 := Aside0.mk ((hB37.cell (World.block_lt_of_cell? _ _ HC3.out)).trans HC3.out)
  have KX := Aside0.mk ((hB27.block bk hbk2).trans HBX.out)
  have KD := Aside0.mk HRd.out.2.2
  have HB27 := Aside0.mk hB27
  have KDc := Aside0.mk HRd.out.2.1
  have KP := HP5
  have KO := Aside0.mk HO5.out.2.2
  have HB57 := Aside0.mk hB57
  have KOc := Aside0.mk HO5.out.2.1
  have KM := Aside0.mk hM6
  have K9 := Aside0.mk k9
  have HB7 := Aside0.mk hB07
  have HW := Aside0.mk (show w.heap.size ≤ W2.heap.size ∧ W2.heap.size < W3.heap.size ∧ W3.heap.size ≤ W4.heap.size ∧ W4.heap.size ≤ W5.heap.size ∧ W5.heap.size < W6.heap.size ∧ W7.heap.size = W6.heap.size + 1 from ⟨HB2.out.size, by have := HS3.out; omega, HB4.out.size, hs45, hs56, hs67⟩)
  clear hM6 k9 hB67 hW7 hs67 hfn hB57 hB37 hB27 hB07 HM6 HB56 hs56 hc6 hrun6 HO5 hs45 HP5 HB35 HB4 HB03 HS3 HB3 HC3 HCR2 HB2 HBX HRd hmm
  refine wpIn_seq (wpIn_seq ?_)
  gi_wp2
  refine ⟨trivial, ?_⟩
  refine (callsIn_wide.2 (edges_calls A0 l0.length c0 _)).mono ?_
  rintro e w' ⟨rfl, rfl⟩
  gi_wp2
  have c10 := cell_new_c' W7 (.slice A0 l0.length c0) 22
  have hBL : Below W7.heap.size W7 (W7.alloc (.cells #[.slice A0 l0.length c0] 22)) := below_alloc (Below.refl _ _) _
  have hsL : (W7.alloc (.cells #[.slice A0 l0.length c0] 22)).heap.size = W7.heap.size + 1 := by simp
  obtain ⟨wL, hwL⟩ : ∃ wL, W7.alloc (.cells #[.slice A0 l0.length c0] 22) = wL := ⟨_, rfl⟩
  rw [hwL] at c10 hBL hsL ⊢
  have k9L : wL.heap[W6.heap.size]? = some (.cells #[.slice none 0 0] 23 (0, 0)) := (hBL.block _ (blk_lt K9.out)).trans K9.out
  have HI0 := Aside0.mk (OutIn.start (d := Kd.int .i64) (e := 3) k9L)
  have hMW := HI0.out.names
  have hbL : W6.heap.size < wL.heap.size := by have := HW.out.2.2.2.2.2; omega
  have hMd : Told wL.heap.size (BxM W6.heap.size) := BxM.told hbL
  have HBL := Aside0.mk hBL
  have HSL := Aside0.mk hsL
  clear hBL hsL hwL k9L
  refine wpIn_rangeFunc_ownG rfl (by omega) (gf := 104) (lb := #[.pointer (some ⟨W7.heap.size, 0, none⟩)]) rfl trivial (enters_of Try.func104 (by kernel_rfl) rfl)
    (edges_stops 5 (by omega) W7.heap.size A0 c0 l0 HOK.out (BxM W6.heap.size) wL hMd hMW (Kd.C_below HR.out (HB7.out.trans (HBL.out.mono HB7.out.size))) HC0.out c10.1) EdKp.trans (EdKp.put hMd) (Below.refl _ _) (fun _ => rfl)
    (fun pre W => OutIn wL W6.heap.size (Kd.int .i64) 3 23 (opL d a1 (pre.map Subtype.val)) W)
    (fun _ _ _ => False)
    (fun s A B row hs hg hr => hs.kept hg hr (by omega))
    (fun _ _ _ _ _ hs _ _ => hs)
    HI0.out
    (fun x => { tmps := #[Value.slice A0 l0.length c0, Value.int IntKind.i64 a1, undef,
          Value.pointer (some { block := w.heap.size, off := 0 }), Value.slice none 0 0,
          Value.pointer (some { block := W2.heap.size, off := 0 }), Value.slice Ap l0.length cp,
          Value.slice Ao o.length co, Value.map (some W5.heap.size),
          Value.pointer (some { block := W6.heap.size, off := 0 }), .int .i64 x.1.1, .int .i64 x.1.2, undef, undef, undef, undef,
          Value.slice A0 l0.length c0, Value.func (Fn.func 103) #[] #[Value.pointer (some { block := bk, off := 0 })],
          Value.slice A0 l0.length c0, Value.slice Ap l0.length cp, Value.slice A0 l0.length c0,
          Value.slice Ao o.length co, Value.map (some W5.heap.size), Value.int IntKind.i64 a1,
          Value.map (some W5.heap.size), Value.slice A0 l0.length c0,
          Value.func (Fn.func 104) #[] #[Value.pointer (some { block := W7.heap.size, off := 0 })], .int .i64 x.1.1, .int .i64 x.1.2, undef, undef, undef, undef, undef, undef, undef, undef, undef, undef, undef, undef, undef, undef, undef, undef, undef, undef, undef, undef, undef, undef, undef, undef, undef, undef, undef, undef, undef, undef, undef, undef, undef, undef, undef, undef, undef, undef, undef, undef, undef, undef, undef, undef, undef, undef, undef, undef, undef, undef, undef, undef, undef, undef, undef, undef, undef, undef, undef], defers := [] }) ?assign ?body ?done ?stop
  case assign =>
    intro l x W K hK
    simp only [edEnc]
    gi_wp2
    exact hK
  case body =>
    rintro l pre ⟨⟨a, b⟩, hq0, hq1, hb0, hb1⟩ W hI hlt
    clear hMd hMW c10 HI0
    simp only at hq0 hq1 hb0 hb1
    obtain ⟨out, hout⟩ : ∃ out, opL d a1 (pre.map Subtype.val) = out := ⟨_, rfl⟩
    rw [hout] at hI
    have HOL : Aside0 (out.length ≤ 1000000000000) := ⟨by
      have h1 := opL_length d a1 (pre.map Subtype.val)
      rw [hout, List.length_map] at h1
      have h2 := HEL.out
      omega⟩
    have hsnoc : opL d a1 ((pre ++ [(⟨(a, b), by omega⟩ : Ed l0.length)]).map Subtype.val) = if (b == a1 && backL d a b) = true then out ++ [a] else out := by
      rw [List.map_append, ← hout]
      exact opL_snoc _ _ _ _ _
    have HSN := Aside0.mk hsnoc
    have HIN := Aside0.mk hI
    clear hsnoc hout
    have hf := hI.far
    have hstay : Below W6.heap.size W7 W := (HBL.out.mono (by have := HW.out.2.2.2.2.2; omega)).trans hI.stay
    have hc1 : W.cell? ⟨w.heap.size, 0, none⟩ = some (.int .i64 a1) := (hstay.cell (p := ⟨w.heap.size, 0, none⟩) (by have := HW.out; simp only; omega)).trans K1.out
    have hc3 : W.cell? ⟨W2.heap.size, 0, none⟩ = some (.func (.func 103) #[] #[.pointer (some ⟨bk, 0, none⟩)]) := (hstay.cell (p := ⟨W2.heap.size, 0, none⟩) (by have := HW.out; simp only; omega)).trans K3.out
    have hcon := back1_calls bk Ad cd d a b W ((hstay.cell (p := ⟨bk, 0, none⟩) (by have := HW.out; simp only; omega)).trans (cell_of_box' KX.out).1) (Kd.C_below KD.out (HB27.out.trans (hstay.mono (by have := HW.out; omega)))) KDc.out (by have := HDL.out; omega) hq0 (by have := HDL.out; omega)
    have HCON := Aside0.mk hcon
    clear hcon hI hstay
    by_cases hba : b = a1
    · have kba : (b == a1) = true := by simpa using hba
      cases hback : backL d a b with
      | false =>
        have HSN2 := HSN.out
        rw [hback, kba] at HSN2
        rw [hback] at HCON
        have HSN3 := Aside0.mk HSN2
        clear HSN2 hba
        gi_wp2
        refine ⟨trivial, ?_⟩
        refine (CallsIn.inRound l (callsIn_wide.2 HCON.out)).mono ?_
        rintro e W' ⟨rfl, hB⟩
        gi_wp2
        have hr := HIN.out.call hB (by omega)
        refine ⟨hr.1, hr.2.1, ?_⟩
        show OutIn _ _ _ _ _ (opL d a1 _) _
        rw [HSN3.out]
        exact hr.2.2
      | true =>
        have HSN2 := HSN.out
        rw [hback, kba] at HSN2
        rw [hback] at HCON
        have HSN3 := Aside0.mk HSN2
        clear HSN2 hba
        refine wpIn_block ?_
        refine wpIn_seq ?_
        refine wpIn_mono (Q := Exit.then (fun a' w' => Below W.heap.size W w' ∧ a' = { tmps := #[Value.slice A0 l0.length c0, Value.int IntKind.i64 a1, undef,
          Value.pointer (some { block := w.heap.size, off := 0 }), Value.slice none 0 0,
          Value.pointer (some { block := W2.heap.size, off := 0 }), Value.slice Ap l0.length cp,
          Value.slice Ao o.length co, Value.map (some W5.heap.size),
          Value.pointer (some { block := W6.heap.size, off := 0 }), .int .i64 a, .int .i64 b, undef, undef, undef, undef,
          Value.slice A0 l0.length c0, Value.func (Fn.func 103) #[] #[Value.pointer (some { block := bk, off := 0 })],
          Value.slice A0 l0.length c0, Value.slice Ap l0.length cp, Value.slice A0 l0.length c0,
          Value.slice Ao o.length co, Value.map (some W5.heap.size), Value.int IntKind.i64 a1,
          Value.map (some W5.heap.size), Value.slice A0 l0.length c0,
          Value.func (Fn.func 104) #[] #[Value.pointer (some { block := W7.heap.size, off := 0 })], .int .i64 a, .int .i64 b, .int .i64 b, .int .i64 a1, .bool true, .bool true, .func (.func 103) #[] #[.pointer (some ⟨bk, 0, none⟩)], .int .i64 a, .int .i64 b, .bool true, .bool true, undef, undef, undef, undef, undef, undef, undef, undef, undef, undef, undef, undef, undef, undef, undef, undef, undef, undef, undef, undef, undef, undef, undef, undef, undef, undef, undef, undef, undef, undef, undef, undef, undef, undef, undef, undef, undef, undef, undef, undef, undef, undef, undef, undef, undef, undef, undef, undef, undef, undef], defers := [] }) (fun _ _ _ => False)) ?first ?rest
        case first =>
          gi_wp2
          refine ⟨trivial, ?_⟩
          refine (CallsIn.inRound l (callsIn_wide.2 HCON.out)).mono ?_
          rintro e W' ⟨rfl, hB⟩
          gi_wp2
          exact ⟨hB, trivial⟩
        case rest =>
          intro e a' W' h'
          cases e <;> first | exact h'.elim | skip
          obtain ⟨hB, rfl⟩ := h'
          obtain ⟨hk1, hk2, hI2⟩ := HIN.out.call hB (by omega)
          obtain ⟨v, h5, hRv⟩ := hI2.box
          obtain ⟨hc5, hf5⟩ := cell_of_box' h5
          obtain ⟨Av, cv, rfl⟩ := Kd.R_slice hRv
          have HRv := Aside0.mk hRv
          have H5 := Aside0.mk h5
          have HK := Aside0.mk (And.intro hk1 hk2)
          have HI2 := Aside0.mk hI2
          have hf2 := hI2.far
          clear hRv h5 hk1 hk2 hI2
          refine wpIn_cond_true rfl ?_
          refine wpIn_list_plain (by kernel_rfl) (fun ⟨_, _, h'⟩ => h') ?_
          go_wp2_with (first | ((with_reducible refine gate_builtin (b := .append) (xs := #[.tmp 38, .tmp 40]) rfl ?_); at_builtin; refine Kd.R_append (Kd.int .i64) (w0 := W') (W := W') wL.heap.size rfl (.tmp 38) (.tmp 40) 23 3 (.int .i64 0) 8 rfl Try.underlying23 info3 rfl (by decide) (by omega) (.slice Av out.length cv) out a [.int .i64 a] (fun _ => True) (fun _ => False) rfl rfl ?aP (fun _ hk => hk.elim) ?aF ?aO ?aB ?aS ?aL ?_; (case aP => rfl); (case aF => exact fun _ _ => trivial); (case aO => exact HRv.out); (case aB => exact Below.refl _ _); (case aS => exact hf2); (case aL => have := HOL.out; omega); intro v20 W7' ho hb hg hat; obtain ⟨A20, n20, c20, rfl⟩ : ∃ A n c, v20 = .slice A n c := ⟨_, _, _, (Kd.R_slice ho).choose_spec.choose_spec⟩; obtain ⟨hc57, hf57⟩ := cell_of_box' ((hg.block W6.heap.size (blk_lt H5.out) (fun h => by have := Kd.R_base HRv.out _ h.symm; omega)).trans H5.out)) | fail)
          obtain ⟨hr1, hr2, hr3⟩ := HI2.out.append (by omega) H5.out HRv.out ho hg hat
          refine ⟨HK.out.1.trans hr1, HK.out.2.trans hr2, ?_⟩
          show OutIn _ _ _ _ _ (opL d a1 _) _
          rw [HSN3.out]
          exact hr3
    · have kba : (b == a1) = false := by simpa using hba
      have HSN2 := HSN.out
      rw [kba] at HSN2
      have HSN3 := Aside0.mk HSN2
      clear HSN2 hba
      gi_wp2
      refine ⟨fun f h => (by cases h), ?_⟩
      gi_wp2
      refine ⟨KeepsFrom.refl _ _, EdKp.refl _ _ _, ?_⟩
      show OutIn _ _ _ _ _ (opL d a1 _) _
      rw [HSN3.out]
      exact HIN.out
  case done =>
    rintro D ys W hD hys hI hK
    clear hMd hMW c10 HI0
    obtain ⟨op, hop⟩ : ∃ op, opL d a1 (ys.map Subtype.val) = op := ⟨_, rfl⟩
    have hop2 : openL l0 d a1 = op := by rw [← hop, hys]; rfl
    have HOPL : Aside0 (op.length ≤ 100000000) := ⟨by
      have h1 := opL_length d a1 (ys.map Subtype.val)
      rw [hop, hys] at h1
      have h2 := HEL.out
      omega⟩
    rw [hop] at hI
    have hE := HE.out
    rw [hop2] at hE
    have hbW : Below w.heap.size w W := HB7.out.trans ((HBL.out.mono HB7.out.size).trans (hI.stay.mono (by have := HW.out; omega)))
    obtain ⟨v, h5, hRv⟩ := hI.box
    have hM1 : MB W W5.heap.size [a1].length (fun x => [a1].contains x) := (KM.out.below HBL.out).same (hI.stay.block _ (by have := HW.out; omega))
    have HST : Aside0 (BdIn w wL W6.heap.size W5.heap.size D op [a1] W) := ⟨⟨v, h5, hRv⟩, hM1, fun k hk _ => hI.stay.block k hk, hbW, hK, hI.far⟩
    have HE' := Aside0.mk hE
    have hopx : ((ys.map Subtype.val).filter fun e => e.2 == a1 && backL d e.1 e.2).map (·.1) = op := hop
    clear hE HE h5 hRv hM1 hI hop2 hop HOK h hbW hK
    refine wpIn_onlyRet (wpIn_wide.2 ?_)
    obtain ⟨v, h5, hRv⟩ := HST.out.box
    obtain ⟨hc5, hf5⟩ := cell_of_box' h5
    obtain ⟨Av, cv, rfl⟩ := Kd.R_slice hRv
    have H5 := Aside0.mk h5
    have HRv := Aside0.mk hRv
    clear h5 hRv
    by_cases hz : op = []
    · subst hz
      have hr : r = [] := by have := HE'.out; simpa using this.symm
      subst hr
      go_wp2
      refine ⟨by simp, .inl ⟨_, _, rfl, run_takeDeferred HST.out.defer, ?_⟩⟩
      refine ⟨_, results_tmp rfl _ _ _, _, rfl, ?_, ?_⟩
      · exact Kd.R_nil _ _ _ _ _
      · exact HST.out.below.grown (grownBy_putObj' _ D _) HST.out.below.size (fun k e => by cases e; have := HW.out; have := HSL.out; omega)
    · have hpos : 0 < op.length := List.length_pos_iff.2 hz
      have hz2 : ((op.length : Int) == 0) = false := by simp; omega
      have hE := HE'.out
      rw [if_neg hz] at hE
      obtain ⟨sf, hsf, hr⟩ := Option.map_eq_some_iff.1 hE
      have HRF := Aside0.mk hr
      have HSF := Aside0.mk hsf
      have HRG : Aside0 (∀ x ∈ op, 0 ≤ x ∧ x < l0.length) := ⟨by
        rw [← hopx]
        intro x hx
        obtain ⟨e, he, rfl⟩ := List.mem_map.1 hx
        have := (List.mem_filter.1 he).1
        rw [hys] at this
        exact (edgesL_in l0 e this).1⟩
      clear hE hr hsf HE' hopx hys
      go_wp2
      clear hc5 hf5 hz2 hpos hz
      go_loopg [12] k (fun kq v12 W' => ∃ (ol s : List Int), Aside0 (bodyLoop (predsL l0) kq ol s = some sf) ∧ Aside0 (BdIn w wL W6.heap.size W5.heap.size D ol s W') ∧ Aside0 (ol.length ≤ 1000000000) ∧ Aside0 (∀ x ∈ ol, 0 ≤ x ∧ x < l0.length))
      case atStart => exact ⟨op, [a1], HSF, HST, ⟨by have := HOPL.out; omega⟩, HRG⟩
      case round =>
        obtain ⟨ol, s, HA, HI, HL, HG⟩ := hrel
        clear HRG HOPL HST HRv H5 HSF
        cases gk with
        | zero => exact absurd HA.out (by simp [bodyLoop])
        | succ k1 =>
          have hX5 : ∀ k, k < W5.heap.size → wr.heap[k]? = W5.heap[k]? := fun k hk => (HI.out.stay k (by have := HW.out; omega) (by omega)).trans ((HBL.out.block k (by have := HW.out; omega)).trans (HB57.out.block k hk))
          rcases List.eq_nil_or_concat ol with rfl | ⟨ol', a, hcc⟩
          · have hs : s = sf := by have := HA.out; simpa [bodyLoop] using this
            subst hs
            obtain ⟨v, h5, hRv⟩ := HI.out.box
            obtain ⟨hc5, hf5⟩ := cell_of_box' h5
            obtain ⟨Av, cv, rfl⟩ := Kd.R_slice hRv
            obtain ⟨wq, ewq⟩ : ∃ wq, wq = wr := ⟨_, rfl⟩
            subst ewq
            have hFar := HI.out.far
            have hMs := Aside0.mk HI.out.map
            clear h5 hRv
            go_wp2
            clear hc5 hf5
            go_loopg [13, 73] o.length (fun kq v13 v73 W' => ∃ i : Nat, v73 = .int .i64 i ∧ Aside0 (kq + i = o.length) ∧ Aside0 (Kd.R (Kd.int .i64) 3 W' wq.heap.size (fun _ => True) v13 ((o.take i).filter (fun b => s.contains b))) ∧ Aside0 (Below wq.heap.size wq W'))
            case atStart => exact ⟨0, rfl, ⟨rfl⟩, ⟨by simpa using Kd.R_nil _ _ _ _ _⟩, ⟨Below.refl _ _⟩⟩
            case round =>
              obtain ⟨i, rfl, HJ, HO, HB⟩ := hrel
              cases gk with
              | zero =>
                have hi : i = o.length := by have := HJ.out; omega
                subst hi
                rw [List.take_length] at HO
                have hl2 : (o.filter (fun b => s.contains b)).length ≤ 100000000 := Nat.le_trans (List.length_filter_le _ _) (by have := HOL.out; omega)
                go_wp2_with fail
                refine (sort_R HO.out hl2).mono ?_
                rintro e W9 ⟨rfl, hs, hg⟩
                have HB9 := Aside0.mk (HB.out.grown hg (HB.out.size) (fun k hk => Kd.R_base HO.out k hk))
                have HS9 := Aside0.mk hs
                clear hs hg
                go_wp2
                have hD9 := (HB9.out.block D (Array.getElem?_eq_some_iff.1 HI.out.defer).1).trans HI.out.defer
                have hbw := HI.out.below
                refine ⟨by simp, .inl ⟨_, _, rfl, run_takeDeferred hD9, ?_⟩⟩
                refine ⟨_, results_tmp rfl _ _ _, _, rfl, ?_, ?_⟩
                · have h2 := HS9.out
                  rw [HRF.out] at h2
                  exact Kd.R_mono (Kd.R_lower (R_nocells h2 (grownBy_putObj' _ D _) (fun r e => by cases e; exact ⟨_, hD9, rfl⟩)) hbw.size) (fun _ _ => trivial)
                · exact (hbw.trans (HB9.out.mono hbw.size)).grown (grownBy_putObj' _ D _) (by have := hbw.size; have := HB9.out.size; omega) (fun k e => by cases e; have := HW.out; have := HSL.out; omega)
              | succ k2 =>
                have hi : i < o.length := by have := HJ.out; omega
                obtain ⟨ad, eao, hc⟩ := Kd.at_int KO.out (i : Int) (by omega) (by omega)
                subst eao
                simp only [Int.toNat_natCast] at hc
                have hbl := World.block_lt_of_cell? _ _ hc
                replace hc := (World.cell?_of_block (hX5 _ hbl)).trans hc
                replace hc := (HB.out.cell (World.block_lt_of_cell? _ _ hc)).trans hc
                have hmem : rd o i ∈ o := by
                  have e : rd o i = o[i] := by simp [rd, hi]
                  rw [e]; exact List.getElem_mem _
                have hbo := HOB.out _ hmem
                have hol := HOL.out
                have hlook := (hMs.out.below HB.out).look (x := rd o i) (wf64_of (by omega) (by omega))
                have HLE := Aside0.mk (take_filter_le o (fun b => s.contains b) i)
                cases hct : s.contains (rd o i) with
                | true =>
                  rw [hct] at hlook
                  have HF := Aside0.mk (take_filter_yes o (fun b => s.contains b) i hi hct)
                  go_wp2_with (first | ((with_reducible refine gate_builtin (b := .append) (xs := #[.tmp 80, .tmp 82]) rfl ?_); at_builtin; refine Kd.R_append (Kd.int .i64) (w0 := wq) (W := wr) wq.heap.size rfl (.tmp 80) (.tmp 82) 23 3 (.int .i64 0) 8 rfl Try.underlying23 info3 rfl (by decide) (by omega) u13 ((o.take i).filter (fun b => s.contains b)) (rd o i) [.int .i64 (rd o i)] (fun _ => True) (fun _ => False) rfl rfl ?aP (fun _ hk => hk.elim) ?aF ?aO ?aB ?aS ?aL ?_; (case aP => rfl); (case aF => exact fun _ _ => trivial); (case aO => exact HO.out); (case aB => exact HB.out); (case aS => exact HB.out.size); (case aL => have := HLE.out; have := HOL.out; omega); intro v83 W8 ho hb hg hat; rw [← HF.out] at ho; have HO8 := Aside0.mk ho; have HB8 := Aside0.mk hb; clear ho hb hg hat HO HB) | fail)
                  go_roundg k2
                  case measure => omega
                  case rel => exact ⟨i + 1, by go_num, ⟨by have := HJ.out; omega⟩, HO8, HB8⟩
                | false =>
                  rw [hct] at hlook
                  have HF := Aside0.mk (take_filter_no o (fun b => s.contains b) i hi hct)
                  go_wp2
                  go_roundg k2
                  case measure => omega
                  case rel => exact ⟨i + 1, by go_num, ⟨by have := HJ.out; omega⟩, ⟨by rw [HF.out]; exact HO.out⟩, HB⟩
          · rw [List.concat_eq_append] at hcc
            subst hcc
            have H := HA.out
            simp only [bodyLoop, List.getLast?_concat, List.dropLast_concat] at H
            have hG := HG.out
            have haR := hG a (by simp)
            obtain ⟨v, h5, hRv⟩ := HI.out.box
            obtain ⟨hc5, hf5⟩ := cell_of_box' h5
            obtain ⟨Av, n, cv, rfl⟩ : ∃ A n c, v = .slice A n c := ⟨_, _, _, (Kd.R_slice hRv).choose_spec.choose_spec⟩
            have hn : n = ol'.length + 1 := by have := (Kd.R_reads' hRv).1; simpa using this
            have hl : n ≤ 1000000000 := by have := HL.out; simp at this; omega
            have hsub : wrap64 ((n : Int) - 1) = (ol'.length : Int) := by unfold wrap64; omega
            obtain ⟨ad, eav, hca⟩ := Kd.at_int (Kd.R_reads' hRv).2.2 (ol'.length : Int) (by omega) (by simp only [List.length_append, List.length_cons, List.length_nil]; omega)
            subst eav
            have hrd : rd (ol' ++ [a]) (ol'.length : Int) = a := by simp [rd]
            rw [hrd, Int.toNat_natCast] at hca
            obtain ⟨i3, hi3, _, _, _⟩ := info_parts info3
            have hcut := cut_to (P := Try.prog) 23 3 .i64 Try.underlying23 hi3 (some ad) n cv (ol'.length : Int) (by omega) (by omega) (Kd.R_reads' hRv).2.1
            simp only [Int.toNat_natCast] at hcut
            have hcv0 : ol'.length ≤ cv := by have := (Kd.R_reads' hRv).2.1; omega
            have hRp := Kd.R_take (m := ol'.length) hRv (by simp)
            rw [List.take_left' rfl] at hRp
            have HI1 := Aside0.mk (HI.out.pop (by have := HW.out; omega) (by have := HW.out; omega) hbL hD hRp)
            have hlook := HI1.out.map.look (x := a) (wf64_of (by omega) (by omega))
            clear h5 hRv hRp hG HA
            have HH := Aside0.mk H
            clear H
            cases hct : s.contains a with
            | true =>
              rw [hct] at hlook
              have HN : Aside0 (bodyLoop (predsL l0) k1 ol' s = some sf) := ⟨by have := HH.out; rwa [if_pos hct] at this⟩
              have HL' : Aside0 (ol'.length ≤ 1000000000) := ⟨by omega⟩
              have HG' : Aside0 (∀ x ∈ ol', 0 ≤ x ∧ x < l0.length) := ⟨fun x hx => HG.out x (by simp [hx])⟩
              go_wp2
              go_roundg k1
              case measure => omega
              case rel => exact ⟨ol', s, HN, HI1, HL', HG'⟩
            | false =>
              rw [hct] at hlook
              have H := HH.out
              rw [if_neg (by rw [hct]; simp)] at H
              split at H
              case isFalse => cases H
              rename_i hcond
              obtain ⟨hq0, hq1, hq2, hq3⟩ := hcond
              have HN : Aside0 (bodyLoop (predsL l0) k1 (ol' ++ (predsL l0).getD a.toNat []) (a :: s) = some sf) := ⟨H⟩
              clear H HH
              obtain ⟨W2', hrun, hM', hg'⟩ := HI1.out.map.put (x := a) true (wf64_of (by omega) (by omega)) (by unfold maxLen; omega)
              have hfn : (fun y => if y = a then true else s.contains y) = fun y => (a :: s).contains y := by
                funext y
                by_cases hy : y = a <;> simp [hy]
              rw [hfn] at hM'
              have HI2 := Aside0.mk (HI1.out.put (s' := a :: s) (by have := HW.out; omega) (by have := HW.out; omega) hbL hD hg' hM')
              clear hM' hg' hfn
              go_wp2
              clear hrun hlook hcut hcv0 hca hc5 hf5 hX5 hsub
              have hX5 : ∀ k, k < W5.heap.size → W2'.heap[k]? = W5.heap[k]? := fun k hk => (HI2.out.stay k (by have := HW.out; omega) (by omega)).trans ((HBL.out.block k (by have := HW.out; omega)).trans (HB57.out.block k hk))
              obtain ⟨v, h5, hRv⟩ := HI2.out.box
              obtain ⟨v, h5, hRv, hvv⟩ : ∃ v, W2'.heap[W6.heap.size]? = some (.cells #[v] 23 (0, 0)) ∧ (Kd.int .i64).R 3 W2' wL.heap.size (fun _ => True) v ol' ∧ True := ⟨v, h5, hRv, trivial⟩
              obtain ⟨hc5, hf5⟩ := cell_of_box' h5
              obtain ⟨Av, n', cv', rfl⟩ : ∃ A n c, v = .slice A n c := ⟨_, _, _, (Kd.R_slice hRv).choose_spec.choose_spec⟩
              obtain ⟨i, rfl⟩ := Int.eq_ofNat_of_zero_le hq0
              have hpl := predsL_length l0
              obtain ⟨adp, _, _, eap, _⟩ := at_L1 (Kd.S_reads' KP.out).2.2 (i : Int) (by omega) (by omega)
              subst eap
              obtain ⟨Ar, cr, hxr, hRow⟩ := row_own (Kd.S_mono (ok' := fun _ => True) KP.out (fun _ _ => trivial)) i (by omega)
              obtain ⟨row, hrow⟩ : ∃ row, rd_L1 (predsL l0) i = row := ⟨_, rfl⟩
              have hrow2 : (predsL l0).getD (i : Int).toNat [] = row := hrow
              rw [hrow] at hxr hRow
              rw [hrow2] at HN hq2
              have hxr2 : W2'.cell? (adp.add i) = some (.slice Ar row.length cr) := (World.cell?_of_block (hX5 _ (World.block_lt_of_cell? _ _ hxr))).trans hxr
              have hRow2 := (Kd.R_reads' (Kd.R_step (Kd.R_bound hRow) (fun k hk hlt => hX5 k hlt))).2.2
              have hRow3 := Kd.C_drew hRow2
              have HRowIn : Aside0 (∀ x ∈ row, 0 ≤ x ∧ x < l0.length) := ⟨by
                rw [← hrow2]
                intro x hx
                exact predsL_in l0 _ (getD_mem' _ _ x hx) x hx⟩
              have HRW := Aside0.mk hRow3
              have H5 := Aside0.mk h5
              have HRv := Aside0.mk hRv
              have HQ2 := Aside0.mk hq2
              clear hRow hRow2 hRow3 h5 hRv hX5 hrow hrow2 hq2 hpl
              refine start_ (n := 7) (S := fun w' => w'.cell? ⟨W6.heap.size, 0, none⟩ = some (.slice Av n' cv') ∧ w'.cell? (adp.add i) = some (.slice Ar row.length cr)) (ds := [5, 6]) #[false, false, false, false, false, false, false] (by kernel_rfl) rfl rfl ⟨hc5, hxr2⟩ (fun hHeld => ?_)
              have R1 := Aside0.mk (Kd.R_drew HRv.out)
              have D1 : Aside0 (∀ W', W2'.drew.grownBy W' (Value.slice Av n' cv').ownBlock → W2'.grownBy W' (Value.slice Av n' cv').ownBlock) := ⟨fun W7 h => ⟨h.os, h.tape, h.output, h.size, h.block⟩⟩
              have F1 : Aside0 (wL.heap.size ≤ W2'.drew.heap.size) := ⟨HI2.out.far⟩
              obtain ⟨Wd, hWd⟩ : ∃ Wd, W2'.drew = Wd := ⟨_, rfl⟩
              rw [hWd] at hHeld HRW R1 D1 F1 ⊢
              clear hWd hc5 hf5 hxr2
              refine pure_ (i := 1) (N := some 66) (v := ?_) (a' := ?_) #[false, true, false, false, false, false, false] rfl rfl (by kernel_rfl) (fun _ _ _ h => h) (Or.inl ⟨by rfl, ?_⟩) ?_ ?_
              rotate_left
              · intro w'
                go_simp
                with_reducible rfl
              rotate_left
              · simp only [Act.put, List.setIfInBounds_toArray, List.set_cons_zero, List.set_cons_succ]
                rfl
              refine pure_ (i := 2) (N := some 67) (v := ?_) (a' := ?_) #[false, true, true, false, false, false, false] rfl rfl (by kernel_rfl) (fun _ _ _ h => h) (Or.inl ⟨by rfl, ?_⟩) ?_ ?_
              rotate_left
              · intro w'
                go_simp
                with_reducible rfl
              rotate_left
              · simp only [Act.put, List.setIfInBounds_toArray, List.set_cons_zero, List.set_cons_succ]
                rfl
              refine pure_ (i := 3) (N := some 68) (v := ?_) (a' := ?_) #[false, true, true, true, false, false, false] rfl rfl (by kernel_rfl) (fun _ _ _ h => h) (Or.inl ⟨by rfl, ?_⟩) ?_ ?_
              rotate_left
              · intro w'
                go_simp
                with_reducible rfl
              rotate_left
              · simp only [Act.put, List.setIfInBounds_toArray, List.set_cons_zero, List.set_cons_succ]
                rfl
              refine take_ (i := 0) (N := some 65) (v := ?_) (a' := ?_) #[true, true, true, true, false, false, false] rfl rfl (by kernel_rfl) (fun _ _ _ h => h) (Or.inl ⟨by rfl, ?_⟩) (by assumption) ?_ ?_
              rotate_left
              · rintro w' ⟨s0, s1⟩
                go_simp
                with_reducible rfl
              rotate_left
              · simp only [Act.put, List.setIfInBounds_toArray, List.set_cons_zero, List.set_cons_succ]
                rfl
              refine take_ (i := 4) (N := some 69) (v := ?_) (a' := ?_) #[true, true, true, true, true, false, false] rfl rfl (by kernel_rfl) (fun _ _ _ h => h) (Or.inl ⟨by rfl, ?_⟩) (by assumption) ?_ ?_
              rotate_left
              · rintro w' ⟨s0, s1⟩
                go_simp
                with_reducible rfl
              rotate_left
              · simp only [Act.put, List.setIfInBounds_toArray, List.set_cons_zero, List.set_cons_succ]
                rfl
              refine last_ (i := 5) (N := some 70) #[true, true, true, true, true, true, false] rfl rfl (by kernel_rfl) (by decide) (fun K hK => ?_)
              refine Kd.R_append_rows_step (Kd.int .i64) (Rr := (Kd.int .i64).K Wd) (w0 := Wd) (W := Wd) wL.heap.size (by rfl) (.tmp 65) (.tmp 69) 23 3 (.int .i64 0) 8 rfl Try.underlying23 info3 rfl (by decide) (by omega) (.slice Av n' cv') ol' row Ar row.length cr (fun _ => True) (fun _ => False) rfl rfl ?aO ?aR ?aK (fun _ hk => hk.elim) (fun _ _ => trivial) (Below.refl _ _) F1.out ?aL ?_
              case aO => exact R1.out
              case aR => exact HRW.out
              case aK => exact fun _ _ h => h
              case aL => have := HQ2.out; simp only [List.length_append] at this; omega
              intro v70 W8 hR8 hb8 hg8 hat8
              obtain ⟨A70, n70, c70, rfl⟩ : ∃ A n c, v70 = .slice A n c := ⟨_, _, _, (Kd.R_slice hR8).choose_spec.choose_spec⟩
              have hgr := HI2.out.grow (by have := HW.out; omega) hbL (by have := HW.out; omega) H5.out HRv.out (D1.out _ hg8)
              obtain ⟨hc58, hf58⟩ := cell_of_box' hgr.1
              have HI3 := Aside0.mk (HI2.out.app (by have := HW.out; omega) (by have := HW.out; omega) hbL hD H5.out HRv.out (D1.out _ hg8) hR8)
              clear hR8 hb8 hg8 hat8 hgr
              refine hK.out _ _ ?_
              clear hK K
              refine norm_ (a' := ?_) ?_ ?_
              rotate_left
              · show Act.put _ (some 70) _ = _
                simp only [Act.put, List.setIfInBounds_toArray, List.set_cons_zero, List.set_cons_succ]
                rfl
              refine last_ (i := 6) (N := none) #[true, true, true, true, true, true, true] rfl rfl (by kernel_rfl) (by decide) (fun K hK => ?_)
              refine skip_ (w1 := W8.setCell ⟨W6.heap.size, 0, none⟩ (.slice A70 n70 c70)) (by rfl) rfl ?_ ?_
              · go_simp
              · refine hK.out _ _ ?_
                refine done_ (by kernel_rfl) ?_
                clear hK K
                go_wp2
                go_roundg k1
                case measure => omega
                case rel => exact ⟨ol' ++ row, (i : Int) :: s, HN, HI3, HQ2, ⟨fun x hx => by
                  rcases List.mem_append.1 hx with hx | hx
                  · exact HG.out x (by simp [hx])
                  · exact HRowIn.out x hx⟩⟩
  case stop =>
    rintro D c pre W _ _ h _
    exact h.elim
end Go.Proofs.Ytnmeomdjhjgnfaa.X
end
section
set_option linter.unusedSimpArgs false
namespace Go.Proofs.Ytnmeomdjhjgnfaa.X
open Go.RowKit Go.Proofs.YtnmeomdjhjgnfaaW.PrintWords Go.Proofs.YtnmeomdjhjgnfaaW.PrintLast Go.Proofs.YtnmeomdjhjgnfaaW.PrintMore
set_option linter.unusedVariables false

theorem eq3 (d : Nat) (w : World) (a c : Int) : (Op.equalIn (d + 1) 3 (.int .i64 a) (.int .i64 c)).run Try.prog w = .ok (a == c) w := by
  have h3 : Try.prog.underlying 3 = some (.int .i64) := by kernel_rfl
  simp [Op.equalIn, run_underlying h3]
theorem part73a (w : World) (a b : Int) : (part 3 #[.int .i64 a, .int .i64 b] 0).run Try.prog w = .ok (.int .i64 a) w := by kernel_rfl
theorem part73b (w : World) (a b : Int) : (part 3 #[.int .i64 a, .int .i64 b] 1).run Try.prog w = .ok (.int .i64 b) w := by kernel_rfl
theorem size3 (w : World) : (sizeOf 3).run Try.prog w = .ok 1 w := by kernel_rfl
theorem eq73 (d : Nat) (w : World) (a b c e : Int) : (Op.equalIn (d + 2) 73 (.agg #[.int .i64 a, .int .i64 b]) (.agg #[.int .i64 c, .int .i64 e])).run Try.prog w = .ok (a == c && b == e) w := by
  have h73 : Try.prog.underlying 73 = some (.array 2 3) := by kernel_rfl
  rw [Op.equalIn]
  simp only [Sem.run_bind, run_underlying h73, Result.andThen_ok, size3]
  simp only [Std.Legacy.Range.forIn_eq_forIn_range', Std.Legacy.Range.size]
  by_cases h1 : a = c <;> by_cases h2 : b = e <;> simp [List.range'_succ, part73a, part73b, eq3, h1, h2]
theorem neq73 (w : World) (a b c e : Int) : (binOp .neq 73 (.agg #[.int .i64 a, .int .i64 b]) (.agg #[.int .i64 c, .int .i64 e])).run Try.prog w = .ok (.bool (!(a == c && b == e))) w := by
  simp only [binOp]
  simp [Op.equal, Op.maxDepth, eq73 9998 w a b c e]

def pr (s : S73) : Int × Int := (s.f0, s.f1)
theorem pairs_at (l0 l1 : List S73) (hl : l0.length = l1.length) : (l0.map pr = l1.map pr) ↔ ∀ i : Nat, i < l0.length → (rd_T73 l0 i).f0 = (rd_T73 l1 i).f0 ∧ (rd_T73 l0 i).f1 = (rd_T73 l1 i).f1 := by
  constructor
  · intro h i hi
    have := congrArg (fun l => l[i]?) h
    have hi1 : i < l1.length := hl ▸ hi
    simp only [List.getElem?_map, List.getElem?_eq_getElem hi, List.getElem?_eq_getElem hi1, Option.map_some, pr, Option.some.injEq, Prod.mk.injEq] at this
    simpa [rd_T73, List.getD_eq_getElem?_getD, hi, hi1] using this
  · intro h
    refine List.ext_getElem (by simpa using hl) ?_
    intro i h0 h1
    simp only [List.length_map] at h0 h1
    have := h i h0
    simp [rd_T73, List.getD_eq_getElem?_getD, h0, h1] at this
    simp [pr, this.1, this.2]
set_option maxHeartbeats 4000000 in
set_option maxRecDepth 100000 in
theorem jacquardref02_Pairs.calls (A0 : Option Addr) (c0 : Nat) (l0 : List S73) (A1 : Option Addr) (c1 : Nat) (l1 : List S73) (r : Bool) (w : World) (hr0 : Kd.C k73 w A0 l0.length l0) (hc0 : l0.length ≤ c0) (hr1 : Kd.C k73 w A1 l1.length l1) (hc1 : l1.length ≤ c1) (h : jacquardref02_Pairs.f l0 l1 = some r) :
    Calls Try.prog 61 #[.slice A0 l0.length c0, .slice A1 l1.length c1] w fun e w' => e = .returned (.bool r) ∧ Drawn0 w w' := by
  have HR0 := Aside0.mk hr0
  have HR1 := Aside0.mk hr1
  have HF : Aside0 (r = decide (l0.map pr = l1.map pr)) := ⟨by unfold jacquardref02_Pairs.f at h; exact (Option.some.inj h).symm⟩
  have hm0 : l0.length ≤ 9223372036854775807 := Kd.C_max hr0
  clear hr0 hr1 h hc0 hc1
  have hu73 := Try.underlying73
  have hneq := fun w a b c e => neq73 w a b c e
  by_cases hl : l0.length = l1.length
  · have HL := Aside0.mk hl
    clear hl
    have e1 : ((l0.length : Int) == (l1.length : Int)) = true := by rw [HL.out]; simp
    have e2 : ((l0.length : Int) != (l1.length : Int)) = false := by rw [HL.out]; simp
    go_enter Try.func61, Try.ntmps61
    go_wp2
    go_loopg [5] (l0.length) (fun kq v5 w' => ∃ i : Nat, v5 = .int .i64 i ∧ Aside0 (kq + i = l0.length) ∧ Aside0 (∀ j : Nat, j < i → (rd_T73 l0 j).f0 = (rd_T73 l1 j).f0 ∧ (rd_T73 l0 j).f1 = (rd_T73 l1 j).f1) ∧ Aside0 (Drawn0 w w'))
    case atStart => exact ⟨0, rfl, ⟨rfl⟩, ⟨fun j hj => by omega⟩, ⟨Drawn0.refl w⟩⟩
    case round =>
      obtain ⟨i, rfl, HI, HA, HD⟩ := hrel
      clear e1 e2
      cases gk with
      | zero =>
        have hi : i = l0.length := by have := HI.out; omega
        subst hi
        have HR : Aside0 (r = true) := ⟨by rw [HF.out]; exact decide_eq_true ((pairs_at l0 l1 HL.out).2 HA.out)⟩
        go_wp2
        go_ret
        exact ⟨by rw [HR.out]; rfl, HD.out⟩
      | succ k1 =>
        have hi : i < l0.length := by have := HI.out; omega
        obtain ⟨ad, rfl, h00, h01⟩ := at_T73 HR0.out (i : Int) (by omega) (by omega)
        obtain ⟨ae, rfl, h10, h11⟩ := at_T73 HR1.out (i : Int) (by omega) (by have := HL.out; omega)
        replace h00 := (HD.out.below.cell (World.block_lt_of_cell? w _ h00)).trans h00
        replace h01 := (HD.out.below.cell (World.block_lt_of_cell? w _ h01)).trans h01
        replace h10 := (HD.out.below.cell (World.block_lt_of_cell? w _ h10)).trans h10
        replace h11 := (HD.out.below.cell (World.block_lt_of_cell? w _ h11)).trans h11
        have hi1 : i < l1.length := by have := HL.out; omega
        simp only [Int.toNat_natCast] at h00 h01 h10 h11
        by_cases q0 : (rd_T73 l0 i).f0 = (rd_T73 l1 i).f0
        · by_cases q1 : (rd_T73 l0 i).f1 = (rd_T73 l1 i).f1
          · have b0 : ((rd_T73 l0 i).f0 == (rd_T73 l1 i).f0) = true := by simpa using q0
            have b1 : ((rd_T73 l0 i).f1 == (rd_T73 l1 i).f1) = true := by simpa using q1
            have HA2 : Aside0 (∀ j : Nat, j < i + 1 → (rd_T73 l0 j).f0 = (rd_T73 l1 j).f0 ∧ (rd_T73 l0 j).f1 = (rd_T73 l1 j).f1) := ⟨fun j hj => by
              by_cases hji : j = i
              · rw [hji]; exact ⟨q0, q1⟩
              · exact HA.out j (by omega)⟩
            clear q0 q1 HA
            go_wp2
            go_quiet (fail)
            go_wp2
            go_roundg k1
            case measure => omega
            case rel => exact ⟨i + 1, by go_num, ⟨by have := HI.out; omega⟩, HA2, ⟨HD.out.step _⟩⟩
          · have HR : Aside0 (r = false) := ⟨by rw [HF.out]; exact decide_eq_false (fun e => q1 ((pairs_at l0 l1 HL.out).1 e i hi).2)⟩
            have b1 : ((rd_T73 l0 i).f1 == (rd_T73 l1 i).f1) = false := by simpa using q1
            have b0 : ((rd_T73 l0 i).f0 == (rd_T73 l1 i).f0) = true := by simpa using q0
            clear q0 q1
            go_wp2
            go_quiet (fail)
            go_wp2
            go_ret
            exact ⟨by rw [HR.out]; rfl, HD.out.step _⟩
        · have HR : Aside0 (r = false) := ⟨by rw [HF.out]; exact decide_eq_false (fun e => q0 ((pairs_at l0 l1 HL.out).1 e i hi).1)⟩
          have b0 : ((rd_T73 l0 i).f0 == (rd_T73 l1 i).f0) = false := by simpa using q0
          clear q0
          go_wp2
          go_quiet (fail)
          go_wp2
          go_ret
          exact ⟨by rw [HR.out]; rfl, HD.out.step _⟩
  · have HR : Aside0 (r = false) := ⟨by rw [HF.out]; exact decide_eq_false (fun e => hl (by simpa using congrArg List.length e))⟩
    have e1 : ((l0.length : Int) == (l1.length : Int)) = false := by simpa using (fun e => hl (by omega) : ¬ (l0.length : Int) = l1.length)
    have e2 : ((l0.length : Int) != (l1.length : Int)) = true := by simpa using (fun e => hl (by omega) : ¬ (l0.length : Int) = l1.length)
    go_enter Try.func61, Try.ntmps61
    go_wp2
    go_ret
    exact ⟨by rw [HR.out]; rfl, Drawn0.refl w⟩
end Go.Proofs.Ytnmeomdjhjgnfaa.X
end
section
-- written by a driver of this session (wip/xprint.py) over the kit's print, for this claim; Lean checks it
namespace Go.Proofs.Ytnmeomdjhjgnfaa.X
open Go.RowKit Go.Proofs.YtnmeomdjhjgnfaaW.PrintWords Go.Proofs.YtnmeomdjhjgnfaaW.PrintLast Go.Proofs.YtnmeomdjhjgnfaaW.PrintMore
attribute [local go_sem] max2_int min2_int max_two min_two max_three min_three max_four min_four   -- for this text's walks alone
set_option linter.unusedVariables false
set_option linter.unusedSimpArgs false

/-! ### jacquardref02_Nums: function 60 -/
def jacquardref02_Nums.l0 : Nat → List Int → List Int → Int → Option (Bool)
  | 0, _, _, _ => none
  | k + 1, x0, x1, x5 => if x5 < (x0.length : Int) then (if 0 ≤ x5 then (if x5 < (x1.length : Int) then (if (rd x0 x5) = (rd x1 x5) then (jacquardref02_Nums.l0 k x0 x1 (wrap64 (x5 + 1))) else (some false)) else (none)) else (none)) else (some true)
def jacquardref02_Nums.f (k : Nat) (l0 : List Int) (l1 : List Int) : Option (Bool) := if (l0.length : Int) = (l1.length : Int) then (jacquardref02_Nums.l0 k l0 l1 0) else (some false)
theorem jacquardref02_Nums.mono_l : ∀ k, (∀ y0 y1 y2, LeO (jacquardref02_Nums.l0 k y0 y1 y2) (jacquardref02_Nums.l0 (k + 1) y0 y1 y2))
  | 0 => fun _ _ _ r h => by simp [jacquardref02_Nums.l0] at h
  | k + 1 => by
    have ih0 := jacquardref02_Nums.mono_l k
    · intro y0 y1 y2
      unfold jacquardref02_Nums.l0
      repeat' first | (with_reducible exact LeO.refl _) | (with_reducible refine LeO.ite ?_ ?_) | (with_reducible refine LeO.bind ?_ (fun _ => ?_)) | exact LeO.none _ | exact ih0 _ _ _ | refine LeO.ite ?_ ?_ | refine LeO.bind ?_ (fun _ => ?_)
theorem jacquardref02_Nums.mono : ∀ a0 a1 k, LeO (jacquardref02_Nums.f k a0 a1) (jacquardref02_Nums.f (k + 1) a0 a1) := by
  intro a0 a1 k
  have ih0 := jacquardref02_Nums.mono_l k
  unfold jacquardref02_Nums.f
  repeat' first | (with_reducible exact LeO.refl _) | (with_reducible refine LeO.ite ?_ ?_) | (with_reducible refine LeO.bind ?_ (fun _ => ?_)) | exact LeO.none _ | exact ih0 _ _ _ | refine LeO.ite ?_ ?_ | refine LeO.bind ?_ (fun _ => ?_)
set_option maxHeartbeats 8000000 in
set_option maxRecDepth 100000 in
theorem jacquardref02_Nums.calls (k : Nat) (A0 : Option Addr) (c0 : Nat) (l0 : List Int) (A1 : Option Addr) (c1 : Nat) (l1 : List Int) (r : Bool) (w : World) (hr0 : Kd.C (Kd.int .i64) w A0 l0.length l0) (hc0 : l0.length ≤ c0) (hr1 : Kd.C (Kd.int .i64) w A1 l1.length l1) (hc1 : l1.length ≤ c1) (h : jacquardref02_Nums.f k l0 l1 = some r) :
    Calls Try.prog 60 #[.slice A0 l0.length c0, .slice A1 l1.length c1] w fun e w' => e = .returned (.bool r) ∧ Drawn0 w w' := by
  have HR0 := Aside0.mk hr0
  have HC0 := Aside0.mk hc0
  clear hr0 hc0
  have HR1 := Aside0.mk hr1
  have HC1 := Aside0.mk hc1
  clear hr1 hc1
  have H : (if (l0.length : Int) = (l1.length : Int) then (jacquardref02_Nums.l0 k l0 l1 0) else (some false)) = some r := h
  clear h
  by_cases c3 : (l0.length : Int) = (l1.length : Int)
  · rw [if_pos c3] at H
    have c3b0 : ((l0.length : Int) == (l1.length : Int)) = true := beq_iff_eq.mpr c3
    have c3b1 : ((l0.length : Int) != (l1.length : Int)) = false := bne_eq_false_iff_eq.mpr c3
    have c3b2 : (l0.length == l1.length) = true := by first | simpa using c3 | (simp at c3 ⊢; omega)
    clear c3
    have H' := Aside0.mk H
    clear H
    go_enter Try.func60, Try.ntmps60
    go_wp2
    repeat (go_quiet (fail); try go_wp2)
    go_loopg [5] k (fun kq v5 w' => ∃ (x5_1 : Int), v5 = .int .i64 x5_1 ∧ Aside0 (jacquardref02_Nums.l0 kq l0 l1 x5_1 = some r) ∧ Aside0 (kq ≤ k) ∧ Drawn0 w w')
    case atStart => exact ⟨(0), (by first | rfl | (simp; done) | (simp [*]; done)), H', ⟨Nat.le_refl _⟩, by repeat (first | exact Drawn0.refl _ | apply Drawn0.step)⟩
    case round =>
      clear H'; (try clear c1); (try clear p2); (try clear c3); (try clear c3b0); (try clear c3b1); (try clear c3b2)
      obtain ⟨x5_1, rfl, HA, HK1, ⟨m1, rfl⟩⟩ := hrel
      cases gk with
      | zero => exact absurd HA.out (by simp [jacquardref02_Nums.l0])
      | succ k1 =>
        have H := HA.out
        clear HA
        simp only [jacquardref02_Nums.l0] at H
        by_cases c4 : x5_1 < (l0.length : Int)
        · rw [if_pos c4] at H
          have c4b0 : decide (x5_1 < (l0.length : Int)) = true := decide_eq_true c4
          clear c4
          by_cases c5 : 0 ≤ x5_1
          · rw [if_pos c5] at H
            have c5b0 : decide (0 ≤ x5_1) = true := decide_eq_true c5
            clear c5
            by_cases c6 : x5_1 < (l1.length : Int)
            · rw [if_pos c6] at H
              have c6b0 : decide (x5_1 < (l1.length : Int)) = true := decide_eq_true c6
              clear c6
              by_cases c7 : (rd l0 x5_1) = (rd l1 x5_1)
              · rw [if_pos c7] at H
                have c7b0 : ((rd l0 x5_1) == (rd l1 x5_1)) = true := beq_iff_eq.mpr c7
                have c7b1 : ((rd l0 x5_1) != (rd l1 x5_1)) = false := bne_eq_false_iff_eq.mpr c7
                clear c7
                have H' := Aside0.mk H
                clear H
                have p137 : 0 ≤ (x5_1 : Int) := of_decide_eq_true (by first | (with_reducible assumption) | assumption)
                have q137 : x5_1 < (l0.length : Int) := of_decide_eq_true (by first | (with_reducible assumption) | assumption)
                obtain ⟨ad137, e137, hx137_0⟩ := Kd.at_int HR0.out x5_1 p137 q137
                cases e137
                replace p137 := eq_true p137
                replace q137 := eq_true q137
                have p138 : 0 ≤ (x5_1 : Int) := of_decide_eq_true (by first | (with_reducible assumption) | assumption)
                have q138 : x5_1 < (l1.length : Int) := of_decide_eq_true (by first | (with_reducible assumption) | assumption)
                obtain ⟨ad138, e138, hx138_0⟩ := Kd.at_int HR1.out x5_1 p138 q138
                cases e138
                replace p138 := eq_true p138
                replace q138 := eq_true q138
                go_wp2
                repeat (go_quiet (fail); try go_wp2)
                go_roundg k1
                case measure => have := HK1.out; omega
                case rel => exact ⟨(wrap64 (x5_1 + 1)), (by first | rfl | (simp; done) | (simp [*]; done)), H', ⟨by have := HK1.out; omega⟩, by repeat (first | exact Drawn0.refl _ | apply Drawn0.step)⟩
              · rw [if_neg c7] at H
                have c7b0 : ((rd l0 x5_1) == (rd l1 x5_1)) = false := beq_eq_false_iff_ne.mpr c7
                have c7b1 : ((rd l0 x5_1) != (rd l1 x5_1)) = true := bne_iff_ne.mpr c7
                obtain rfl := Option.some.inj H
                have p137 : 0 ≤ (x5_1 : Int) := of_decide_eq_true (by first | (with_reducible assumption) | assumption)
                have q137 : x5_1 < (l0.length : Int) := of_decide_eq_true (by first | (with_reducible assumption) | assumption)
                obtain ⟨ad137, e137, hx137_0⟩ := Kd.at_int HR0.out x5_1 p137 q137
                cases e137
                replace p137 := eq_true p137
                replace q137 := eq_true q137
                have p138 : 0 ≤ (x5_1 : Int) := of_decide_eq_true (by first | (with_reducible assumption) | assumption)
                have q138 : x5_1 < (l1.length : Int) := of_decide_eq_true (by first | (with_reducible assumption) | assumption)
                obtain ⟨ad138, e138, hx138_0⟩ := Kd.at_int HR1.out x5_1 p138 q138
                cases e138
                replace p138 := eq_true p138
                replace q138 := eq_true q138
                go_wp2
                repeat (go_quiet (fail); try go_wp2)
                go_ret
                exact ⟨by first | rfl | (simp; done) | (simp [*]; done), by repeat (first | exact Drawn0.refl _ | apply Drawn0.step)⟩
            · rw [if_neg c6] at H
              exact absurd H (by simp)
          · rw [if_neg c5] at H
            exact absurd H (by simp)
        · rw [if_neg c4] at H
          have c4b0 : decide (x5_1 < (l0.length : Int)) = false := decide_eq_false c4
          clear c4
          obtain rfl := Option.some.inj H
          go_wp2
          repeat (go_quiet (fail); try go_wp2)
          go_ret
          exact ⟨by first | rfl | (simp; done) | (simp [*]; done), by repeat (first | exact Drawn0.refl _ | apply Drawn0.step)⟩
  · rw [if_neg c3] at H
    have c3b0 : ((l0.length : Int) == (l1.length : Int)) = false := beq_eq_false_iff_ne.mpr c3
    have c3b1 : ((l0.length : Int) != (l1.length : Int)) = true := bne_iff_ne.mpr c3
    have c3b2 : (l0.length == l1.length) = false := by first | simpa using c3 | (simp at c3 ⊢; omega)
    obtain rfl := Option.some.inj H
    go_enter Try.func60, Try.ntmps60
    go_wp2
    repeat (go_quiet (fail); try go_wp2)
    go_ret
    exact ⟨by first | rfl | (simp; done) | (simp [*]; done), by repeat (first | exact Drawn0.refl _ | apply Drawn0.step)⟩

end Go.Proofs.Ytnmeomdjhjgnfaa.X
end
section
set_option linter.unusedSimpArgs false
namespace Go.Proofs.Ytnmeomdjhjgnfaa.X
open Go.RowKit Go.Shelf Go.Proofs.YtnmeomdjhjgnfaaW.PrintWords Go.Proofs.YtnmeomdjhjgnfaaW.PrintLast Go.Proofs.YtnmeomdjhjgnfaaW.PrintMore
set_option linter.unusedVariables false
set_option maxRecDepth 100000

def gA : List (List Int) := [[1,2],[3],[3],[1]]
def gB : List (List Int) := [[1],[2,3],[1],[]]
def gC : List (List Int) := [[1,2],[2],[]]
theorem aw1 : graph_Order.f 100 gA = some [0,2,1,3] := by kernel_rfl
theorem aw2 : graph_Idom.f 100 gA = some [-1,0,0,0] := by kernel_rfl
theorem aw3 : graph_Body.f 100 gB 1 = some [1,2] := by kernel_rfl
theorem aw4 : graph_Critical.f gC = some [⟨0,2⟩] := by kernel_rfl
theorem aw5 : graph_Reducible.f 100 gA = some false := by kernel_rfl
theorem aw6 : graph_Reducible.f 100 gB = some true := by kernel_rfl
theorem aw7 : graph_Headers.f 100 gA = some [] := by kernel_rfl
theorem aw8 : jacquardref02_Nums.f 100 [0,2,1,3] [0,2,1,3] = some true := by kernel_rfl
theorem aw9 : jacquardref02_Nums.f 100 [-1,0,0,0] [-1,0,0,0] = some true := by kernel_rfl
theorem aw10 : jacquardref02_Nums.f 100 [1,2] [1,2] = some true := by kernel_rfl
theorem aw11 : jacquardref02_Pairs.f [⟨0,2⟩] [⟨0,2⟩] = some true := by kernel_rfl

theorem C_ints {W : World} {b : Nat} {zs : List Int} (h : W.heap[b]? = some (.cells (zs.map (Value.int .i64)).toArray 3 (0, 0))) (hl : zs.length ≤ 9223372036854775807) : Kd.C (Kd.int .i64) W (some ⟨b, 0, none⟩) zs.length zs := by
  refine ⟨rfl, hl, fun _ => ⟨_, rfl, fun j p hp => ⟨[.int .i64 p], rfl, rfl, fun i u hu => ?_⟩⟩⟩
  have hi : i = 0 := by
    rcases Nat.eq_zero_or_pos i with h | h
    · exact h
    · rw [List.getElem?_eq_none (by simp; omega)] at hu; cases hu
  subst hi
  simp at hu
  subst hu
  rw [add_at]
  simp [World.cell?, h]
  rw [show j * (Kd.int .i64).sz = j from Nat.mul_one j]
  exact hp
theorem C_rows {W : World} {b : Nat} {rows : List (List Int)} {vs : List Value} (h : W.heap[b]? = some (.cells vs.toArray 23 (0, 0))) (hl : rows.length ≤ 9223372036854775807)
    (hv : ∀ (i : Nat) (row : List Int), rows[i]? = some row → ∃ A c, vs[i]? = some (Value.slice A row.length c) ∧ row.length ≤ c ∧ Kd.C (Kd.int .i64) W A row.length row) : Kd.C (Kd.slice 3 (Kd.int .i64)) W (some ⟨b, 0, none⟩) rows.length rows := by
  refine ⟨rfl, hl, fun _ => ⟨_, rfl, fun j p hp => ?_⟩⟩
  obtain ⟨A, c, hv, hc, hC⟩ := hv j p hp
  refine ⟨[.slice A p.length c], rfl, ⟨A, c, rfl, hc, hC⟩, fun i u hu => ?_⟩
  have hi : i = 0 := by
    rcases Nat.eq_zero_or_pos i with h | h
    · exact h
    · rw [List.getElem?_eq_none (by simp; omega)] at hu; cases hu
  subst hi
  simp at hu
  subst hu
  rw [add_at]
  simp [World.cell?, h]
  rw [show j * (Kd.slice 3 (Kd.int .i64)).sz = j from Nat.mul_one j]
  exact hv
theorem alloc_at (os : List Obj) : ∀ (w : World) (i : Nat), i < os.length → (os.foldl World.alloc w).heap[w.heap.size + i]? = os[i]? := by
  induction os with
  | nil => intro w i h; simp at h
  | cons o os ih =>
    intro w i h
    cases i with
    | zero =>
      have : ∀ (os : List Obj) (w : World) (k : Nat), k < w.heap.size → (os.foldl World.alloc w).heap[k]? = w.heap[k]? := by
        intro os
        induction os with
        | nil => intro w k _; rfl
        | cons o os ih => intro w k hk; rw [List.foldl_cons, ih _ _ (by simp; omega)]; exact (below_alloc (Below.refl _ w) o : Below w.heap.size w _).block k hk
      rw [List.foldl_cons, Nat.add_zero, this _ _ _ (by simp)]
      exact World.alloc_heap_new w o
    | succ i =>
      have := ih (w.alloc o) i (by simpa using h)
      rw [List.foldl_cons, List.getElem?_cons_succ, ← this]
      congr 1
      simp; omega
def iv (zs : List Int) : Obj := .cells (zs.map (Value.int .i64)).toArray 3 (0, 0)
def sl (b n : Nat) : Value := .slice (some ⟨b, 0, none⟩) n n
set_option maxHeartbeats 4000000 in
theorem jacquardlaw02_awake.calls (r : Bool) (w : World) (h : jacquardlaw02_awake.f = some r) :
    Calls Try.prog 22 #[] w fun e w' => e = .returned (.bool r) ∧ Below w.heap.size w w' := by
  obtain rfl : r = true := by unfold jacquardlaw02_awake.f at h; injection h with h; exact h.symm
  clear h
  go_enter Try.func22, Try.ntmps22
  go_wp2_with fail
  obtain ⟨W1, hW1⟩ : ∃ W1, ([iv [1,2], iv [3], iv [3], iv [1], .cells #[sl w.heap.size 2, sl (w.heap.size + 1) 1, sl (w.heap.size + 2) 1, sl (w.heap.size + 3) 1] 23, iv [1], iv [2,3], iv [1], iv [], .cells #[sl (w.heap.size + 5) 1, sl (w.heap.size + 6) 2, sl (w.heap.size + 7) 1, sl (w.heap.size + 8) 0] 23] : List Obj).foldl World.alloc w = W1 := ⟨_, rfl⟩
  have hA : ∀ i o, ([iv [1,2], iv [3], iv [3], iv [1], .cells #[sl w.heap.size 2, sl (w.heap.size + 1) 1, sl (w.heap.size + 2) 1, sl (w.heap.size + 3) 1] 23, iv [1], iv [2,3], iv [1], iv [], .cells #[sl (w.heap.size + 5) 1, sl (w.heap.size + 6) 2, sl (w.heap.size + 7) 1, sl (w.heap.size + 8) 0] 23] : List Obj)[i]? = some o → W1.heap[w.heap.size + i]? = some o := by
    intro i o h
    rw [← hW1, alloc_at _ _ _ (List.getElem?_eq_some_iff.1 h).1]
    exact h
  have hBW : Below w.heap.size w W1 := by
    rw [← hW1]
    exact below_alloc (below_alloc (below_alloc (below_alloc (below_alloc (below_alloc (below_alloc (below_alloc (below_alloc (below_alloc (Below.refl _ _) _) _) _) _) _) _) _) _) _) _
  have hCA : Kd.C (Kd.slice 3 (Kd.int .i64)) W1 (some ⟨w.heap.size + 4, 0, none⟩) gA.length gA := C_rows (hA 4 _ rfl) (by decide) (by
    intro i row hi
    match i, hi with
    | 0, hi => cases hi; exact ⟨_, _, rfl, Nat.le_refl _, C_ints (hA 0 _ rfl) (by decide)⟩
    | 1, hi => cases hi; exact ⟨_, _, rfl, Nat.le_refl _, C_ints (hA 1 _ rfl) (by decide)⟩
    | 2, hi => cases hi; exact ⟨_, _, rfl, Nat.le_refl _, C_ints (hA 2 _ rfl) (by decide)⟩
    | 3, hi => cases hi; exact ⟨_, _, rfl, Nat.le_refl _, C_ints (hA 3 _ rfl) (by decide)⟩
    | i + 4, hi => cases hi)
  have hCB : Kd.C (Kd.slice 3 (Kd.int .i64)) W1 (some ⟨w.heap.size + 9, 0, none⟩) gB.length gB := C_rows (hA 9 _ rfl) (by decide) (by
    intro i row hi
    match i, hi with
    | 0, hi => cases hi; exact ⟨_, _, rfl, Nat.le_refl _, C_ints (hA 5 _ rfl) (by decide)⟩
    | 1, hi => cases hi; exact ⟨_, _, rfl, Nat.le_refl _, C_ints (hA 6 _ rfl) (by decide)⟩
    | 2, hi => cases hi; exact ⟨_, _, rfl, Nat.le_refl _, C_ints (hA 7 _ rfl) (by decide)⟩
    | 3, hi => cases hi; exact ⟨_, _, rfl, Nat.le_refl _, C_ints (hA 8 _ rfl) (by decide)⟩
    | i + 4, hi => cases hi)
  have HCA := Aside0.mk hCA
  have HCB := Aside0.mk hCB
  have HBW := Aside0.mk hBW
  refine Calls.mono (show Calls Try.prog 26 #[.slice (some ⟨w.heap.size + 4, 0, none⟩) 4 4] _ _ from by have := graph_Order.calls 100 (some ⟨w.heap.size + 4, 0, none⟩) 4 gA _ W1 HCA.out (by decide) aw1; rw [← hW1] at this; exact this) ?_
  clear hCA hCB hBW hA
  rintro e W2 ⟨v, rfl, hR, hB⟩
  rw [hW1] at hB
  clear hW1
  obtain ⟨A, c, rfl⟩ := Kd.R_slice hR
  have H2 := Aside0.mk (And.intro (Kd.R_reads' hR).2.1 (Kd.R_reads' hR).2.2)
  have HB2 := Aside0.mk hB
  clear hR hB
  go_wp2_with fail
  have hA2 : (W2.alloc (iv [0,2,1,3])).heap[W2.heap.size]? = some (iv [0,2,1,3]) := World.alloc_heap_new _ _
  refine Calls.mono (jacquardref02_Nums.calls 100 A c [0,2,1,3] (some ⟨W2.heap.size, 0, none⟩) 4 [0,2,1,3] true (W2.alloc (iv [0,2,1,3])) (Kd.C_alloc H2.out.2 _) H2.out.1 (C_ints hA2 (by decide)) (by decide) aw8) ?_
  rintro e W3 ⟨rfl, hD⟩
  have HB3 := Aside0.mk ((below_alloc HB2.out (iv [0,2,1,3])).trans (hD.below.mono (by have := HB2.out.size; simp; omega)))
  clear hD hA2 H2 HB2
  go_wp2_with fail
  refine Calls.mono (graph_Idom.calls 100 (some ⟨w.heap.size + 4, 0, none⟩) 4 gA _ W3 (Kd.C_below HCA.out HB3.out) (by decide) aw2) ?_
  rintro e W4 ⟨v, rfl, hR, hB⟩
  obtain ⟨A, c, rfl⟩ := Kd.R_slice hR
  have H4 := Aside0.mk (And.intro (Kd.R_reads' hR).2.1 (Kd.R_reads' hR).2.2)
  have HB4 := Aside0.mk (HB3.out.trans (hB.mono HB3.out.size))
  clear hR hB
  go_wp2_with fail
  have hA4 : (W4.alloc (iv [-1,0,0,0])).heap[W4.heap.size]? = some (iv [-1,0,0,0]) := World.alloc_heap_new _ _
  refine Calls.mono (jacquardref02_Nums.calls 100 A c [-1,0,0,0] (some ⟨W4.heap.size, 0, none⟩) _ [-1,0,0,0] true (W4.alloc (iv [-1,0,0,0])) (Kd.C_alloc H4.out.2 _) H4.out.1 (C_ints hA4 (by decide)) (by decide) aw9) ?_
  rintro e W5 ⟨rfl, hD⟩
  have HB5 := Aside0.mk ((below_alloc HB4.out (iv [-1,0,0,0])).trans (hD.below.mono (by have := HB4.out.size; simp; omega)))
  clear hD hA4 H4 HB4 HB3
  go_wp2_with fail
  refine Calls.mono (graph_Body.calls 100 (some ⟨w.heap.size + 9, 0, none⟩) 4 gB 1 _ W5 (Kd.C_below HCB.out HB5.out) (by decide) aw3) ?_
  rintro e W6 ⟨v, rfl, hR, hB⟩
  obtain ⟨A, c, rfl⟩ := Kd.R_slice hR
  have H6 := Aside0.mk (And.intro (Kd.R_reads' hR).2.1 (Kd.R_reads' hR).2.2)
  have HB6 := Aside0.mk (HB5.out.trans (hB.mono HB5.out.size))
  clear hR hB
  go_wp2_with fail
  have hA6 : (W6.alloc (iv [1,2])).heap[W6.heap.size]? = some (iv [1,2]) := World.alloc_heap_new _ _
  refine Calls.mono (jacquardref02_Nums.calls 100 A c [1,2] (some ⟨W6.heap.size, 0, none⟩) _ [1,2] true (W6.alloc (iv [1,2])) (Kd.C_alloc H6.out.2 _) H6.out.1 (C_ints hA6 (by decide)) (by decide) aw10) ?_
  rintro e W7 ⟨rfl, hD⟩
  have HB7 := Aside0.mk ((below_alloc HB6.out (iv [1,2])).trans (hD.below.mono (by have := HB6.out.size; simp; omega)))
  clear hD hA6 H6 HB6 HB5
  go_wp2_with fail
  obtain ⟨W8, hW8⟩ : ∃ W8, ([iv [1,2], iv [2], iv [], .cells #[sl W7.heap.size 2, sl (W7.heap.size + 1) 1, sl (W7.heap.size + 2) 0] 23] : List Obj).foldl World.alloc W7 = W8 := ⟨_, rfl⟩
  have hA : ∀ i o, ([iv [1,2], iv [2], iv [], .cells #[sl W7.heap.size 2, sl (W7.heap.size + 1) 1, sl (W7.heap.size + 2) 0] 23] : List Obj)[i]? = some o → W8.heap[W7.heap.size + i]? = some o := by
    intro i o h
    rw [← hW8, alloc_at _ _ _ (List.getElem?_eq_some_iff.1 h).1]
    exact h
  have hBW : Below W7.heap.size W7 W8 := by
    rw [← hW8]
    exact below_alloc (below_alloc (below_alloc (below_alloc (Below.refl _ _) _) _) _) _
  have hCC : Kd.C (Kd.slice 3 (Kd.int .i64)) W8 (some ⟨W7.heap.size + 3, 0, none⟩) gC.length gC := C_rows (hA 3 _ rfl) (by decide) (by
    intro i row hi
    match i, hi with
    | 0, hi => cases hi; exact ⟨_, _, rfl, Nat.le_refl _, C_ints (hA 0 _ rfl) (by decide)⟩
    | 1, hi => cases hi; exact ⟨_, _, rfl, Nat.le_refl _, C_ints (hA 1 _ rfl) (by decide)⟩
    | 2, hi => cases hi; exact ⟨_, _, rfl, Nat.le_refl _, C_ints (hA 2 _ rfl) (by decide)⟩
    | i + 3, hi => cases hi)
  have HCC := Aside0.mk hCC
  have HB8 := Aside0.mk (HB7.out.trans (hBW.mono HB7.out.size))
  refine Calls.mono (show Calls Try.prog 48 #[.slice (some ⟨W7.heap.size + 3, 0, none⟩) 3 3] _ _ from by have := graph_Critical.calls (some ⟨W7.heap.size + 3, 0, none⟩) 3 gC _ W8 HCC.out (by decide) aw4; rw [← hW8] at this; exact this) ?_
  rintro e W9 ⟨v, rfl, hR, hB⟩
  rw [hW8] at hB
  clear hCC hA hBW hW8 HCC HB7
  obtain ⟨A, c, rfl⟩ := Kd.R_slice hR
  have H9 := Aside0.mk (And.intro (Kd.R_reads' hR).2.1 (Kd.R_reads' hR).2.2)
  have HB9 := Aside0.mk (HB8.out.trans (hB.mono HB8.out.size))
  clear hR hB HB8
  go_wp2_with fail
  have hA9 : (W9.alloc (.cells #[.int .i64 0, .int .i64 2] 73)).heap[W9.heap.size]? = some (.cells #[.int .i64 0, .int .i64 2] 73 (0, 0)) := World.alloc_heap_new _ _
  have hP : Kd.C k73 (W9.alloc (.cells #[.int .i64 0, .int .i64 2] 73)) (some ⟨W9.heap.size, 0, none⟩) ([⟨0, 2⟩] : List S73).length [⟨0, 2⟩] := by
    refine ⟨rfl, by decide, fun _ => ⟨_, rfl, fun j p hp => ?_⟩⟩
    match j, hp with
    | 0, hp =>
      cases hp
      refine ⟨[.int .i64 0, .int .i64 2], rfl, k73_mk _ ⟨0, 2⟩, fun i u hu => ?_⟩
      rw [add_at]
      match i, hu with
      | 0, hu => cases hu; exact blk_cell hA9 0
      | 1, hu => cases hu; exact blk_cell hA9 1
      | i + 2, hu => cases hu
    | j + 1, hp => cases hp
  refine Calls.mono (jacquardref02_Pairs.calls A c [⟨0, 2⟩] (some ⟨W9.heap.size, 0, none⟩) 1 [⟨0, 2⟩] true (W9.alloc (.cells #[.int .i64 0, .int .i64 2] 73)) (Kd.C_alloc H9.out.2 _) H9.out.1 hP (by decide) aw11) ?_
  rintro e W10 ⟨rfl, hD⟩
  have HB10 := Aside0.mk ((below_alloc HB9.out (.cells #[.int .i64 0, .int .i64 2] 73)).trans (hD.below.mono (by have := HB9.out.size; simp; omega)))
  clear hD hA9 hP H9 HB9
  go_wp2_with fail
  refine Calls.mono (graph_Reducible.calls 100 (some ⟨w.heap.size + 4, 0, none⟩) 4 gA false W10 (Kd.C_below HCA.out HB10.out) (by decide) aw5) ?_
  rintro e W11 ⟨rfl, hB⟩
  have HB11 := Aside0.mk (HB10.out.trans (hB.mono HB10.out.size))
  clear hB HB10
  go_wp2_with fail
  refine Calls.mono (graph_Reducible.calls 100 (some ⟨w.heap.size + 9, 0, none⟩) 4 gB true W11 (Kd.C_below HCB.out HB11.out) (by decide) aw6) ?_
  rintro e W12 ⟨rfl, hB⟩
  have HB12 := Aside0.mk (HB11.out.trans (hB.mono HB11.out.size))
  clear hB HB11
  go_wp2_with fail
  refine Calls.mono (graph_Headers.calls 100 (some ⟨w.heap.size + 4, 0, none⟩) 4 gA [] W12 (Kd.C_below HCA.out HB12.out) (by decide) aw7) ?_
  rintro e W13 ⟨v, rfl, hR, hB⟩
  have HB13 := Aside0.mk (HB12.out.trans (hB.mono HB12.out.size))
  obtain ⟨A, c, rfl⟩ := Kd.R_slice hR
  clear hR hB HB12
  go_wp2
  go_ret
  exact ⟨rfl, HBW.out.trans (HB13.out.mono HBW.out.size)⟩
end Go.Proofs.Ytnmeomdjhjgnfaa.X
end
section
set_option linter.unusedVariables false
set_option linter.unusedSimpArgs false
namespace Go.Proofs.Ytnmeomdjhjgnfaa.X
open Go.RowKit Go.Proofs.YtnmeomdjhjgnfaaW.PrintWords Go.Proofs.YtnmeomdjhjgnfaaW.PrintLast Go.Proofs.YtnmeomdjhjgnfaaW.PrintMore

/-- y stands ahead of x. -/
def Bef (L : List Int) (y x : Int) : Prop := ∃ l1 l2, L = l1 ++ l2 ∧ y ∈ l1 ∧ x ∈ l2
theorem Bef.left {L : List Int} {y x : Int} (h : Bef L y x) (M : List Int) : Bef (L ++ M) y x := by
  obtain ⟨l1, l2, rfl, h1, h2⟩ := h
  exact ⟨l1, l2 ++ M, by simp, h1, by simp [h2]⟩
theorem Bef.right {L : List Int} {y x : Int} (h : Bef L y x) (M : List Int) : Bef (M ++ L) y x := by
  obtain ⟨l1, l2, rfl, h1, h2⟩ := h
  exact ⟨M ++ l1, l2, by simp, by simp [h1], h2⟩
theorem Bef.cross {L M : List Int} {y x : Int} (h : y ∈ L) (k : x ∈ M) : Bef (L ++ M) y x := ⟨L, M, rfl, h, k⟩
/-- A way from y on, each step to a block that is left earlier. -/
inductive FP (E : Int → Int → Prop) (L : List Int) (y : Int) : Int → Prop
  | refl : FP E L y y
  | step {z x : Int} : FP E L y z → E z x → Bef L x z → FP E L y x
theorem FP.mono {E : Int → Int → Prop} {L M : List Int} (hb : ∀ a b, Bef L a b → Bef M a b) {y x : Int} (h : FP E L y x) : FP E M y x := by
  induction h with
  | refl => exact .refl
  | step _ he hbf ih => exact .step ih he (hb _ _ hbf)
theorem FP.trans {E : Int → Int → Prop} {L : List Int} {w y x : Int} (h : FP E L w y) (k : FP E L y x) : FP E L w x := by
  induction k with
  | refl => exact h
  | step _ he hbf ih => exact .step ih he hbf

def on (t : List Bool) (y : Int) : Prop := t.getD y.toNat false = true
theorem on_set {t : List Bool} {a y : Int} (ha : 0 ≤ a ∧ a < t.length) (hy : 0 ≤ y) : on (t.set a.toNat true) y ↔ on t y ∨ y = a := by
  unfold on
  rw [List.getD_eq_getElem?_getD, List.getD_eq_getElem?_getD]
  by_cases h : a.toNat = y.toNat
  · rw [← h, List.getElem?_set_self (by omega)]
    simp; right; omega
  · rw [List.getElem?_set_ne h]
    constructor
    · exact .inl
    · rintro (h2 | h2)
      · exact h2
      · exfalso; apply h; rw [h2]
def cf (t : List Bool) : Nat := t.count false
theorem cf_set (t : List Bool) : ∀ (i : Nat), i < t.length → t.getD i false = false → cf (t.set i true) + 1 = cf t := by
  unfold cf
  induction t with
  | nil => intro i h; simp at h
  | cons x t ih =>
    intro i h hf
    cases i with
    | zero => simp at hf; subst hf; simp
    | succ i =>
      have := ih i (by simpa using h) (by simpa using hf)
      simp only [List.set_cons_succ, List.count_cons]
      omega
theorem cf_mono (t : List Bool) : ∀ (s : List Bool), t.length = s.length → (∀ i, t.getD i false = true → s.getD i false = true) → cf s ≤ cf t := by
  unfold cf
  induction t with
  | nil => intro s h _; have : s = [] := List.length_eq_zero_iff.1 h.symm; subst this; simp
  | cons x t ih =>
    intro s h hm
    cases s with
    | nil => simp at h
    | cons y s =>
      have h1 := ih s (by simpa using h) (fun i => by have := hm (i + 1); simpa using this)
      have h2 := hm 0
      simp only [List.getD_cons_zero] at h2
      simp only [List.count_cons]
      cases x <;> cases y <;> simp_all <;> omega

/-- What is new from t to t'. -/
structure DfsNew (E : Int → Int → Prop) (n : Nat) (t t' : List Bool) (new : List Int) : Prop where
  len : t'.length = t.length
  mark : ∀ y : Int, 0 ≤ y → y < (n : Int) → (on t' y ↔ on t y ∨ y ∈ new)
  rng : ∀ x ∈ new, 0 ≤ x ∧ x < (n : Int)
  fresh : ∀ x ∈ new, ¬ on t x
  nodup : new.Nodup
  closed : ∀ x ∈ new, ∀ y, E x y → on t' y
  back : ∀ x ∈ new, ∀ y ∈ new, E x y → Bef new y x ∨ FP E new y x
theorem DfsNew.nil (E : Int → Int → Prop) (n : Nat) (t : List Bool) : DfsNew E n t t [] :=
  ⟨rfl, (fun y _ _ => by simp), (fun x (h : x ∈ []) => nomatch h), (fun x (h : x ∈ []) => nomatch h), List.nodup_nil, (fun x (h : x ∈ []) => nomatch h), (fun x (h : x ∈ []) => nomatch h)⟩
theorem DfsNew.join {E : Int → Int → Prop} {n : Nat} (hE : ∀ x y, E x y → 0 ≤ y ∧ y < n) {t s u : List Bool} {l m : List Int} (h : DfsNew E n t s l) (k : DfsNew E n s u m) : DfsNew E n t u (l ++ m) := by
  have hsu : ∀ y, 0 ≤ y → y < (n : Int) → on s y → on u y := fun y h0 h1 hy => (k.mark y h0 h1).2 (.inl hy)
  refine ⟨k.len.trans h.len, fun y h0 h1 => ?_, fun x hx => ?_, fun x hx => ?_, ?_, fun x hx y he => ?_, fun x hx y hy he => ?_⟩
  · rw [k.mark y h0 h1, h.mark y h0 h1, List.mem_append, or_assoc]
  · rcases List.mem_append.1 hx with hx | hx
    · exact h.rng x hx
    · exact k.rng x hx
  · rcases List.mem_append.1 hx with hx | hx
    · exact h.fresh x hx
    · have hr := k.rng x hx
      exact fun hy => k.fresh x hx ((h.mark x hr.1 hr.2).2 (.inl hy))
  · rw [List.nodup_append]
    refine ⟨h.nodup, k.nodup, fun x hx y hy e => ?_⟩
    subst e
    have hr := h.rng x hx
    exact k.fresh x hy ((h.mark x hr.1 hr.2).2 (.inr hx))
  · have hr := hE x y he
    rcases List.mem_append.1 hx with hx | hx
    · exact hsu y hr.1 hr.2 (h.closed x hx y he)
    · exact k.closed x hx y he
  · rcases List.mem_append.1 hx with hx | hx <;> rcases List.mem_append.1 hy with hy | hy
    · exact (h.back x hx y hy he).imp (fun b => b.left m) (fun f => f.mono (fun a b hb => hb.left m))
    · exact absurd (h.closed x hx y he) (k.fresh y hy)
    · exact .inl (Bef.cross hy hx)
    · exact (k.back x hx y hy he).imp (fun b => b.right l) (fun f => f.mono (fun a b hb => hb.right l))

def RE (rows : List (List Int)) (x y : Int) : Prop := 0 ≤ x ∧ y ∈ rows.getD x.toNat []
theorem RE_in {rows : List (List Int)} {n : Nat} (hrows : ∀ row ∈ rows, ∀ b ∈ row, 0 ≤ b ∧ b < (n : Int)) (x y : Int) (h : RE rows x y) : 0 ≤ y ∧ y < (n : Int) := by
  obtain ⟨_, h⟩ := h
  rcases Nat.lt_or_ge x.toNat rows.length with hl | hl
  · rw [List.getD_eq_getElem?_getD, List.getElem?_eq_getElem hl] at h
    exact hrows _ (List.getElem_mem hl) y h
  · rw [List.getD_eq_getElem?_getD, List.getElem?_eq_none hl] at h
    cases h
def oStep (rows : List (List Int)) (k : Nat) (s : List Bool × List Int) (b : Int) : Option (List Bool × List Int) :=
  if s.1.getD b.toNat false = true then some s else overL rows k b s
theorem oL_eq (rows : List (List Int)) (k : Nat) (a : Int) (s : List Bool × List Int) :
    overL rows (k + 1) a s = ((rows.getD a.toNat []).foldlM (oStep rows k) (s.1.set a.toNat true, s.2)).map fun s => (s.1, s.2 ++ [a]) := rfl

theorem dfs (rows : List (List Int)) (n : Nat) (hrows : ∀ row ∈ rows, ∀ b ∈ row, 0 ≤ b ∧ b < (n : Int)) : ∀ (k : Nat) (a : Int) (t : List Bool) (o : List Int), t.length = n → 0 ≤ a → a < n → ¬ on t a → cf t ≤ k →
    ∃ t' new, overL rows k a (t, o) = some (t', o ++ (new ++ [a])) ∧ DfsNew (RE rows) n t t' (new ++ [a]) ∧ ∀ x ∈ new ++ [a], FP (RE rows) (new ++ [a]) a x := by
  have hE := RE_in hrows
  intro k
  induction k with
  | zero =>
    intro a t o hl h0 h1 hn hc
    have h2 := cf_set t a.toNat (by omega) (by unfold on at hn; simpa using hn)
    omega
  | succ k ih =>
    have key : ∀ (l : List Int) (t : List Bool) (o : List Int), (∀ b ∈ l, 0 ≤ b ∧ b < (n : Int)) → t.length = n → cf t ≤ k →
        ∃ t' new, l.foldlM (oStep rows k) (t, o) = some (t', o ++ new) ∧ DfsNew (RE rows) n t t' new ∧ (∀ b ∈ l, on t' b) ∧ ∀ x ∈ new, ∃ b, b ∈ l ∧ b ∈ new ∧ FP (RE rows) new b x := by
      intro l
      induction l with
      | nil => intro t o _ hl _; exact ⟨t, [], by simp [pure], DfsNew.nil _ _ _, (fun b (hb : b ∈ []) => by cases hb), (fun x (hx : x ∈ []) => by cases hx)⟩
      | cons b l ihl =>
        intro t o hb hl hc
        have hbr := hb b List.mem_cons_self
        by_cases ht : on t b
        · obtain ⟨t', new, h1, h2, h3, h4⟩ := ihl t o (fun x hx => hb x (List.mem_cons_of_mem _ hx)) hl hc
          refine ⟨t', new, ?_, h2, fun x hx => ?_, fun x hx => ?_⟩
          · rw [List.foldlM_cons, show oStep rows k (t, o) b = some (t, o) from by unfold oStep; exact if_pos ht]
            exact h1
          · rcases List.mem_cons.1 hx with rfl | hx
            · exact (h2.mark x hbr.1 hbr.2).2 (.inl ht)
            · exact h3 x hx
          · obtain ⟨c, hc1, hc2, hc3⟩ := h4 x hx
            exact ⟨c, List.mem_cons_of_mem _ hc1, hc2, hc3⟩
        · obtain ⟨t1, new1, g1, g2, g3⟩ := ih b t o hl hbr.1 hbr.2 ht hc
          have hl1 : t1.length = n := g2.len.trans hl
          have hc1 : cf t1 ≤ k := by
            refine Nat.le_trans (cf_mono t t1 g2.len.symm (fun i hi => ?_)) hc
            have hin : i < n := by
              rcases Nat.lt_or_ge i t.length with h | h
              · omega
              · rw [List.getD_eq_getElem?_getD, List.getElem?_eq_none h] at hi; cases hi
            have := (g2.mark (i : Int) (by omega) (by omega)).2 (.inl (by unfold on; simpa using hi))
            unfold on at this
            simpa using this
          obtain ⟨t', new, h1, h2, h3, h4⟩ := ihl t1 (o ++ (new1 ++ [b])) (fun x hx => hb x (List.mem_cons_of_mem _ hx)) hl1 hc1
          refine ⟨t', (new1 ++ [b]) ++ new, ?_, g2.join hE h2, fun x hx => ?_, fun x hx => ?_⟩
          · rw [List.foldlM_cons, show oStep rows k (t, o) b = some (t1, o ++ (new1 ++ [b])) from by unfold oStep; exact (if_neg ht).trans g1]
            show List.foldlM (oStep rows k) (t1, o ++ (new1 ++ [b])) l = _
            rw [h1, List.append_assoc o]
          · rcases List.mem_cons.1 hx with rfl | hx
            · exact (h2.mark x hbr.1 hbr.2).2 (.inl ((g2.mark x hbr.1 hbr.2).2 (.inr (by simp))))
            · exact h3 x hx
          · rcases List.mem_append.1 hx with hx | hx
            · exact ⟨b, List.mem_cons_self, by simp, (g3 x hx).mono (fun _ _ hb => hb.left _)⟩
            · obtain ⟨c, hc1, hc2, hc3⟩ := h4 x hx
              exact ⟨c, List.mem_cons_of_mem _ hc1, List.mem_append_right _ hc2, hc3.mono (fun _ _ hb => hb.right _)⟩
    intro a t o hl h0 h1 hn hc
    have h2 := cf_set t a.toNat (by omega) (by unfold on at hn; simpa using hn)
    have hrow : ∀ b ∈ rows.getD a.toNat [], 0 ≤ b ∧ b < (n : Int) := fun b hb => hE a b ⟨h0, hb⟩
    obtain ⟨t', new, g1, g2, g3, g4⟩ := key (rows.getD a.toNat []) (t.set a.toNat true) o hrow (by simpa using hl) (by omega)
    have hset : ∀ y, 0 ≤ y → (on (t.set a.toNat true) y ↔ on t y ∨ y = a) := fun y hy => on_set ⟨h0, by omega⟩ hy
    have hroot : ∀ x ∈ new ++ [a], FP (RE rows) (new ++ [a]) a x := by
      intro x hx
      rcases List.mem_append.1 hx with hx | hx
      · obtain ⟨b, hb1, hb2, hb3⟩ := g4 x hx
        exact (FP.step .refl ⟨h0, hb1⟩ (Bef.cross hb2 (by simp))).trans (hb3.mono (fun _ _ hb => hb.left _))
      · rw [List.mem_singleton.1 hx]; exact .refl
    refine ⟨t', new, ?_, ⟨?_, fun y hy0 hy1 => ?_, fun x hx => ?_, fun x hx => ?_, ?_, fun x hx y he => ?_, fun x hx y hy he => ?_⟩, hroot⟩
    · rw [oL_eq, g1]
      simp
    · rw [g2.len]; simp
    · rw [g2.mark y hy0 hy1, hset y hy0, List.mem_append, List.mem_singleton]
      constructor
      · rintro ((h | h) | h)
        · exact .inl h
        · exact .inr (.inr h)
        · exact .inr (.inl h)
      · rintro (h | h | h)
        · exact .inl (.inl h)
        · exact .inr h
        · exact .inl (.inr h)
    · rcases List.mem_append.1 hx with hx | hx
      · exact g2.rng x hx
      · rw [List.mem_singleton.1 hx]; exact ⟨h0, h1⟩
    · rcases List.mem_append.1 hx with hx | hx
      · exact fun hy => g2.fresh x hx ((hset x (g2.rng x hx).1).2 (.inl hy))
      · rw [List.mem_singleton.1 hx]; exact hn
    · rw [List.nodup_append]
      refine ⟨g2.nodup, by simp, fun x hx y hy e => ?_⟩
      rw [List.mem_singleton.1 hy] at e
      exact g2.fresh x hx ((hset x (g2.rng x hx).1).2 (.inr e))
    · rcases List.mem_append.1 hx with hx | hx
      · exact g2.closed x hx y he
      · rw [List.mem_singleton.1 hx] at he
        exact g3 y he.2
    · rcases List.mem_append.1 hx with hx | hx
      · rcases List.mem_append.1 hy with hy | hy
        · exact (g2.back x hx y hy he).imp (fun b => b.left _) (fun f => f.mono (fun _ _ hb => hb.left _))
        · rw [List.mem_singleton.1 hy]
          exact .inr (hroot x (List.mem_append_left _ hx))
      · rw [List.mem_singleton.1 hx] at he ⊢
        rcases List.mem_append.1 hy with hy | hy
        · exact .inl (Bef.cross hy (by simp))
        · rw [List.mem_singleton.1 hy]; exact .inr .refl
/-- The block at a place. -/
def at_ (o : List Int) (i : Nat) : Int := o.getD i 0
/-- From place j on to place i, by edges that go on. -/
inductive FW (E : Int → Int → Prop) (o : List Int) (j : Nat) : Nat → Prop
  | refl : FW E o j j
  | step {z x : Nat} : FW E o j z → E (at_ o z) (at_ o x) → z < x → x < o.length → FW E o j x
structure Ordd (E : Int → Int → Prop) (n : Nat) (o : List Int) : Prop where
  nodup : o.Nodup
  rng : ∀ x ∈ o, 0 ≤ x ∧ x < (n : Int)
  pos : 0 < o.length
  head : at_ o 0 = 0
  closed : ∀ x ∈ o, ∀ y, E x y → y ∈ o
  fwd : ∀ i, 0 < i → i < o.length → ∃ j, j < i ∧ E (at_ o j) (at_ o i)
  back : ∀ i j, i < o.length → j < o.length → E (at_ o i) (at_ o j) → i < j ∨ FW E o j i
theorem at_mem {o : List Int} {i : Nat} (h : i < o.length) : at_ o i ∈ o := by
  unfold at_
  rw [List.getD_eq_getElem?_getD, List.getElem?_eq_getElem h]
  exact List.getElem_mem h
theorem at_inj {o : List Int} (hn : o.Nodup) {i j : Nat} (hi : i < o.length) (hj : j < o.length) (h : at_ o i = at_ o j) : i = j := by
  unfold at_ at h
  rw [List.getD_eq_getElem?_getD, List.getElem?_eq_getElem hi, List.getD_eq_getElem?_getD, List.getElem?_eq_getElem hj] at h
  have hp := List.pairwise_iff_getElem.1 hn
  rcases Nat.lt_trichotomy i j with hlt | hlt | hlt
  · exact absurd h (hp i j hi hj hlt)
  · exact hlt
  · exact absurd h.symm (hp j i hj hi hlt)
theorem mem_at {o : List Int} {x : Int} (h : x ∈ o) : ∃ i, i < o.length ∧ at_ o i = x := by
  obtain ⟨i, hi, rfl⟩ := List.getElem_of_mem h
  exact ⟨i, hi, by unfold at_; rw [List.getD_eq_getElem?_getD, List.getElem?_eq_getElem hi]; rfl⟩
theorem bef_place {L : List Int} (hn : L.Nodup) {i j : Nat} (hi : i < L.reverse.length) (hj : j < L.reverse.length) (h : Bef L (at_ L.reverse i) (at_ L.reverse j)) : j < i := by
  obtain ⟨l1, l2, rfl, h1, h2⟩ := h
  have hr : (l1 ++ l2).reverse.Nodup := (List.reverse_perm _).nodup_iff.2 hn
  have e : (l1 ++ l2).reverse = l2.reverse ++ l1.reverse := List.reverse_append
  obtain ⟨j', hj', ej⟩ := mem_at (List.mem_reverse.2 h2)
  obtain ⟨i', hi', ei⟩ := mem_at (List.mem_reverse.2 h1)
  have ej2 : at_ (l1 ++ l2).reverse j' = at_ (l1 ++ l2).reverse j := by
    rw [← ej, e]
    unfold at_
    rw [List.getD_eq_getElem?_getD, List.getElem?_append_left hj', ← List.getD_eq_getElem?_getD]
  have ei2 : at_ (l1 ++ l2).reverse (l2.reverse.length + i') = at_ (l1 ++ l2).reverse i := by
    rw [← ei, e]
    unfold at_
    rw [List.getD_eq_getElem?_getD, List.getElem?_append_right (by omega), Nat.add_sub_cancel_left, ← List.getD_eq_getElem?_getD]
  have h3 := at_inj hr (by rw [e, List.length_append]; omega) hj ej2
  have h4 := at_inj hr (by rw [e, List.length_append]; omega) hi ei2
  omega
theorem fp_fw {E : Int → Int → Prop} {L : List Int} (hn : L.Nodup) (hm : ∀ y x, Bef L y x → y ∈ L ∧ x ∈ L) {y x : Int} (h : FP E L y x) : ∀ j i, j < L.reverse.length → i < L.reverse.length → at_ L.reverse j = y → at_ L.reverse i = x → FW E L.reverse j i := by
  have hr : L.reverse.Nodup := (List.reverse_perm _).nodup_iff.2 hn
  induction h with
  | refl =>
    intro j i hj hi ej ei
    obtain rfl := at_inj hr hj hi (ej.trans ei.symm)
    exact .refl
  | @step z x _ he hb ih =>
    intro j i hj hi ej ei
    obtain ⟨k, hk, ek⟩ := mem_at (List.mem_reverse.2 (hm _ _ hb).2)
    refine .step (ih j k hj hk ej ek) (by rw [ek, ei]; exact he) ?_ hi
    exact bef_place hn hi hk (by rw [ek, ei]; exact hb)
theorem bef_mem {L : List Int} {y x : Int} (h : Bef L y x) : y ∈ L ∧ x ∈ L := by
  obtain ⟨l1, l2, rfl, h1, h2⟩ := h
  exact ⟨by simp [h1], by simp [h2]⟩
/-- The order that a walk from block 0 leaves. -/
theorem order_of (rows : List (List Int)) (n : Nat) (hn0 : 0 < n) (hrows : ∀ row ∈ rows, ∀ b ∈ row, 0 ≤ b ∧ b < (n : Int)) (k : Nat) (hk : n ≤ k) :
    ∃ t o, overL rows k 0 (List.replicate n false, []) = some (t, o) ∧ Ordd (RE rows) n o.reverse := by
  obtain ⟨t, new, h1, h2, h3⟩ := dfs rows n hrows k 0 (List.replicate n false) [] (by simp) (by omega) (by omega) (by unfold on; simp [List.getD_eq_getElem?_getD, List.getElem?_replicate, hn0]) (by unfold cf; simp; omega)
  have hr : (new ++ [0]).reverse.Nodup := (List.reverse_perm _).nodup_iff.2 h2.nodup
  refine ⟨t, new ++ [0], by rw [h1]; rfl, hr, fun x hx => h2.rng x (List.mem_reverse.1 hx), by simp, by simp [at_], fun x hx y he => ?_, fun i h0 hi => ?_, fun i j hi hj he => ?_⟩
  · have hy := RE_in hrows x y he
    have h4 := (h2.mark y hy.1 hy.2).1 (h2.closed x (List.mem_reverse.1 hx) y he)
    refine List.mem_reverse.2 (h4.resolve_left (fun h => ?_))
    unfold on at h
    rw [List.getD_eq_getElem?_getD, List.getElem?_replicate] at h
    split at h <;> cases h
  · have hx := at_mem hi
    have h4 := h3 _ (List.mem_reverse.1 hx)
    obtain ⟨y, hy⟩ : ∃ y, at_ (new ++ [0]).reverse i = y := ⟨_, rfl⟩
    rw [hy] at h4 ⊢
    cases h4 with
    | refl =>
      exfalso
      have h6 : at_ (new ++ [0]).reverse i = at_ (new ++ [0]).reverse 0 := by
        rw [hy]
        simp [at_]
      have := at_inj hr hi (by simp) h6
      omega
    | @step z x _ he hb =>
      obtain ⟨j, hj, ej⟩ := mem_at (List.mem_reverse.2 (bef_mem hb).2)
      exact ⟨j, bef_place h2.nodup hi hj (by rw [ej, hy]; exact hb), by rw [ej]; exact he⟩
  · rcases h2.back _ (List.mem_reverse.1 (at_mem hi)) _ (List.mem_reverse.1 (at_mem hj)) he with hb | hf
    · exact .inl (bef_place h2.nodup hj hi hb)
    · exact .inr (fp_fw h2.nodup (fun _ _ h => bef_mem h) hf j i hj hi rfl rfl)
end Go.Proofs.Ytnmeomdjhjgnfaa.X
end
