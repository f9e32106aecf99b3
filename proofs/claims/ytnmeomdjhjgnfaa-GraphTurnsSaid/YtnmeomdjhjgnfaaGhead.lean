/- graph.Headers, by hand. -/
import Derived.Test.YtnmeomdjhjgnfaaGcrit
import Derived.Test.YtnmeomdjhjgnfaaGback
set_option linter.unusedSimpArgs false
namespace Go.Proofs.Ytnmeomdjhjgnfaa.X
open Go.RowKit Go.Shelf Go.Proofs.YtnmeomdjhjgnfaaW.PrintWords Go.Proofs.YtnmeomdjhjgnfaaW.PrintLast Go.Proofs.YtnmeomdjhjgnfaaW.PrintMore
set_option linter.unusedVariables false
attribute [local go_sem] Oper.semAt_some

def hdL (d : List Int) (es : List (Int × Int)) : List Int := (es.filter fun e => backL d e.1 e.2).map (·.2)
theorem hdL_snoc (d : List Int) (es : List (Int × Int)) (a b : Int) : hdL d (es ++ [(a, b)]) = if backL d a b = true then hdL d es ++ [b] else hdL d es := by
  unfold hdL
  rw [List.filter_append, List.map_append]
  simp only [List.filter_cons, List.filter_nil]
  split <;> simp
theorem edgesFrom_in (n : Nat) : ∀ (rows : List (List Int)) (i : Nat), i + rows.length ≤ n → (∀ r ∈ rows, ∀ b ∈ r, 0 ≤ b ∧ b < n) → ∀ e ∈ edgesFrom i rows, (0 ≤ e.1 ∧ e.1 < n) ∧ 0 ≤ e.2 ∧ e.2 < n
  | [], _, _, _, e, he => by simp [edgesFrom] at he
  | r :: rows, i, hi, h, e, he => by
    simp only [edgesFrom, List.mem_append, List.mem_map] at he
    simp only [List.length_cons] at hi
    rcases he with ⟨b, hb, rfl⟩ | he
    · exact ⟨by constructor <;> simp <;> omega, h r List.mem_cons_self b hb⟩
    · exact edgesFrom_in n rows (i + 1) (by omega) (fun r hr => h r (List.mem_cons_of_mem _ hr)) e he
theorem edgesL_in (g : List (List Int)) (e : Int × Int) (he : e ∈ edgesL g) : (0 ≤ e.1 ∧ e.1 < g.length) ∧ 0 ≤ e.2 ∧ e.2 < g.length :=
  edgesFrom_in g.length (cleanL g) 0 (by rw [cleanL_length]; omega) (cleanL_in g) e he
/-- Sorting and making compact a row within bounds is what kept tells. -/
theorem kept_all (l : List Int) (n : Int) (h : ∀ x ∈ l, 0 ≤ x ∧ x < n) : Lib.compact (isort l) = keptL l n := by
  exact kept_of l l n (fun x => ⟨fun hx => ⟨hx, h x hx⟩, fun hx => hx.1⟩)
theorem hdL_length (d : List Int) (es : List (Int × Int)) : (hdL d es).length ≤ es.length := by
  unfold hdL; rw [List.length_map]; exact List.length_filter_le _ _
set_option maxHeartbeats 4000000 in
set_option maxRecDepth 100000 in
theorem graph_Headers.calls (k : Nat) (A0 : Option Addr) (c0 : Nat) (l0 : List (List Int)) (r : List Int) (w : World) (hr0 : Kd.C (Kd.slice 3 (Kd.int .i64)) w A0 l0.length l0) (hc0 : l0.length ≤ c0) (h : graph_Headers.f k l0 = some r) :
    Calls Try.prog 38 #[.slice A0 l0.length c0] w fun e w' => ∃ v0_ : Value, e = .returned (v0_) ∧ Kd.R (Kd.int .i64) 3 w' w.heap.size (fun _ => True) v0_ r ∧ Below w.heap.size w w' := by
  unfold graph_Headers.f at h
  split at h
  case isFalse => cases h
  rename_i hok
  obtain ⟨d, hd, h⟩ := Option.bind_eq_some_iff.1 h
  split at h
  case isFalse => cases h
  rename_i hdl
  obtain ⟨hdl, hel⟩ := hdl
  injection h with h
  have hlen := (okG_len hok).1
  have HR := Aside0.mk hr0
  have HC0 := Aside0.mk hc0
  have HOK := Aside0.mk hok
  have HE := Aside0.mk h
  have HD := Aside0.mk hd
  have HEL := Aside0.mk hel
  have HDL := Aside0.mk hdl
  clear hr0 hc0 hok h hd hel hdl
  refine (callsIn_wide (n := 6)).1 ?_
  refine callsIn_of_wp_marks Try.func38 rfl trivial ?_ rfl
  simp only [Try.ntmps38, List.size_toArray, List.length_cons, List.length_nil, Nat.reduceAdd, Nat.reduceSub, Array.replicate_succ, Array.replicate_zero, List.push_toArray, List.append_toArray, List.nil_append, List.cons_append]
  refine wpIn_seq (wpIn_wide.2 ?_)
  go_wp2
  refine wpIn_seq (wpIn_wide.2 ?_)
  go_wp2_with fail
  refine (back_calls k A0 c0 l0 d _ HR.out HC0.out HD.out).mono ?_
  rintro e W2 ⟨bk, Ad, cd, rfl, hbk, hbx, hRd, hB2⟩
  have HBX := Aside0.mk hbx
  have HRd := Aside0.mk hRd
  have HB2 := Aside0.mk hB2
  have hbk2 := blk_lt hbx
  clear hbx hRd hB2
  go_wp2
  refine wpIn_seq (wpIn_wide.2 ?_)
  go_wp2
  refine wpIn_seq (wpIn_seq ?_)
  gi_wp2
  refine ⟨trivial, ?_⟩
  refine (callsIn_wide.2 (edges_calls A0 l0.length c0 _)).mono ?_
  rintro e w' ⟨rfl, rfl⟩
  gi_wp2
  have c3 := cell_new_c' W2 (.func (.func 103) #[] #[.pointer (some ⟨bk, 0, none⟩)]) 53
  have c4 := World.alloc_heap_new (W2.alloc (.cells #[.func (.func 103) #[] #[.pointer (some ⟨bk, 0, none⟩)]] 53)) (.cells #[.slice none 0 0] 23)
  have c6 := cell_new_c' ((W2.alloc (.cells #[.func (.func 103) #[] #[.pointer (some ⟨bk, 0, none⟩)]] 53)).alloc (.cells #[.slice none 0 0] 23)) (.slice A0 l0.length c0) 22
  have hB5 : Below W2.heap.size W2 (((W2.alloc (.cells #[.func (.func 103) #[] #[.pointer (some ⟨bk, 0, none⟩)]] 53)).alloc (.cells #[.slice none 0 0] 23)).alloc (.cells #[.slice A0 l0.length c0] 22)) := below_alloc (below_alloc (below_alloc (Below.refl _ _) _) _) _
  simp only [World.size_alloc] at c4 c6
  obtain ⟨wL, hwL⟩ : ∃ wL, (((W2.alloc (.cells #[.func (.func 103) #[] #[.pointer (some ⟨bk, 0, none⟩)]] 53)).alloc (.cells #[.slice none 0 0] 23)).alloc (.cells #[.slice A0 l0.length c0] 22)) = wL := ⟨_, rfl⟩
  have hsz : wL.heap.size = W2.heap.size + 3 := by rw [← hwL]; simp
  have k5 : wL.heap[W2.heap.size + 1]? = some (.cells #[.slice none 0 0] 23 (0, 0)) := by
    rw [← hwL]
    exact (below_alloc (Below.refl _ _) _ : Below _ _ _).block _ (by simp) |>.trans c4
  have k3 : wL.cell? ⟨W2.heap.size, 0, none⟩ = some (.func (.func 103) #[] #[.pointer (some ⟨bk, 0, none⟩)]) := by rw [← hwL]; exact cell_alloc' _ (cell_alloc' _ c3.1)
  have K3 := Aside0.mk k3
  have HI0 := Aside0.mk (OutIn.start (d := Kd.int .i64) (e := 3) k5)
  have hMW := HI0.out.names
  have hMd : Told wL.heap.size (BxM (W2.heap.size + 1)) := BxM.told (by omega)
  rw [hwL] at c6 hB5 ⊢
  have HB5 := Aside0.mk hB5
  have HBL := Aside0.mk (HB2.out.trans (hB5.mono HB2.out.size))
  refine wpIn_rangeFunc_ownG rfl (by omega) (gf := 104) (lb := #[.pointer (some ⟨W2.heap.size + 1 + 1, 0, none⟩)]) rfl trivial (enters_of Try.func104 (by kernel_rfl) rfl)
    (edges_stops 5 (by omega) (W2.heap.size + 1 + 1) A0 c0 l0 HOK.out (BxM (W2.heap.size + 1)) wL hMd hMW (Kd.C_below HR.out HBL.out) HC0.out c6.1) EdKp.trans (EdKp.put hMd) (Below.refl _ _) (fun _ => rfl)
    (fun pre W => OutIn wL (W2.heap.size + 1) (Kd.int .i64) 3 23 (hdL d (pre.map Subtype.val)) W)
    (fun _ _ _ => False)
    (fun s A B row hs hg hr => hs.kept hg hr (by omega))
    (fun _ _ _ _ _ hs _ _ => hs)
    HI0.out
    (fun x => { tmps := #[Value.slice A0 l0.length c0, undef, Value.slice none 0 0,
          Value.pointer (some { block := W2.heap.size, off := 0 }),
          Value.pointer (some { block := W2.heap.size + 1, off := 0 }), .int .i64 x.1.1, .int .i64 x.1.2, Value.slice A0 l0.length c0,
          Value.func (Fn.func 103) #[] #[Value.pointer (some { block := bk, off := 0 })], Value.slice A0 l0.length c0,
          Value.func (Fn.func 104) #[] #[Value.pointer (some { block := W2.heap.size + 1 + 1, off := 0 })], .int .i64 x.1.1, .int .i64 x.1.2,
          undef, undef, undef, undef, undef, undef, undef, undef, undef, undef, undef, undef], defers := [] }) ?assign ?body ?done ?stop
  case assign =>
    intro l x W K hK
    simp only [edEnc]
    gi_wp2
    exact hK
  case body =>
    rintro l pre ⟨⟨a, b⟩, ha0, ha1, hb0, hb1⟩ W hI hlt
    have HSZ := Aside0.mk hsz
    clear hMd hMW hB5 c3 c4 c6 HI0 hwL k5 k3 hsz
    simp only at ha0 ha1 hb0 hb1
    obtain ⟨out, hout⟩ : ∃ out, hdL d (pre.map Subtype.val) = out := ⟨_, rfl⟩
    rw [hout] at hI
    have HOL : Aside0 (out.length ≤ 1000000000000) := ⟨by
      have h1 := hdL_length d (pre.map Subtype.val)
      rw [hout, List.length_map] at h1
      have h2 := HEL.out
      omega⟩
    have hsnoc : hdL d ((pre ++ [(⟨(a, b), by omega⟩ : Ed l0.length)]).map Subtype.val) = if backL d a b = true then out ++ [b] else out := by
      rw [List.map_append, ← hout]
      exact hdL_snoc _ _ _ _
    have HSN := Aside0.mk hsnoc
    have HIN := Aside0.mk hI
    clear hsnoc hout
    have hf := hI.far
    have hBW : Below W2.heap.size W2 W := HB5.out.trans (hI.stay.mono (by have := HSZ.out; omega))
    have hc3 : W.cell? ⟨W2.heap.size, 0, none⟩ = some (.func (.func 103) #[] #[.pointer (some ⟨bk, 0, none⟩)]) := (hI.stay.cell (p := ⟨W2.heap.size, 0, none⟩) (by simp)).trans K3.out
    have hcon := back1_calls bk Ad cd d a b W ((hBW.cell (p := ⟨bk, 0, none⟩) hbk2).trans (cell_of_box' HBX.out).1) (Kd.C_below (Kd.R_reads' HRd.out).2.2 hBW) (Kd.R_reads' HRd.out).2.1 (by have := HDL.out; omega) ha0 (by have := HDL.out; omega)
    have HCON := Aside0.mk hcon
    clear hcon hI hBW
    cases hback : backL d a b with
    | false =>
      have HSN2 := HSN.out
      rw [hback] at HSN2 HCON
      have HSN3 := Aside0.mk HSN2
      clear HSN2
      gi_wp2
      refine ⟨trivial, ?_⟩
      refine (CallsIn.inRound l (callsIn_wide.2 HCON.out)).mono ?_
      rintro e W' ⟨rfl, hB⟩
      gi_wp2
      have hr := HIN.out.call hB (by have := HSZ.out; omega)
      refine ⟨hr.1, hr.2.1, ?_⟩
      show OutIn _ _ _ _ _ (hdL d _) _
      rw [HSN3.out]
      exact hr.2.2
    | true =>
      have HSN2 := HSN.out
      rw [hback] at HSN2 HCON
      have HSN3 := Aside0.mk HSN2
      clear HSN2
      refine wpIn_block ?_
      refine wpIn_seq ?_
      refine wpIn_mono (Q := Exit.then (fun a' w' => Below W.heap.size W w' ∧ a' = { tmps := #[Value.slice A0 l0.length c0, undef, Value.slice none 0 0,
          Value.pointer (some { block := W2.heap.size, off := 0 }),
          Value.pointer (some { block := W2.heap.size + 1, off := 0 }), .int .i64 a, .int .i64 b, Value.slice A0 l0.length c0,
          Value.func (Fn.func 103) #[] #[Value.pointer (some { block := bk, off := 0 })], Value.slice A0 l0.length c0,
          Value.func (Fn.func 104) #[] #[Value.pointer (some { block := W2.heap.size + 1 + 1, off := 0 })], .int .i64 a, .int .i64 b,
          Value.func (Fn.func 103) #[] #[Value.pointer (some { block := bk, off := 0 })], .int .i64 a, .int .i64 b, .bool true, undef, undef, undef, undef, undef, undef, undef, undef], defers := [] }) (fun _ _ _ => False)) ?first ?rest
      case first =>
        gi_wp2
        refine ⟨trivial, ?_⟩
        refine (CallsIn.inRound l (callsIn_wide.2 HCON.out)).mono ?_
        rintro e W' ⟨rfl, hB⟩
        gi_wp2
        exact ⟨hB, trivial⟩
      case rest =>
        intro e a' W' h'
        cases e <;> first | exact h'.elim | skip
        obtain ⟨hB, rfl⟩ := h'
        obtain ⟨hk1, hk2, hI2⟩ := HIN.out.call hB (by have := HSZ.out; omega)
        obtain ⟨v, h5, hRv⟩ := hI2.box
        obtain ⟨hc5, hf5⟩ := cell_of_box' h5
        obtain ⟨Av, cv, rfl⟩ := Kd.R_slice hRv
        have HRv := Aside0.mk hRv
        have H5 := Aside0.mk h5
        have HK := Aside0.mk (And.intro hk1 hk2)
        have HI2 := Aside0.mk hI2
        have hf2 := hI2.far
        clear hRv h5 hk1 hk2 hI2
        refine wpIn_cond_true rfl ?_
        refine wpIn_list_plain (by kernel_rfl) (fun ⟨_, _, h'⟩ => h') ?_
        go_wp2_with (first | ((with_reducible refine gate_builtin (b := .append) (xs := #[.tmp 17, .tmp 19]) rfl ?_); at_builtin; refine Kd.R_append (Kd.int .i64) (w0 := W') (W := W') wL.heap.size rfl (.tmp 17) (.tmp 19) 23 3 (.int .i64 0) 8 rfl Try.underlying23 info3 rfl (by decide) (by omega) (.slice Av out.length cv) out b [.int .i64 b] (fun _ => True) (fun _ => False) rfl rfl ?aP (fun _ hk => hk.elim) ?aF ?aO ?aB ?aS ?aL ?_; (case aP => rfl); (case aF => exact fun _ _ => trivial); (case aO => exact HRv.out); (case aB => exact Below.refl _ _); (case aS => exact hf2); (case aL => have := HOL.out; omega); intro v20 W7 ho hb hg hat; obtain ⟨A20, n20, c20, rfl⟩ : ∃ A n c, v20 = .slice A n c := ⟨_, _, _, (Kd.R_slice ho).choose_spec.choose_spec⟩; obtain ⟨hc57, hf57⟩ := cell_of_box' ((hg.block (W2.heap.size + 1) (blk_lt H5.out) (fun h => by have := Kd.R_base HRv.out _ h.symm; have := HSZ.out; omega)).trans H5.out)) | fail)
        obtain ⟨hr1, hr2, hr3⟩ := HI2.out.append (by have := HSZ.out; omega) H5.out HRv.out ho hg hat
        refine ⟨HK.out.1.trans hr1, HK.out.2.trans hr2, ?_⟩
        show OutIn _ _ _ _ _ (hdL d _) _
        rw [HSN3.out]
        exact hr3
  case done =>
    rintro D ys W hD hys hI hK
    obtain ⟨out, hout⟩ : ∃ out, hdL d (ys.map Subtype.val) = out := ⟨_, rfl⟩
    have HOL : Aside0 (out.length ≤ 100000000) := ⟨by
      have h1 := hdL_length d (ys.map Subtype.val)
      rw [hout, hys] at h1
      have h2 := HEL.out
      omega⟩
    have HFR : Aside0 (Lib.compact (isort out) = r) := ⟨by
      rw [hys] at hout
      rw [← hout, ← HE.out]
      exact kept_all _ _ (fun x hx => by
        obtain ⟨e, he, rfl⟩ := List.mem_map.1 hx
        exact (edgesL_in l0 e (List.mem_filter.1 he).1).2)⟩
    rw [hout] at hI
    have hbW : Below w.heap.size w W := HBL.out.trans (hI.stay.mono (by have := HB2.out.size; omega))
    obtain ⟨v, h5, hRv⟩ := hI.box
    obtain ⟨hc5, hf5⟩ := cell_of_box' h5
    have HRv := Aside0.mk hRv
    have HBW := Aside0.mk hbW
    have hf := hI.far
    obtain ⟨Av, cv, rfl⟩ := Kd.R_slice hRv
    have HI := Aside0.mk hI
    have H5 := Aside0.mk h5
    clear hRv hbW hI h5 hout
    refine wpIn_seq (wpIn_wide.2 ?_)
    go_wp2_with fail
    refine (sort_R HRv.out HOL.out).mono ?_
    rintro e W1 ⟨rfl, hs1, hg1⟩
    have h51 := (hg1.block (W2.heap.size + 1) (blk_lt H5.out) (fun h => by have := Kd.R_base HRv.out _ h.symm; omega)).trans H5.out
    obtain ⟨hc51, hf51⟩ := cell_of_box' h51
    have HB1 := Aside0.mk (HBW.out.grown hg1 HBW.out.size (fun k hk => by have := Kd.R_base HRv.out k hk; have := HB2.out.size; omega))
    have HS1 := Aside0.mk hs1
    have HK1 : Aside0 (W1.heap[D]? = some (.deferred (some []))) := ⟨(hg1.block D (Array.getElem?_eq_some_iff.1 hK).1 (fun h => by
      obtain ⟨c, hc⟩ := Kd.R_typed HRv.out D h.symm
      rw [hc] at hK; cases hK)).trans hK⟩
    clear hs1 hg1 h51
    go_wp2
    refine wpIn_seq (wpIn_wide.2 ?_)
    go_wp2_with fail
    refine (compact_R HS1.out (by rw [isort_length]; exact HOL.out)).mono ?_
    rintro e W3 ⟨v', rfl, hs2, hg2⟩
    have HB3 := Aside0.mk (HB1.out.grown hg2 HB1.out.size (fun k hk => by have := Kd.R_base HS1.out k hk; have := HB2.out.size; omega))
    have HS3 := Aside0.mk hs2
    have HK3 : Aside0 (W3.heap[D]? = some (.deferred (some []))) := ⟨(hg2.block D (Array.getElem?_eq_some_iff.1 HK1.out).1 (fun h => by
      obtain ⟨c, hc⟩ := Kd.R_typed HS1.out D h.symm
      have := HK1.out
      rw [hc] at this; cases this)).trans HK1.out⟩
    clear hs2 hg2
    go_wp2
    gi_wp2
    refine ⟨by simp, .inl ⟨_, _, rfl, run_takeDeferred HK3.out, ?_⟩⟩
    refine ⟨_, results_tmp rfl _ _ _, _, rfl, ?_, ?_⟩
    · have h2 := HS3.out
      rw [HFR.out] at h2
      exact Kd.R_mono (Kd.R_lower (R_nocells h2 (grownBy_putObj' _ D _) (fun r e => by cases e; exact ⟨_, HK3.out, rfl⟩)) HBL.out.size) (fun _ _ => trivial)
    · exact HB3.out.grown (grownBy_putObj' _ D _) HB3.out.size (fun k e => by cases e; have := HBL.out.size; omega)
  case stop =>
    rintro D c pre W _ _ h _
    exact h.elim
end Go.Proofs.Ytnmeomdjhjgnfaa.X
