/- graph.Reducible, by hand. -/
import Derived.Test.YtnmeomdjhjgnfaaGspec
import Derived.Maps.Own
import Derived.Maps.Views
import Derived.Test.YtnmeomdjhjgnfaaGhead
set_option linter.unusedSimpArgs false
/-! A map of the call's own from whole numbers, read as a plain function. -/
namespace Go.Proofs.Ytnmeomdjhjgnfaa.X
open Go.RowKit Go.Maps Go.Proofs.YtnmeomdjhjgnfaaW.PrintWords Go.Proofs.YtnmeomdjhjgnfaaW.PrintLast Go.Proofs.YtnmeomdjhjgnfaaW.PrintMore
set_option linter.unusedVariables false
set_option maxRecDepth 100000

theorem u117 : Try.prog.underlying 117 = some (.map 3 3) := by kernel_rfl
theorem u55 : Try.prog.underlying 55 = some (.map 3 4) := by kernel_rfl
theorem key3 : Keyed Try.prog 3 := int_keyed Try.underlying3
theorem zero3' (w : World) : (zeroValue 3).run Try.prog w = .ok (.int .i64 0) w := by kernel_rfl
theorem zero4' (w : World) : (zeroValue 4).run Try.prog w = .ok (.bool false) w := by kernel_rfl
def wf64 (x : Int) : Prop := (Lit.int .i64 x).wf = true
theorem wf64_of {x : Int} (h0 : -9223372036854775808 ≤ x) (h1 : x ≤ 9223372036854775807) : wf64 x := by
  have e1 : IntKind.i64.min = -9223372036854775808 := by decide
  have e2 : IntKind.i64.max = 9223372036854775807 := by decide
  simp [wf64, Lit.wf, e1, e2]; omega

structure MI (w : World) (b n : Nat) (f : Int → Int) : Prop where
  own : ∃ D : DataW Unit, w.ownsMap Try.prog 3 (plainElem Try.prog 3) b n D ∧ ∀ x, wf64 x → D.atKey (.int .i64 x) (.lit (.int .i64 0)) = .lit (.int .i64 (f x))
theorem MI.made (w : World) : MI (w.alloc (.map #[] 0)) w.heap.size 0 (fun _ => 0) := ⟨_, World.ownsMap_made _ _ _ _, fun _ _ => rfl⟩
theorem MI.kept {w w' : World} {b n : Nat} {f : Int → Int} {row : Option Nat} (h : MI w b n f) (hg : w.grownBy w' row) (hne : some b ≠ row) : MI w' b n f := by
  obtain ⟨D, hD, hf⟩ := h.own
  exact ⟨D, hD.kept hg hne, hf⟩
theorem MI.below {w w' : World} {b n : Nat} {f : Int → Int} (h : MI w b n f) (hb : Below w.heap.size w w') : MI w' b n f := by
  obtain ⟨D, ⟨es, clock, hb', F, hs, hD⟩, hf⟩ := h.own
  exact ⟨D, ⟨es, clock, (hb.block b (Array.getElem?_eq_some_iff.1 hb').1).trans hb', F, hs, hD⟩, hf⟩
theorem MI.lt {w : World} {b n : Nat} {f : Int → Int} (h : MI w b n f) : b < w.heap.size := by
  obtain ⟨D, hD, _⟩ := h.own
  exact hD.lt
theorem MI.isMap {w : World} {b n : Nat} {f : Int → Int} (h : MI w b n f) : ∃ es clock, w.heap[b]? = some (.map es clock) := by
  obtain ⟨D, ⟨es, clock, hb', _⟩, _⟩ := h.own
  exact ⟨es, clock, hb'⟩
theorem MI.look {w : World} {b n : Nat} {f : Int → Int} (h : MI w b n f) {x : Int} (hx : wf64 x) : (Instr.lookup 117 (.map (some b)) (.int .i64 x) false).run Try.prog w = .ok (.int .i64 (f x)) w := by
  obtain ⟨D, hD, hf⟩ := h.own
  obtain ⟨c, hrun, hat, _⟩ := hD.lookup_int key3 u117 Try.underlying3 (zero3' w) (keyOf_int_mk Try.underlying3 hx)
  rw [hf x hx] at hat
  injection hat with hat
  injection hat with _ hat
  rw [hat]
  exact hrun
theorem MI.put {w : World} {b n : Nat} {f : Int → Int} (h : MI w b n f) {x v : Int} (hx : wf64 x) (hv : wf64 v) (hn : n < maxLen) :
    ∃ w', (Instr.mapUpdate 117 (.map (some b)) (.int .i64 x) (.int .i64 v)).run Try.prog w = .ok () w' ∧ MI w' b (n + 1) (fun y => if y = x then v else f y) ∧ w.grownBy w' (some b) := by
  obtain ⟨D, hD, hf⟩ := h.own
  obtain ⟨w', hrun, h1, h2⟩ := hD.update key3 u117 hn (keyOf_int_mk Try.underlying3 hx) (plainElem_int Try.underlying3 hv)
  refine ⟨w', hrun, ⟨_, h1, fun y hy => ?_⟩, h2⟩
  split
  · rename_i e
    subst e
    obtain ⟨es, clock, _, _, _, rfl⟩ := hD
    exact atKey_put_same ⟨_, rfl⟩ (key3.key (keyOf_int_mk Try.underlying3 hy)) _ _
  · rename_i e
    rw [atKey_put_other (by intro he; injection he with _ he; exact e he)]
    exact hf y hy

structure MB (w : World) (b n : Nat) (f : Int → Bool) : Prop where
  own : ∃ D : DataW Unit, w.ownsMap Try.prog 3 (plainElem Try.prog 4) b n D ∧ ∀ x, wf64 x → D.atKey (.int .i64 x) (.lit (.bool false)) = .lit (.bool (f x))
theorem MB.made (w : World) : MB (w.alloc (.map #[] 0)) w.heap.size 0 (fun _ => false) := ⟨_, World.ownsMap_made _ _ _ _, fun _ _ => rfl⟩
theorem MB.kept {w w' : World} {b n : Nat} {f : Int → Bool} {row : Option Nat} (h : MB w b n f) (hg : w.grownBy w' row) (hne : some b ≠ row) : MB w' b n f := by
  obtain ⟨D, hD, hf⟩ := h.own
  exact ⟨D, hD.kept hg hne, hf⟩
theorem MB.below {w w' : World} {b n : Nat} {f : Int → Bool} (h : MB w b n f) (hb : Below w.heap.size w w') : MB w' b n f := by
  obtain ⟨D, ⟨es, clock, hb', F, hs, hD⟩, hf⟩ := h.own
  exact ⟨D, ⟨es, clock, (hb.block b (Array.getElem?_eq_some_iff.1 hb').1).trans hb', F, hs, hD⟩, hf⟩
theorem MB.lt {w : World} {b n : Nat} {f : Int → Bool} (h : MB w b n f) : b < w.heap.size := by
  obtain ⟨D, hD, _⟩ := h.own
  exact hD.lt
theorem MB.isMap {w : World} {b n : Nat} {f : Int → Bool} (h : MB w b n f) : ∃ es clock, w.heap[b]? = some (.map es clock) := by
  obtain ⟨D, ⟨es, clock, hb', _⟩, _⟩ := h.own
  exact ⟨es, clock, hb'⟩
theorem MB.look {w : World} {b n : Nat} {f : Int → Bool} (h : MB w b n f) {x : Int} (hx : wf64 x) : (Instr.lookup 55 (.map (some b)) (.int .i64 x) false).run Try.prog w = .ok (.bool (f x)) w := by
  obtain ⟨D, hD, hf⟩ := h.own
  obtain ⟨v, ps, hrun, hv⟩ := hD.lookup key3 u55 (zero4' w) (plainElem_bool Try.underlying4 false) (keyOf_int_mk Try.underlying3 hx)
  rw [hf x hx] at hv
  have : v = .bool (f x) := by
    unfold plainElem at hv
    simp only [Try.underlying4] at hv
    cases v <;> simp_all
  rw [← this]
  exact hrun
theorem MB.put {w : World} {b n : Nat} {f : Int → Bool} (h : MB w b n f) {x : Int} (v : Bool) (hx : wf64 x) (hn : n < maxLen) :
    ∃ w', (Instr.mapUpdate 55 (.map (some b)) (.int .i64 x) (.bool v)).run Try.prog w = .ok () w' ∧ MB w' b (n + 1) (fun y => if y = x then v else f y) ∧ w.grownBy w' (some b) := by
  obtain ⟨D, hD, hf⟩ := h.own
  obtain ⟨w', hrun, h1, h2⟩ := hD.update key3 u55 hn (keyOf_int_mk Try.underlying3 hx) (plainElem_bool Try.underlying4 v)
  refine ⟨w', hrun, ⟨_, h1, fun y hy => ?_⟩, h2⟩
  split
  · rename_i e
    subst e
    obtain ⟨es, clock, _, _, _, rfl⟩ := hD
    exact atKey_put_same ⟨_, rfl⟩ (key3.key (keyOf_int_mk Try.underlying3 hy)) _ _
  · rename_i e
    rw [atKey_put_other (by intro he; injection he with _ he; exact e he)]
    exact hf y hy
end Go.Proofs.Ytnmeomdjhjgnfaa.X
namespace Go.Proofs.Ytnmeomdjhjgnfaa.X
open Go.RowKit Go.Shelf Go.Proofs.YtnmeomdjhjgnfaaW.PrintWords Go.Proofs.YtnmeomdjhjgnfaaW.PrintLast Go.Proofs.YtnmeomdjhjgnfaaW.PrintMore
set_option linter.unusedVariables false
attribute [local go_sem] Oper.semAt_some

theorem numL_snoc (o : List Int) (b x : Int) : numL (o ++ [b]) x = if x = b then (o.length : Int) + 1 else numL o x := by
  unfold numL
  rw [List.reverse_append]
  simp only [List.reverse_cons, List.reverse_nil, List.nil_append, List.cons_append, numR, List.length_reverse]
  by_cases h : b = x
  · subst h; simp
  · rw [if_neg h, if_neg (fun e => h e.symm)]
theorem results_cell_bool {fn : Func} {p : Tmp} (h : fn.results = #[.cell p 4]) (tmps : Array Value) (w : World) (a : Addr) (b : Bool) (hp : tmps.getD p undef = .pointer (some a)) (hc : w.cell? a = some (.bool b)) :
    (results fn tmps).run Try.prog w = .ok (.bool b) w := by
  have hp' : tmps[p]?.getD undef = .pointer (some a) := by simpa using hp
  simp only [results, h]
  go_simp
def badE (d o : List Int) (e : Int × Int) : Bool := decide (0 < numL o e.1) && (decide (numL o e.2 ≤ numL o e.1) && !backL d e.1 e.2)
set_option maxHeartbeats 4000000 in
set_option maxRecDepth 100000 in
theorem graph_Reducible.calls (k : Nat) (A0 : Option Addr) (c0 : Nat) (l0 : List (List Int)) (r : Bool) (w : World) (hr0 : Kd.C (Kd.slice 3 (Kd.int .i64)) w A0 l0.length l0) (hc0 : l0.length ≤ c0) (h : graph_Reducible.f k l0 = some r) :
    Calls Try.prog 49 #[.slice A0 l0.length c0] w fun e w' => e = .returned (.bool r) ∧ Below w.heap.size w w' := by
  unfold graph_Reducible.f at h
  split at h
  case isFalse => cases h
  rename_i hok
  obtain ⟨d, hd, h⟩ := Option.bind_eq_some_iff.1 h
  obtain ⟨o, ho, h⟩ := Option.bind_eq_some_iff.1 h
  split at h
  case isFalse => cases h
  rename_i hdl
  obtain ⟨hdl, hol, hob⟩ := hdl
  injection h with h
  have hlen := (okG_len hok).1
  have HR := Aside0.mk hr0
  have HC0 := Aside0.mk hc0
  have HOK := Aside0.mk hok
  have HE := Aside0.mk h
  have HD := Aside0.mk hd
  have HO := Aside0.mk ho
  have HDL := Aside0.mk hdl
  have HOL := Aside0.mk hol
  have HOB := Aside0.mk hob
  clear hr0 hc0 hok h hd ho hdl hol hob
  have hmm := @run_makeMap Try.prog
  refine (callsIn_wide (n := 6)).1 ?_
  refine callsIn_of_wp_marks Try.func49 rfl trivial ?_ rfl
  simp only [Try.ntmps49, List.size_toArray, List.length_cons, List.length_nil, Nat.reduceAdd, Nat.reduceSub, Array.replicate_succ, Array.replicate_zero, List.push_toArray, List.append_toArray, List.nil_append, List.cons_append]
  refine wpIn_seq (wpIn_wide.2 ?_)
  go_wp2
  have hb0 : Below w.heap.size w (w.alloc (.cells #[.bool false] 4)) := below_alloc (Below.refl _ _) _
  have hcr := World.alloc_heap_new w (.cells #[.bool false] 4)
  obtain ⟨W1, hW1⟩ : ∃ W1, w.alloc (.cells #[.bool false] 4) = W1 := ⟨_, rfl⟩
  have hs1 : W1.heap.size = w.heap.size + 1 := by rw [← hW1]; simp
  rw [hW1] at hb0 hcr ⊢
  have HCR := Aside0.mk hcr
  have HB1 := Aside0.mk hb0
  have HS1 := Aside0.mk hs1
  clear hb0 hcr hs1 hW1
  refine wpIn_seq (wpIn_wide.2 ?_)
  go_wp2_with fail
  refine (back_calls k A0 c0 l0 d _ (Kd.C_below HR.out HB1.out) HC0.out HD.out).mono ?_
  rintro e W2 ⟨bk, Ad, cd, rfl, hbk, hbx, hRd, hB2⟩
  have HBX := Aside0.mk hbx
  have HRd := Aside0.mk hRd
  have HB2 := Aside0.mk hB2
  have hbk2 := blk_lt hbx
  clear hbx hRd hB2
  go_wp2
  refine wpIn_seq (wpIn_wide.2 ?_)
  go_wp2
  refine wpIn_seq (wpIn_wide.2 ?_)
  have hB3 : Below W2.heap.size W2 (((W2.alloc (.cells #[.func (.func 103) #[] #[.pointer (some ⟨bk, 0, none⟩)]] 53)).alloc (.map #[] 0)).alloc (.cells #[.map (some (W2.heap.size + 1))] 117)) := below_alloc (below_alloc (below_alloc (Below.refl _ _) _) _) _
  have c3 := cell_alloc' (.cells #[.map (some (W2.heap.size + 1))] 117) (cell_alloc' (.map #[] 0) (cell_new_c' W2 (.func (.func 103) #[] #[.pointer (some ⟨bk, 0, none⟩)]) 53).1)
  have c4 := (cell_new_c' ((W2.alloc (.cells #[.func (.func 103) #[] #[.pointer (some ⟨bk, 0, none⟩)]] 53)).alloc (.map #[] 0)) (.map (some (W2.heap.size + 1))) 117).1
  have hM3 := (MI.made (W2.alloc (.cells #[.func (.func 103) #[] #[.pointer (some ⟨bk, 0, none⟩)]] 53))).below (below_alloc (Below.refl _ _) (.cells #[.map (some (W2.heap.size + 1))] 117))
  have hs3 : ((((W2.alloc (.cells #[.func (.func 103) #[] #[.pointer (some ⟨bk, 0, none⟩)]] 53)).alloc (.map #[] 0)).alloc (.cells #[.map (some (W2.heap.size + 1))] 117))).heap.size = W2.heap.size + 3 := by simp
  simp only [World.size_alloc] at c4 hM3
  obtain ⟨W3, hW3⟩ : ∃ W3, (((W2.alloc (.cells #[.func (.func 103) #[] #[.pointer (some ⟨bk, 0, none⟩)]] 53)).alloc (.map #[] 0)).alloc (.cells #[.map (some (W2.heap.size + 1))] 117)) = W3 := ⟨_, rfl⟩
  rw [hW3] at hB3 c3 c4 hM3 hs3 ⊢
  have C3 := Aside0.mk c3
  have C4 := Aside0.mk c4
  have HM3 := Aside0.mk hM3
  have HB3 := Aside0.mk hB3
  have HS3 := Aside0.mk hs3
  clear hW3 c3 c4 hM3 hB3 hs3
  have HB03 := Aside0.mk (HB1.out.trans ((HB2.out.trans (HB3.out.mono HB2.out.size)).mono HB1.out.size))
  go_wp2_with fail
  refine (graph_Order.calls k A0 c0 l0 o _ (Kd.C_below HR.out HB03.out) HC0.out HO.out).mono ?_
  rintro e W4 ⟨v13, rfl, hRo, hB4⟩
  obtain ⟨Ao, co, rfl⟩ := Kd.R_slice hRo
  have HRo := Aside0.mk (Kd.R_reads' hRo).2.2
  have C34 := Aside0.mk ((hB4.cell (World.block_lt_of_cell? _ _ C3.out)).trans C3.out)
  have C44 := Aside0.mk ((hB4.cell (World.block_lt_of_cell? _ _ C4.out)).trans C4.out)
  have HM4 := Aside0.mk (HM3.out.below hB4)
  have HB4 := Aside0.mk hB4
  clear hRo hB4
  go_wp2
  go_loopg [15] o.length (fun kq v15 W' => ∃ i : Nat, v15 = .int .i64 i ∧ Aside0 (kq + i = o.length) ∧ Aside0 (MI W' (W2.heap.size + 1) i (numL (o.take i))) ∧ Aside0 (W4.grownBy W' (some (W2.heap.size + 1))))
  case atStart => exact ⟨0, rfl, ⟨rfl⟩, ⟨HM4.out⟩, ⟨⟨rfl, rfl, rfl, Nat.le_refl _, fun _ _ _ => rfl⟩⟩⟩
  case round =>
    obtain ⟨i, rfl, HI, HM, HG⟩ := hrel
    cases gk with
    | zero =>
      have hi : i = o.length := by have := HI.out; omega
      subst hi
      rw [List.take_length] at HM
      obtain ⟨es4, ck4, hmap4⟩ := HM4.out.isMap
      have hnc : ∀ r, some (W2.heap.size + 1) = some r → ∃ o : Obj, W4.heap[r]? = some o ∧ o.isCells = false := fun r e => by injection e with e; subst e; exact ⟨_, hmap4, rfl⟩
      have hs4 := HB4.out.size
      have hs3 := HS3.out
      have hs2 := HB2.out.size
      have hs1 := HS1.out
      have hK3 := cell_kept C34.out HG.out hnc
      have hK4 := cell_kept C44.out HG.out hnc
      have hB05 : Below w.heap.size w wr := (HB03.out.trans (HB4.out.mono (HB03.out.size))).grown HG.out (by omega) (fun k e => by injection e with e; omega)
      have hB15 : Below W1.heap.size W1 wr := ((HB2.out.trans (HB3.out.mono HB2.out.size)).trans (HB4.out.mono (by omega))).grown HG.out (by omega) (fun k e => by injection e with e; omega)
      have hB25 : Below (W2.heap.size) W2 wr := (HB3.out.trans (HB4.out.mono (by omega))).grown HG.out (by omega) (fun k e => by injection e with e; omega)
      have KR := Aside0.mk ((hB15.block _ (Array.getElem?_eq_some_iff.1 HCR.out).1).trans HCR.out)
      have KX := Aside0.mk ((hB25.block bk hbk2).trans HBX.out)
      have KD := Aside0.mk (Kd.C_below (Kd.R_reads' HRd.out).2.2 hB25)
      have KDc := Aside0.mk ((Kd.R_reads' HRd.out).2.1)
      have K3 := Aside0.mk hK3
      have K4 := Aside0.mk hK4
      have HB5 := Aside0.mk hB05
      have hws : w.heap.size < wr.heap.size := (Array.getElem?_eq_some_iff.1 KR.out).1
      clear hK3 hK4 hB05 hB15 hB25 hs4 hs3 hs2 hs1 hnc hmap4 HG HB4 HM4 C34 C44 HRo HB03 HB3 HM3 C3 C4 HCR HB2 HRd HBX HS3
      go_wp2
      refine wpIn_seq (wpIn_seq ?_)
      gi_wp2
      refine ⟨trivial, ?_⟩
      refine (callsIn_wide.2 (edges_calls A0 l0.length c0 _)).mono ?_
      rintro e w' ⟨rfl, rfl⟩
      gi_wp2
      have c6 := cell_new_c' wr (.slice A0 l0.length c0) 22
      have hB6 : Below wr.heap.size wr (wr.alloc (.cells #[.slice A0 l0.length c0] 22)) := below_alloc (Below.refl _ _) _
      have hs6 : (wr.alloc (.cells #[.slice A0 l0.length c0] 22)).heap.size = wr.heap.size + 1 := by simp
      obtain ⟨wL, hwL⟩ : ∃ wL, wr.alloc (.cells #[.slice A0 l0.length c0] 22) = wL := ⟨_, rfl⟩
      rw [hwL] at c6 hB6 hs6 ⊢
      have HB6 := Aside0.mk hB6
      have HS6 := Aside0.mk hs6
      clear hB6 hs6 hwL
      refine wpIn_rangeFunc_ownG rfl (by omega) (gf := 104) (lb := #[.pointer (some ⟨wr.heap.size, 0, none⟩)]) rfl trivial (enters_of Try.func104 (by kernel_rfl) rfl)
        (edges_stops 5 (by omega) wr.heap.size A0 c0 l0 HOK.out (fun _ _ => False) wL (fun _ _ _ _ h => h.elim) (fun _ h => h.elim) (Kd.C_below HR.out (HB5.out.trans (HB6.out.mono HB5.out.size))) HC0.out c6.1) EdKp.trans (EdKp.put (fun _ _ _ _ h => h.elim)) (Below.refl _ _) (fun _ => rfl)
        (fun pre W => Below wL.heap.size wL W ∧ ∀ e ∈ pre.map Subtype.val, badE d o e = false)
        (fun c pre W => (c = .ret ∧ ∃ e ∈ pre.map Subtype.val, badE d o e = true) ∧ (W.cell? ⟨w.heap.size, 0, none⟩ = some (.bool false) ∧ Below w.heap.size w W))
        (OwnFrom.and (ownFrom_below (Nat.le_refl _) (Nat.le_refl _)) (ownFrom_pure _ _))
        (fun c s A B row hs hg hr => ⟨hs.1, cell_kept hs.2.1 hg (fun r e => (hr r e).2), hs.2.2.grown hg hs.2.2.size (fun k e => by have := (hr k e).1; have := HS6.out; omega)⟩)
        ⟨Below.refl _ _, by simp⟩
        (fun x => { tmps := #[Value.slice A0 l0.length c0, undef, Value.pointer (some { block := w.heap.size, off := 0 }),
          Value.pointer (some { block := W2.heap.size, off := 0 }),
          Value.pointer (some { block := W2.heap.size + 1 + 1, off := 0 }), u5, u6, .int .i64 x.1.1, .int .i64 x.1.2,
          Value.slice A0 l0.length c0, Value.func (Fn.func 103) #[] #[Value.pointer (some { block := bk, off := 0 })],
          Value.map (some (W2.heap.size + 1)), Value.slice A0 l0.length c0, Value.slice Ao o.length co,
          Value.int IntKind.i64 ↑o.length, Value.int IntKind.i64 ↑o.length, Value.bool false, u17, u18, u19, u20, u21,
          u22, u23, u24, Value.slice A0 l0.length c0,
          Value.func (Fn.func 104) #[] #[Value.pointer (some { block := wr.heap.size, off := 0 })], .int .i64 x.1.1, .int .i64 x.1.2, undef, undef, undef, undef, undef, undef, undef, undef, undef, undef, undef, undef, undef, undef, undef, undef, undef, undef, undef, undef], defers := [] }) ?assign ?body ?done ?stop
      case assign =>
        intro l x W K hK
        simp only [edEnc]
        gi_wp2
        exact hK
      case body =>
        rintro l pre ⟨⟨a, b⟩, ha0, ha1, hb0, hb1⟩ W ⟨hB, hall⟩ hlt
        simp only at ha0 ha1 hb0 hb1
        have hbW1 : Below wr.heap.size wr W := HB6.out.trans (hB.mono HB6.out.size)
        have hc3 := (hbW1.cell (World.block_lt_of_cell? _ _ K3.out)).trans K3.out
        have hc4 := (hbW1.cell (World.block_lt_of_cell? _ _ K4.out)).trans K4.out
        have hMW := HM.out.below hbW1
        have hla := hMW.look (x := a) (wf64_of (by omega) (by omega))
        have hlb := hMW.look (x := b) (wf64_of (by omega) (by omega))
        have hhr := (hbW1.block _ hws).trans KR.out
        have hcon := back1_calls bk Ad cd d a b W ((hbW1.cell (p := ⟨bk, 0, none⟩) (Array.getElem?_eq_some_iff.1 KX.out).1).trans (cell_of_box' KX.out).1) (Kd.C_below KD.out hbW1) KDc.out (by have := HDL.out; omega) ha0 (by have := HDL.out; omega)
        have HCON := Aside0.mk hcon
        have HHR := Aside0.mk hhr
        have HALL := Aside0.mk hall
        have HB := Aside0.mk hB
        have HBWW : Aside0 (Below w.heap.size w W) := ⟨HB5.out.trans (hbW1.mono HB5.out.size)⟩
        have HFW : Aside0 (wL.heap.size ≤ W.heap.size) := ⟨hB.size⟩
        have hgood : badE d o (a, b) = false → ∀ e ∈ (pre ++ [(⟨(a, b), by omega⟩ : Ed l0.length)]).map Subtype.val, badE d o e = false := by
          intro hb e he
          rw [List.map_append, List.mem_append] at he
          rcases he with he | he
          · exact HALL.out e he
          · simp only [List.map_cons, List.map_nil, List.mem_singleton] at he
            rw [he]; exact hb
        have HGOOD := Aside0.mk hgood
        clear hcon hhr hall hB hbW1 hMW hgood
        by_cases h1 : 0 < numL o a
        · have k1 : decide (0 < numL o a) = true := decide_eq_true h1
          by_cases h2 : numL o b ≤ numL o a
          · have k2 : decide (numL o b ≤ numL o a) = true := decide_eq_true h2
            cases hback : backL d a b with
            | true =>
              rw [hback] at HCON
              gi_wp2
              refine ⟨trivial, ?_⟩
              refine (CallsIn.inRound l (callsIn_wide.2 HCON.out)).mono ?_
              rintro e W' ⟨rfl, hBW'⟩
              gi_wp2
              have hbe : badE d o (a, b) = false := by simp [badE, hback]
              exact ⟨KeepsFrom.of_below hBW', EdKp.of_below (fun _ _ _ _ h => h.elim) HFW.out hBW', HB.out.trans (hBW'.mono HFW.out), HGOOD.out hbe⟩
            | false =>
              rw [hback] at HCON
              gi_wp2
              refine ⟨trivial, ?_⟩
              refine (CallsIn.inRound l (callsIn_wide.2 HCON.out)).mono ?_
              rintro e W' ⟨rfl, hBW'⟩
              have hhr' := (hBW'.block _ (Array.getElem?_eq_some_iff.1 HHR.out).1).trans HHR.out
              obtain ⟨hcr, hfr⟩ := cell_of_box' hhr'
              gi_wp2
              have hbe : badE d o (a, b) = true := by simp [badE, hback, h1, h2]
              have hg8 := grownBy_setCell_b W' w.heap.size 0 (.bool false)
              refine ⟨(KeepsFrom.of_below hBW').trans (KeepsFrom.of_grownBy hg8 (fun j e => by injection e with e; have := HS6.out; omega)), ⟨rfl, (a, b), by simp, hbe⟩, World.cell?_setCell_same _ _ _ hcr, ?_⟩
              exact (HBWW.out.trans (hBW'.mono HBWW.out.size)).grown hg8 (by have := HBWW.out.size; have := hBW'.size; omega) (fun k e => by injection e with e; omega)
          · have k2 : decide (numL o b ≤ numL o a) = false := decide_eq_false h2
            gi_wp2
            refine ⟨fun f h => (by cases h), ?_⟩
            gi_wp2
            have hbe : badE d o (a, b) = false := by simp [badE, k2]
            exact ⟨KeepsFrom.refl _ _, EdKp.refl _ _ _, HB.out, HGOOD.out hbe⟩
        · have k1 : decide (0 < numL o a) = false := decide_eq_false h1
          gi_wp2
          refine ⟨fun f h => (by cases h), ?_⟩
          gi_wp2
          have hbe : badE d o (a, b) = false := by simp [badE, k1]
          exact ⟨KeepsFrom.refl _ _, EdKp.refl _ _ _, HB.out, HGOOD.out hbe⟩
      case done =>
        rintro D ys W hD hys ⟨hB, hall⟩ hK
        have hr : r = true := by
          rw [← HE.out]
          unfold redL
          rw [List.all_eq_true]
          intro e he
          rw [← hys] at he
          have h1 := hall e he
          unfold badE at h1
          rw [h1]; rfl
        subst hr
        have hh1 : W.heap[w.heap.size]? = some (.cells #[.bool false] 4 (0, 0)) := ((HB6.out.trans (hB.mono HB6.out.size)).block w.heap.size hws).trans KR.out
        obtain ⟨hc1, hf1⟩ := cell_of_box' hh1
        have hbW : Below w.heap.size w W := (HB5.out.trans (HB6.out.mono HB5.out.size)).trans (hB.mono (by have := HS6.out; omega))
        gi_wp2
        refine ⟨by simp, .inl ⟨_, _, rfl, run_takeDeferred ((Below.heap_setCell _ _ _ D (by have := HS6.out; simp only; omega)).trans hK), ?_⟩⟩
        refine ⟨_, results_cell_bool rfl _ _ ⟨w.heap.size, 0, none⟩ true rfl ?_, rfl, ?_⟩
        · exact cell_kept (World.cell?_setCell_same _ _ _ hc1) (grownBy_putObj' _ D _) (fun r e => by cases e; exact ⟨_, (Below.heap_setCell _ _ _ D (by have := HS6.out; simp only; omega)).trans hK, rfl⟩)
        · exact (hbW.grown (grownBy_setCell_b W w.heap.size 0 (.bool true)) hbW.size (fun k e => by injection e with e; omega)).grown (grownBy_putObj' _ D _) (by have := hbW.size; simp [World.setCell]; omega) (fun k e => by cases e; have := HS6.out; omega)
      case stop =>
        rintro D c pre W hD hpre ⟨⟨rfl, hbad⟩, hc1, hbW⟩ hK
        have hr : r = false := by
          rw [← HE.out]
          unfold redL
          rw [List.all_eq_false]
          obtain ⟨e, he, hb⟩ := hbad
          refine ⟨e, hpre.subset he, ?_⟩
          unfold badE at hb
          rw [hb]; simp
        subst hr
        gi_wp2
        refine ⟨by simp, .inl ⟨_, _, rfl, run_takeDeferred hK, ?_⟩⟩
        refine ⟨_, results_cell_bool rfl _ _ ⟨w.heap.size, 0, none⟩ false rfl ?_, rfl, ?_⟩
        · exact cell_kept hc1 (grownBy_putObj' _ D _) (fun r e => by cases e; exact ⟨_, hK, rfl⟩)
        · exact hbW.grown (grownBy_putObj' _ D _) hbW.size (fun k e => by cases e; have := HS6.out; omega)
    | succ k1 =>
      have hi : i < o.length := by have := HI.out; omega
      obtain ⟨ad, eao, hc⟩ := Kd.at_int HRo.out (i : Int) (by omega) (by omega)
      subst eao
      simp only [Int.toNat_natCast] at hc
      obtain ⟨es4, ck4, hmap4⟩ := HM4.out.isMap
      have hnc : ∀ r, some (W2.heap.size + 1) = some r → ∃ o : Obj, W4.heap[r]? = some o ∧ o.isCells = false := fun r e => by injection e with e; subst e; exact ⟨_, hmap4, rfl⟩
      have hcw : wr.cell? (ad.add i) = some (.int .i64 (rd o i)) := cell_kept hc HG.out hnc
      have hcb : wr.cell? ⟨W2.heap.size + 1 + 1, 0, none⟩ = some (.map (some (W2.heap.size + 1))) := cell_kept C44.out HG.out hnc
      have hmem : rd o i ∈ o := by
        have e : rd o i = o[i] := by simp [rd, hi]
        rw [e]; exact List.getElem_mem _
      have hbo := HOB.out _ hmem
      have hol := HOL.out
      have hwf : wf64 (rd o i) := wf64_of (by omega) (by omega)
      have hwi : wrap64 ((i : Int) + 1) = (i : Int) + 1 := by unfold wrap64; omega
      obtain ⟨W', hrun, hM', hg'⟩ := HM.out.put (v := (i : Int) + 1) hwf (wf64_of (by omega) (by omega)) (by unfold maxLen; omega)
      have HM' : Aside0 (MI W' (W2.heap.size + 1) (i + 1) (numL (o.take (i + 1)))) := ⟨by
        have e : numL (o.take (i + 1)) = fun y => if y = rd o i then (i : Int) + 1 else numL (o.take i) y := by
          funext y
          rw [take_snoc_rd o i hi, numL_snoc, List.length_take, Nat.min_eq_left (by omega)]
        rw [e]; exact hM'⟩
      have HG' := Aside0.mk (HG.out.trans hg')
      clear hM' hg' hnc hmap4 hc hbo hmem
      go_wp2
      go_roundg k1
      case measure => omega
      case rel => exact ⟨i + 1, by go_num, ⟨by have := HI.out; omega⟩, HM', HG'⟩
end Go.Proofs.Ytnmeomdjhjgnfaa.X
