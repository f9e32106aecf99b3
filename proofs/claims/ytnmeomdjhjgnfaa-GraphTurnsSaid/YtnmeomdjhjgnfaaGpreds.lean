/- graph.Preds, by hand: a range over graph.edges whose body appends to a row of rows. -/
import Derived.RangeFuncNested
import Derived.RangeFuncBound
import Derived.RangeFuncCalls
import Derived.RangeFuncLeaves
import Derived.WalkKit
import Derived.OwnWalkIn
import Derived.TacticsInMore
import Derived.Test.YtnmeomdjhjgnfaaGedges
import Derived.WalkMore
set_option linter.unusedSimpArgs false
/-! A region within a round of a range over a function, by its plain walk: what the fence asks beyond is nothing (Fence.wide). -/
namespace Go
variable {l n : Nat} {P : Program} {ops : Array Oper} {Q : Exit → Act → World → Prop} {a : Act} {w : World}

theorem Oper.wp_inRound {o : Oper} {next : Act → World → Prop} (hd : ∀ c, o.op ≠ .defer c) (h : o.wp P a w next Q) : o.wpIn (Fence.wide.inRound l) n P a w next Q := by
  refine ⟨fun _ _ => trivial, ?_⟩
  rw [Oper.semAt_eq _ _ _ hd]
  unfold Oper.wp at h
  generalize (execOp a.eval o).run P w = r at h ⊢
  cases r with
  | ok x w' =>
    cases x with
    | value v => exact h
    | skip => exact h
    | defer d => exact h
    | enter f args => exact ⟨fun hh => by simp [Fence.wide] at hh, CallsIn.inRound l (callsIn_wide.2 h)⟩
    | row row args => exact ⟨fun hh => by simp [Fence.wide] at hh, fun c cs _ => let ⟨v, w', r, s⟩ := h c cs; ⟨v, w', r, (stepsIn_wide (P := P)).2 s⟩⟩
    | _ => exact h.elim
  | halt s w' => cases s <;> exact h

def noDefer (ops : Array Oper) : Bool := ops.all fun o => match o.op with | .defer _ => false | _ => true
theorem noDefer_at (h : noDefer ops = true) {i : Nat} {o : Oper} (ho : ops[i]? = some o) : ∀ c, o.op ≠ .defer c := by
  intro c hc
  have := (Array.all_eq_true.1 h) i (Array.getElem?_eq_some_iff.1 ho).1
  rw [(Array.getElem?_eq_some_iff.1 ho).2, hc] at this
  cases this

theorem wpOps_inRound (hd : noDefer ops = true) (hQ : ¬ LetsOut Q) : ∀ (is : List Nat) (a : Act) (w : World), wpOps P ops Q is a w → wpOpsIn (Fence.wide.inRound l) n P ops Q is a w
  | [], _, _, h => h
  | i :: rest, a, w, h => by
    have ih := wpOps_inRound hd hQ rest
    unfold wpOps at h
    unfold wpOpsIn
    cases ho : ops[i]? with
    | none => simp only [ho] at h ⊢; exact ih _ _ h
    | some o =>
      simp only [ho] at h ⊢
      split
      · rename_i hw
        rw [if_pos hw] at h
        rcases h with h | h
        · exact Oper.wp_inRound (noDefer_at hd ho) (Oper.wp_mono ih h)
        · exact absurd h.2 hQ
      · rename_i hw
        rw [if_neg hw] at h
        exact ⟨fun _ _ => trivial, ih _ _ h⟩

/-- A region that draws its order. -/
theorem wpIn_draw_plain {id : Nat} {l' : List Oper} (hm : P.follows .mixedOrders = true) (hd : noDefer l'.toArray = true) (hQ : ¬ LetsOut Q)
    (h : wpAny P .any l'.toArray Q l'.toArray.size (Array.replicate l'.toArray.size false) a w.drew) : (Code.region id l'.toArray true).wpIn (Fence.wide.inRound l) n P Q a w :=
  wpIn_region_draw fun t => by
    simp only [Region.schedule, hm, Bool.true_or, if_true]
    exact wpOps_inRound hd hQ _ _ _ (wpAny_sound _ t _ a _ h)

theorem wpIn_list_plain {id : Nat} {l' : List Oper} (hd : noDefer l'.toArray = true) (hQ : ¬ LetsOut Q)
    (h : wpList P l'.toArray Q l' a w) : (Code.region id l'.toArray false).wpIn (Fence.wide.inRound l) n P Q a w := by
  refine wpIn_region ?_
  refine wpOps_inRound hd hQ _ _ _ ?_
  rw [List.range_eq_range', show l'.toArray.size = l'.length from rfl, wpOps_eq_wpList l' 0 (by simp)]
  exact h

theorem notOut_then {K : Act → World → Prop} {Q' : Exit → Act → World → Prop} (h : ¬ LetsOut Q') : ¬ LetsOut (Exit.then K Q') := fun ⟨a, w, h'⟩ => h ⟨a, w, h'⟩
end Go
namespace Go.Proofs.Ytnmeomdjhjgnfaa.X
open Go.RowKit Go.Shelf Go.Proofs.YtnmeomdjhjgnfaaW.PrintWords Go.Proofs.YtnmeomdjhjgnfaaW.PrintLast Go.Proofs.YtnmeomdjhjgnfaaW.PrintMore
set_option linter.unusedVariables false
attribute [local go_sem] Oper.semAt_some

theorem S_nocells {α : Type} {d : Kd α} {e base : Nat} {ok : Nat → Prop} {W W' : World} {v : Value} {xs : List α} {row : Option Nat} (h : Kd.S d e W base ok v xs) (hg : W.grownBy W' row)
    (hr : ∀ r, row = some r → ∃ o : Obj, W.heap[r]? = some o ∧ o.isCells = false) : Kd.S d e W' base ok v xs := by
  refine Kd.S_mono (Kd.S_grown (Kd.S_bound h) hg (fun k hk he => ?_)) (fun _ hk => hk.1)
  obtain ⟨_, _, _, q, _, cells, hc⟩ := hk
  obtain ⟨o, ho, hn⟩ := hr k he.symm
  rw [hc] at ho; cases ho; cases hn
theorem cell_of_box' {W : World} {B : Nat} {v : Value} {t : TypeId} (h : W.heap[B]? = some (.cells #[v] t (0, 0))) : W.cell? ⟨B, 0, none⟩ = some v ∧ W.frozen? ⟨B, 0, none⟩ = false := by
  constructor <;> simp [World.cell?, World.frozen?, h]
theorem cell_new_c' (W : World) (v : Value) (t : TypeId) : (W.alloc (.cells #[v] t)).cell? ⟨W.heap.size, 0, none⟩ = some v ∧ (W.alloc (.cells #[v] t)).frozen? ⟨W.heap.size, 0, none⟩ = false :=
  cell_of_box' (World.alloc_heap_new W _)
/-- The box of the rows' slice, the rows. -/
structure PrIn (w : World) (bx n c : Nat) (AR : Option Addr) (rows : List (List Int)) (W : World) : Prop where
  cell : W.cell? ⟨bx, 0, none⟩ = some (.slice AR n c)
  dim : rows.length = n
  own : Kd.S (Kd.slice 3 (Kd.int .i64)) 23 W w.heap.size (fun k => k ≠ bx) (.slice AR n c) rows
  below : Below w.heap.size w W
theorem cell_alloc' {W : World} {a : Addr} {v : Value} (o : Obj) (h : W.cell? a = some v) : (W.alloc o).cell? a = some v := cell_kept h (World.grownBy_alloc W o none) (fun r e => by cases e)
/-- The rows' own blocks. -/
def PrM (AR : Option Addr) (n : Nat) (W : World) (k : Nat) : Prop := ∃ ad i v, AR = some ad ∧ i < n ∧ W.cell? ⟨ad.block, i, none⟩ = some v ∧ v.ownBlock = some k
theorem PrM.told {AR : Option Addr} {n B : Nat} (h : ∀ ad, AR = some ad → ad.block < B) : Told B (PrM AR n) := by
  rintro W W' hb k ⟨ad, i, v, rfl, hi, hc, hk⟩
  exact ⟨ad, i, v, rfl, hi, (World.cell?_of_block (a := ⟨ad.block, i, none⟩) (hb _ (h ad rfl))).symm.trans hc, hk⟩
theorem PrIn.kept {w : World} {bx n c : Nat} {AR : Option Addr} {rows : List (List Int)} {W W' : World} {row : Option Nat} (h : PrIn w bx n c AR rows W) (hg : W.grownBy W' row)
    (hr : ∀ r, row = some r → w.heap.size ≤ r ∧ ∃ o : Obj, W.heap[r]? = some o ∧ o.isCells = false) : PrIn w bx n c AR rows W' :=
  ⟨cell_kept h.cell hg (fun r e => (hr r e).2), h.dim, S_nocells h.own hg (fun r e => (hr r e).2), h.below.grown hg h.below.size (fun k e => (hr k e).1)⟩
theorem grownBy_setCell_b (w : World) (b i : Nat) (v : Value) : w.grownBy (w.setCell ⟨b, i, none⟩ v) (some b) :=
  ⟨rfl, rfl, rfl, by simp [World.setCell], fun k _ hk => Below.heap_setCell w ⟨b, i, none⟩ v k (fun h => hk (by rw [h]))⟩
/-- What a round of Preds does to memory: one row has grown or moved, one cell of the rows was written. -/
theorem PrM.round {B g n b : Nat} {W W7 : World} {v18 v21 : Value} {e : TypeId} {cells : Array Value} (hgc : W.heap[g]? = some (.cells cells e (0, 0))) (hB : g < B) (hb : b < n)
    (hc : W.cell? ⟨g, b, none⟩ = some v18) (hne : v18.ownBlock ≠ some g) (ht : ∀ k, v18.ownBlock = some k → ∃ c q, W.heap[k]? = some (.cells c q (0, 0)))
    (hg7 : W.grownBy W7 v18.ownBlock) (hat : v21.ownBlock = v18.ownBlock ∨ ∃ k, v21.ownBlock = some k ∧ W.heap.size ≤ k) :
    KeepsFrom B W (W7.setCell ⟨g, b, none⟩ v21) ∧ EdKp B (PrM (some ⟨g, 0, none⟩) n) W (W7.setCell ⟨g, b, none⟩ v21) := by
  have hs7 := hg7.size
  have hs8 : (W7.setCell ⟨g, b, none⟩ v21).heap.size = W7.heap.size := by simp [World.setCell]
  have hblk : ∀ k, k < W.heap.size → some k ≠ v18.ownBlock → k ≠ g → (W7.setCell ⟨g, b, none⟩ v21).heap[k]? = W.heap[k]? := fun k hk h1 h2 =>
    (Below.heap_setCell W7 ⟨g, b, none⟩ v21 k h2).trans (hg7.block k hk h1)
  have h7g : W7.heap[g]? = W.heap[g]? := hg7.block g (blk_lt hgc) (fun h => hne h.symm)
  refine ⟨⟨by omega, fun k o hBk hk hn => ?_⟩, ⟨by omega, fun k c t f hBk hM hk => ?_, ?_⟩⟩
  · refine (hblk k (Array.getElem?_eq_some_iff.1 hk).1 (fun h => ?_) (by omega)).trans hk
    obtain ⟨c, q, h2⟩ := ht k h.symm
    rw [hk] at h2
    injection h2 with h2
    subst h2
    cases hn
  · exact (hblk k (Array.getElem?_eq_some_iff.1 hk).1 (fun h => hM ⟨_, b, v18, rfl, hb, hc, h.symm⟩) (by omega)).trans hk
  · rintro k ⟨ad, i, v, ead, hi, hv, hk⟩
    injection ead with ead
    subst ead
    by_cases hib : i = b
    · subst hib
      have h7c : W7.cell? ⟨g, i, none⟩ = some v18 := (World.cell?_of_block (a := ⟨g, i, none⟩) h7g).trans hc
      rw [show (W7.setCell ⟨g, i, none⟩ v21).cell? ⟨g, i, none⟩ = some v21 from World.cell?_setCell_same _ _ _ h7c] at hv
      injection hv with hv
      subst hv
      rcases hat with h | ⟨k', h, hk'⟩
      · exact .inl ⟨_, i, v18, rfl, hi, hc, h ▸ hk⟩
      · rw [h] at hk; injection hk with hk; omega
    · rw [show (W7.setCell ⟨g, b, none⟩ v21).cell? ⟨g, i, none⟩ = W.cell? ⟨g, i, none⟩ from (World.cell?_setCell_other _ _ _ _ (fun h => hib (by injection h with _ h2 _; exact h2.symm))).trans (World.cell?_of_block (a := ⟨g, i, none⟩) h7g)] at hv
      exact .inl ⟨_, i, v, rfl, hi, hv, hk⟩
theorem preds_len (es : List (Int × Int)) : ∀ (rows : List (List Int)) (k : Nat), (∀ r ∈ rows, r.length ≤ k) → ∀ r : List Int, r = [] ∨ r ∈ es.foldl predStep rows → r.length ≤ k + es.length := by
  induction es with
  | nil => intro rows k h r hr; rcases hr with rfl | hr; simp; exact h r hr
  | cons e es ih =>
    intro rows k h r hr
    have := ih (predStep rows e) (k + 1) (fun r hr => ?_) r hr
    · simp only [List.length_cons]; omega
    · rcases List.mem_or_eq_of_mem_set hr with hr | rfl
      · exact Nat.le_succ_of_le (h r hr)
      · simp only [List.length_append, List.length_cons, List.length_nil]
        have h2 : (rows.getD e.2.toNat []).length ≤ k := by
          rcases Nat.lt_or_ge e.2.toNat rows.length with h1 | h1
          · simpa [h1] using h _ (List.getElem_mem h1)
          · simp [h1]
        omega
theorem getD_mem (l : List (List Int)) (i : Nat) : l.getD i [] = [] ∨ l.getD i [] ∈ l := by
  rcases Nat.lt_or_ge i l.length with h | h
  · exact .inr (by simp [h])
  · exact .inl (by simp [h])
theorem edgesFrom_length (n : Nat) : ∀ (rows : List (List Int)) (i : Nat), (∀ r ∈ rows, r.length ≤ n) → (edgesFrom i rows).length ≤ rows.length * n
  | [], _, _ => by simp [edgesFrom]
  | r :: rows, i, h => by
    have h1 := edgesFrom_length n rows (i + 1) (fun r hr => h r (List.mem_cons_of_mem _ hr))
    have h2 := h r List.mem_cons_self
    simp only [edgesFrom, List.length_append, List.length_map, List.length_cons, Nat.succ_mul]
    omega
theorem edgesL_length (g : List (List Int)) : (edgesL g).length ≤ g.length * g.length := by
  have := edgesFrom_length g.length (cleanL g) 0 (fun r hr => by
    obtain ⟨row, _, rfl⟩ := List.mem_map.1 hr
    have := keptL_length row g.length
    omega)
  rwa [cleanL_length] at this
set_option maxHeartbeats 4000000 in
set_option maxRecDepth 100000 in
theorem graph_Preds.calls (A0 : Option Addr) (c0 : Nat) (l0 : List (List Int)) (r : List (List Int)) (w : World) (hr0 : Kd.C (Kd.slice 3 (Kd.int .i64)) w A0 l0.length l0) (hc0 : l0.length ≤ c0) (h : graph_Preds.f l0 = some r) :
    Calls Try.prog 47 #[.slice A0 l0.length c0] w fun e w' => ∃ v0_ : Value, e = .returned (v0_) ∧ Kd.S (Kd.slice 3 (Kd.int .i64)) 23 w' w.heap.size (fun _ => True) v0_ r ∧ Below w.heap.size w w' := by
  unfold graph_Preds.f at h
  split at h
  case isFalse => cases h
  rename_i hok
  injection h with h
  have hlen := (okG_len hok).1
  have HR := Aside0.mk hr0
  have HC0 := Aside0.mk hc0
  have HOK := Aside0.mk hok
  clear hr0 hc0 hok
  have HE := Aside0.mk h
  clear h
  refine (callsIn_wide (n := 6)).1 ?_
  refine callsIn_of_wp_marks Try.func47 rfl trivial ?_ rfl
  simp only [Try.ntmps47, List.size_toArray, List.length_cons, List.length_nil, Nat.reduceAdd, Nat.reduceSub, Array.replicate_succ, Array.replicate_zero, List.push_toArray, List.append_toArray, List.nil_append, List.cons_append]
  refine wpIn_seq (wpIn_wide.2 ?_)
  go_wp2
  refine wpIn_seq (wpIn_wide.2 ?_)
  have hl30 : 0 ≤ (l0.length : Int) := by omega
  go_wp2_with ((with_reducible refine gate_dst (N := 8) rfl ?_); refine Kd.S_make (Kd.slice 3 (Kd.int .i64)) (w0 := w) w.heap.size 23 rfl (N := 8) rfl 22 _ _ rfl (l0.length : Int) rfl rfl Try.underlying22 (.slice none 0 0) 24 info23 rfl (by decide) (by omega) [] (ok := fun _ => True) (okp := fun _ => True) ⟨_, rfl, Kd.R_nil _ _ _ _ _⟩ (fun _ hk => hk) trivial (by omega) (by omega) (Below.refl _ _) (Nat.le_refl _) ?_; intro v8 w4 ho5 hb hg_ hnew_; obtain ⟨AR, cR, rfl, _, _⟩ := Kd.S_reads ho5; clear hg_ hnew_)
  have HB4 := Aside0.mk hb
  have hn : (List.replicate (l0.length : Int).toNat ([] : List Int)).length = l0.length := by simp
  have hcc := cell_new_c' w4 (.slice AR l0.length cR) 22
  rw [hn] at ho5
  have HW4 := Aside0.mk ho5
  clear ho5 hb
  refine wpIn_seq (wpIn_seq ?_)
  gi_wp2
  refine ⟨trivial, ?_⟩
  refine (callsIn_wide.2 (edges_calls A0 l0.length c0 _)).mono ?_
  rintro e w' ⟨rfl, rfl⟩
  gi_wp2
  have hMd : Told (w4.heap.size + 2) (PrM AR l0.length) := PrM.told (fun ad e => by
    have := Kd.S_lt HW4.out ad.block (by rw [e]; rfl); omega)
  have hMW : ∀ k, PrM AR l0.length ((w4.alloc (Obj.cells #[Value.slice AR l0.length cR] 22)).alloc (Obj.cells #[Value.slice A0 l0.length c0] 22)) k → k < w4.heap.size + 2 := by
    rintro k ⟨ad, i, v, rfl, hi, hc, hk⟩
    obtain ⟨g, rfl⟩ := Kd.R_head (Kd.S_R HW4.out)
    obtain ⟨Ar, cr, h1, h2⟩ := row_own HW4.out i hi
    have h3 : (⟨g, 0, none⟩ : Addr).add i = ⟨g, i, none⟩ := by rw [Addr.add_lit, Nat.zero_add]
    rw [h3] at h1
    have h4 := World.block_lt_of_cell? _ _ h1
    have h5 := hc.symm.trans ((((Below.refl w4.heap.size w4).alloc (Nat.le_refl _) _).alloc (by simp) _).cell (p := ⟨g, i, none⟩) h4 |>.trans h1)
    injection h5 with h5
    subst h5
    have := Kd.R_lt h2 k hk
    omega
  have hbxe := cell_new_c' (w4.alloc (Obj.cells #[Value.slice AR l0.length cR] 22)) (.slice A0 l0.length c0) 22
  have hB2 : Below w4.heap.size w4 ((w4.alloc (Obj.cells #[Value.slice AR l0.length cR] 22)).alloc (Obj.cells #[Value.slice A0 l0.length c0] 22)) := ((Below.refl _ w4).alloc (Nat.le_refl _) _).alloc (by simp) _
  simp only [World.size_alloc] at hbxe
  obtain ⟨wL, hwL⟩ : ∃ wL, (w4.alloc (Obj.cells #[Value.slice AR l0.length cR] 22)).alloc (Obj.cells #[Value.slice A0 l0.length c0] 22) = wL := ⟨_, rfl⟩
  have hsz : wL.heap.size = w4.heap.size + 2 := by rw [← hwL]; simp
  have HI0 : Aside0 (PrIn w w4.heap.size l0.length cR AR (List.replicate l0.length []) wL) := ⟨by
    rw [← hwL]
    refine ⟨cell_alloc' _ hcc.1, by simp, Kd.S_below (Kd.S_mono (Kd.S_bound HW4.out) (fun k hk => Nat.ne_of_lt hk.2.2.1)) hB2, below_alloc (below_alloc HB4.out _) _⟩⟩
  rw [hwL] at hMW hbxe hB2 ⊢
  rw [← hsz] at hMd hMW
  refine wpIn_rangeFunc_ownG rfl (by omega) (gf := 104) (lb := #[.pointer (some ⟨w4.heap.size + 1, 0, none⟩)]) rfl trivial (enters_of Try.func104 (by kernel_rfl) rfl)
    (edges_stops 5 (by omega) (w4.heap.size + 1) A0 c0 l0 HOK.out (PrM AR l0.length) wL hMd hMW (Kd.C_below HR.out (HB4.out.trans (hB2.mono HB4.out.size))) HC0.out hbxe.1) EdKp.trans (EdKp.put hMd) (Below.refl _ _) (fun _ => rfl)
    (fun pre W => PrIn w w4.heap.size l0.length cR AR ((pre.map Subtype.val).foldl predStep (List.replicate l0.length [])) W)
    (fun _ _ _ => False)
    (fun s A B row hs hg hr => hs.kept hg (fun r e => ⟨by have := (hr r e).1; have := HB4.out.size; omega, (hr r e).2⟩))
    (fun _ _ _ _ _ hs _ _ => hs)
    HI0.out
    (fun x => { tmps := #[Value.slice A0 l0.length c0, undef, Value.slice none 0 0, Value.pointer (some { block := w4.heap.size, off := 0 }), .int .i64 x.1.1, .int .i64 x.1.2, Value.slice A0 l0.length c0,
          Value.int IntKind.i64 ↑l0.length, Value.slice AR l0.length cR, Value.slice A0 l0.length c0,
          Value.func (Fn.func 104) #[] #[Value.pointer (some { block := w4.heap.size + 1, off := 0 })], .int .i64 x.1.1, .int .i64 x.1.2,
          undef, undef, undef, undef, undef, undef, undef, undef, undef, undef, undef], defers := [] }) ?assign ?body ?done ?stop
  case assign =>
    intro l x W K hK
    simp only [edEnc]
    gi_wp2
    exact hK
  case body =>
    rintro l pre ⟨⟨a, b⟩, ha0, ha1, hb0, hb1⟩ W hI hlt
    have hgB : ∀ ad, AR = some ad → ad.block < w4.heap.size := fun ad e => Kd.S_lt HW4.out ad.block (by rw [e]; rfl)
    clear hMd hMW hB2 hcc hbxe HI0 hwL HW4
    simp only at ha0 ha1 hb0 hb1
    have hI' := hI
    obtain ⟨rows, hrows⟩ : ∃ rows, (pre.map Subtype.val).foldl predStep (List.replicate l0.length []) = rows := ⟨_, rfl⟩
    rw [hrows] at hI
    have hfin : ∀ W', PrIn w w4.heap.size l0.length cR AR (rows.set b.toNat (rows.getD b.toNat [] ++ [a])) W' → PrIn w w4.heap.size l0.length cR AR (((pre ++ [(⟨(a, b), by omega⟩ : Ed l0.length)]).map Subtype.val).foldl predStep (List.replicate l0.length [])) W' := by
      intro W' h'
      rw [List.map_append, List.foldl_append, hrows]
      exact h'
    have HFIN := Aside0.mk hfin
    have HRL : Aside0 ((rows.getD b.toNat []).length + 1 ≤ 1000000000001) := ⟨by
      have h1 := preds_len (pre.map Subtype.val) (List.replicate l0.length []) 0 (fun r hr => by rw [List.eq_of_mem_replicate hr]; simp) (rows.getD b.toNat []) (by rw [hrows]; exact getD_mem _ _)
      rw [List.length_map] at h1
      have h2 := edgesL_length l0
      have h3 : l0.length * l0.length ≤ 1000000 * 1000000 := Nat.mul_le_mul hlen hlen
      omega⟩
    clear hfin hrows
    obtain ⟨hcell, hdim, hown, hbel⟩ := hI
    obtain ⟨g, cg, eg, hg0, hg1, cells, hgc⟩ := Kd.S_form hown (by omega)
    rw [hdim] at eg
    injection eg with e1 e2 e3
    subst e1
    subst e3
    have hgB := hgB _ rfl
    simp only at hgB
    have hbxW : w4.heap.size < W.heap.size := World.block_lt_of_cell? _ _ hcell
    obtain ⟨oki, c, hcl, hM, hcj, hoki, hH⟩ := Kd.S_lend (Kd.S_mono (ok' := fun k => k ≠ w4.heap.size ∧ k < W.heap.size) (Kd.S_bound hown) (fun k hk => ⟨hk.1, hk.2.2.1⟩)) [] b hb0 (by omega)
    obtain ⟨row, hrow⟩ : ∃ row, rows.getD b.toNat [] = row := ⟨_, rfl⟩
    rw [hrow] at hM HFIN HRL
    obtain ⟨v18, rfl, hR18⟩ := hM
    have hc18 := hcj 0 v18 rfl
    simp only [show (Kd.slice 3 (Kd.int .i64)).sz = 1 from rfl, Nat.mul_one, Nat.add_zero] at hc18
    obtain ⟨A18, c18, rfl⟩ := Kd.R_slice hR18
    have HH := Aside0.mk hH
    have HR18 := Aside0.mk hR18
    have HOKI := Aside0.mk hoki
    have HBEL := Aside0.mk hbel
    have HGC := Aside0.mk hgc
    clear hH hR18 hoki hbel hgc hcl hcj hown hrow
    gi_wp2
    refine wpIn_mono (Q := Exit.then (fun _ W' => KeepsFrom wL.heap.size W W' ∧ EdKp wL.heap.size (PrM (some ⟨g, 0, none⟩) l0.length) W W' ∧ PrIn w w4.heap.size l0.length cR (some ⟨g, 0, none⟩) (rows.set b.toNat (row ++ [a])) W') (fun _ _ _ => False)) ?reg ?post
    case post =>
      intro e a' W' h'
      cases e <;> first | exact h'.elim | exact ⟨h'.1, h'.2.1, HFIN.out _ h'.2.2⟩
    case reg =>
      refine wpIn_draw_plain (by kernel_rfl) (by kernel_rfl) (fun ⟨_, _, h'⟩ => h') (wpAny_of_last (S := fun w' => w'.cell? ⟨w4.heap.size, 0, none⟩ = some (.slice (some ⟨g, 0, none⟩) l0.length cR) ∧ w'.cell? ⟨g, b.toNat, none⟩ = some (.slice A18 row.length c18)) (ds := [10]) _ _ _ _ ?_)
      have hHeld : (fun w' : World => w'.cell? ⟨w4.heap.size, 0, none⟩ = some (.slice (some ⟨g, 0, none⟩) l0.length cR) ∧ w'.cell? ⟨g, b.toNat, none⟩ = some (.slice A18 row.length c18)) W.drew := ⟨hcell, hc18⟩
      have H1 := Aside0.mk (Kd.H_drew HH.out)
      have R1 := Aside0.mk (Kd.R_drew HR18.out)
      have B1 := Aside0.mk (below_drew HBEL.out)
      have E1 : Aside0 (∀ W7, W.drew.grownBy W7 (Value.slice A18 row.length c18).ownBlock → W.grownBy W7 (Value.slice A18 row.length c18).ownBlock) := ⟨fun W7 h => ⟨h.os, h.tape, h.output, h.size, h.block⟩⟩
      have S1 : Aside0 (W.drew.heap.size = W.heap.size) := ⟨rfl⟩
      obtain ⟨W1, hW1⟩ : ∃ W1, W.drew = W1 := ⟨_, rfl⟩
      rw [hW1] at hHeld H1 R1 B1 E1 S1 ⊢
      clear hW1
      have hHeld1 := Aside0.mk hHeld
      show wpAnyLast Try.prog .any _ _ _ _ 11 #[false, false, false, false, false, false, false, false, false, false, false] _ _
      refine take_ (i := 0) (N := some 13) (v := ?_) (a' := ?_) #[true, false, false, false, false, false, false, false, false, false, false] rfl rfl (by kernel_rfl) (fun _ _ _ h => h) (Or.inl ⟨by rfl, ?_⟩) (by assumption) ?_ ?_
      rotate_left
      · rintro w' ⟨s0, s1⟩
        go_simp
        with_reducible rfl
      rotate_left
      · simp only [Act.put, List.setIfInBounds_toArray, List.set_cons_zero, List.set_cons_succ]
        rfl
      refine pure_ (i := 1) (N := some 14) (v := ?_) (a' := ?_) #[true, true, false, false, false, false, false, false, false, false, false] rfl rfl (by kernel_rfl) (fun _ _ _ h => h) (Or.inl ⟨by rfl, ?_⟩) ?_ ?_
      rotate_left
      · intro w'
        go_simp
        with_reducible rfl
      rotate_left
      · simp only [Act.put, List.setIfInBounds_toArray, List.set_cons_zero, List.set_cons_succ]
        rfl
      refine take_ (i := 2) (N := some 15) (v := ?_) (a' := ?_) #[true, true, true, false, false, false, false, false, false, false, false] rfl rfl (by kernel_rfl) (fun _ _ _ h => h) (Or.inl ⟨by rfl, ?_⟩) (by assumption) ?_ ?_
      rotate_left
      · rintro w' ⟨s0, s1⟩
        go_simp
        with_reducible rfl
      rotate_left
      · simp only [Act.put, List.setIfInBounds_toArray, List.set_cons_zero, List.set_cons_succ]
        rfl
      refine pure_ (i := 3) (N := some 16) (v := ?_) (a' := ?_) #[true, true, true, true, false, false, false, false, false, false, false] rfl rfl (by kernel_rfl) (fun _ _ _ h => h) (Or.inl ⟨by rfl, ?_⟩) ?_ ?_
      rotate_left
      · intro w'
        go_simp
        with_reducible rfl
      rotate_left
      · simp only [Act.put, List.setIfInBounds_toArray, List.set_cons_zero, List.set_cons_succ]
        rfl
      refine pure_ (i := 4) (N := some 17) (v := ?_) (a' := ?_) #[true, true, true, true, true, false, false, false, false, false, false] rfl rfl (by kernel_rfl) (fun _ _ _ h => h) (Or.inl ⟨by rfl, ?_⟩) ?_ ?_
      rotate_left
      · intro w'
        go_simp
        with_reducible rfl
      rotate_left
      · simp only [Act.put, List.setIfInBounds_toArray, List.set_cons_zero, List.set_cons_succ]
        rfl
      refine take_ (i := 5) (N := some 18) (v := ?_) (a' := ?_) #[true, true, true, true, true, true, false, false, false, false, false] rfl rfl (by kernel_rfl) (fun _ _ _ h => h) (Or.inl ⟨by rfl, ?_⟩) (by assumption) ?_ ?_
      rotate_left
      · rintro w' ⟨s0, s1⟩
        go_simp
        with_reducible rfl
      rotate_left
      · simp only [Act.put, List.setIfInBounds_toArray, List.set_cons_zero, List.set_cons_succ]
        rfl
      refine pure_ (i := 6) (N := some 19) (v := ?_) (a' := ?_) #[true, true, true, true, true, true, true, false, false, false, false] rfl rfl (by kernel_rfl) (fun _ _ _ h => h) (Or.inl ⟨by rfl, ?_⟩) ?_ ?_
      rotate_left
      · intro w'
        go_simp
        with_reducible rfl
      rotate_left
      · simp only [Act.put, List.setIfInBounds_toArray, List.set_cons_zero, List.set_cons_succ]
        rfl
      refine one_ (i := 7) (N := some 20) #[true, true, true, true, true, true, true, true, false, false, false] rfl rfl (by kernel_rfl) (by decide) (fun K hK => ?_)
      refine value_ (w1 := ?_) (v := ?_) (by rfl) rfl ?_ ?_
      rotate_left 2
      · go_simp
        constructor
        · rfl
        · rfl
      refine hK.out _ _ ⟨cell_alloc' _ hHeld.1, cell_alloc' _ hHeld.2⟩ ?_
      intro hHeld
      clear hK K
      refine norm_ (a' := ?_) ?_ ?_
      rotate_left
      · show Act.put _ (some 20) _ = _
        simp only [Act.put, List.setIfInBounds_toArray, List.set_cons_zero, List.set_cons_succ]
        rfl
      refine one_ (i := 8) (N := some 21) #[true, true, true, true, true, true, true, true, true, false, false] rfl rfl (by kernel_rfl) (by decide) (fun K hK => ?_)
      refine Kd.R_append_step (Kd.int .i64) (w0 := w) (W := W1) w.heap.size (by rfl) (.tmp 18) (.tmp 20) 23 3 (.int .i64 0) 8 rfl Try.underlying23 info3 rfl (by decide) (by omega) (.slice A18 row.length c18) row a [.int .i64 a] (fun k => oki k ∨ W.heap.size ≤ k) (fun _ => False) rfl rfl ?aP (fun _ hk => hk.elim) ?aF ?aO ?aB ?aS ?aL ?_
      case aP => rfl
      case aF => intro k hk; exact .inr (S1.out ▸ hk)
      case aO => exact Kd.R_mono R1.out (fun _ hk => .inl hk)
      case aB => exact B1.out
      case aS => exact B1.out.size
      case aL => exact Nat.le_trans (Nat.mul_le_mul_right 8 (show row.length + 1 ≤ 1000000000001 from HRL.out)) (by omega)
      intro v21 W7 hR7 hb7 hg7 hat7
      have hA : ∀ k, (Value.slice A18 row.length c18).ownBlock = some k → oki k := R1.out.1
      refine hK.out _ _ ⟨(World.cell?_of_block (hg7.block _ (by have := World.block_lt_of_cell? _ _ hHeld1.out.1; exact this) (fun h => ((HOKI.out _ (hA _ h.symm)).1.1 rfl)))).trans hHeld1.out.1, (World.cell?_of_block (hg7.block _ (by have := World.block_lt_of_cell? _ _ hHeld1.out.2; exact this) (fun h => ((HOKI.out _ (hA _ h.symm)).2 rfl)))).trans hHeld1.out.2⟩ ?_
      intro hHeld
      clear hK K
      obtain ⟨A21, c21, rfl⟩ := Kd.R_slice hR7
      refine norm_ (a' := ?_) ?_ ?_
      rotate_left
      · show Act.put _ (some 21) _ = _
        simp only [Act.put, List.setIfInBounds_toArray, List.set_cons_zero, List.set_cons_succ]
        rfl
      refine pure_ (i := 9) (N := some 22) (v := ?_) (a' := ?_) #[true, true, true, true, true, true, true, true, true, true, false] rfl rfl (by kernel_rfl) (fun _ _ _ h => h) (Or.inl ⟨by rfl, ?_⟩) ?_ ?_
      rotate_left
      · intro w'
        go_simp
        with_reducible rfl
      rotate_left
      · simp only [Act.put, List.setIfInBounds_toArray, List.set_cons_zero, List.set_cons_succ]
        rfl
      refine last_ (i := 10) (N := none) #[true, true, true, true, true, true, true, true, true, true, true] rfl rfl (by kernel_rfl) (by decide) (fun K hK => ?_)
      have hg7W := E1.out _ hg7
      have hneg : (Value.slice A18 row.length c18).ownBlock ≠ some g := fun h => (HOKI.out g (hA g h)).2 rfl
      have h7g : W7.heap[g]? = W.heap[g]? := hg7W.block g hg1 (fun h => hneg h.symm)
      have hcg := hHeld.2
      have hfg : W7.frozen? ⟨g, b.toNat, none⟩ = false := by simp [World.frozen?, h7g, HGC.out]
      have hround := PrM.round (B := wL.heap.size) (b := b.toNat) (n := l0.length) (v21 := .slice A21 (row ++ [a]).length c21) HGC.out (by omega) (by omega) hc18 hneg (fun k hk => ⟨_, _, (Kd.R_typed HR18.out k hk).choose_spec⟩) hg7W (hat7.imp id (fun ⟨k, h1, h2⟩ => ⟨k, h1, by have := S1.out; omega⟩))
      obtain ⟨hS8, hg8⟩ := Kd.S_seg (okg := fun k => W.heap.size ≤ k) (ok := fun k => k ≠ w4.heap.size) (okp := fun k => oki k ∨ W.heap.size ≤ k) (seg := [.slice A21 (row ++ [a]).length c21]) (j := 0) (x' := row ++ [a]) (Kd.H_mono (Kd.H_grown H1.out hg7 hA) (fun k hk => ⟨hk.1, Nat.not_le.2 hk.2⟩)) hb0 hb1 (Nat.le_refl 1) ⟨_, rfl, hR7⟩ (fun k hk => hk) (fun k hk => ⟨by omega, by omega⟩)
      simp only [show (Kd.slice 3 (Kd.int .i64)).sz = 1 from rfl, Nat.mul_one, Nat.add_zero, World.setCells] at hS8
      have hin : PrIn w w4.heap.size l0.length cR (some ⟨g, 0, none⟩) (rows.set b.toNat (row ++ [a])) (W7.setCell ⟨g, b.toNat, none⟩ (.slice A21 (row ++ [a]).length c21)) := by
        refine ⟨?_, by simp [hdim], hS8, ?_⟩
        · exact (World.cell?_setCell_other _ _ _ _ (fun h => by injection h with h1 _ _; omega)).trans hHeld.1
        · exact hb7.grown (grownBy_setCell_b W7 g b.toNat _) hb7.size (fun k e => by cases e; exact hg0)
      refine skip_ (w1 := W7.setCell ⟨g, b.toNat, none⟩ (.slice A21 (row ++ [a]).length c21)) (by rfl) rfl ?_ ?_
      · go_simp
      · refine hK.out _ _ ?_
        refine done_ (by kernel_rfl) ?_
        exact ⟨hround.1, hround.2, hin⟩
  case done =>
    rintro D ys W hD hys hI hK
    obtain ⟨hcell, hdim, hown, hbel⟩ := hI
    gi_wp2
    refine ⟨by simp, .inl ⟨_, _, rfl, run_takeDeferred hK, ?_⟩⟩
    refine ⟨_, results_tmp rfl _ _ _, _, rfl, ?_, ?_⟩
    · have hr : List.foldl predStep (List.replicate l0.length []) (ys.map Subtype.val) = r := by rw [hys]; exact HE.out
      rw [hr] at hown
      exact Kd.S_mono (S_nocells hown (grownBy_putObj' _ D _) (fun r e => by cases e; exact ⟨_, hK, rfl⟩)) (fun _ _ => trivial)
    · exact hbel.grown (grownBy_putObj' _ D _) hbel.size (fun k e => by cases e; have := HB4.out.size; omega)
  case stop =>
    rintro D c pre W _ _ h _
    exact h.elim
end Go.Proofs.Ytnmeomdjhjgnfaa.X
