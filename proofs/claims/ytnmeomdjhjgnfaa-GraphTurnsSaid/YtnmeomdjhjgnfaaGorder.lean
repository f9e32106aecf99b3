/- graph.Order: the contract, by hand (a closure that calls itself). -/
import Derived.Test.YtnmeomdjhjgnfaaGsort
import Derived.Test.YtnmeomdjhjgnfaaX1
import Derived.Laws.EntriesVeiled
set_option linter.unusedSimpArgs false
namespace Go.Proofs.Ytnmeomdjhjgnfaa.X
open Go.RowKit Go.Proofs.YtnmeomdjhjgnfaaW.PrintWords Go.Proofs.YtnmeomdjhjgnfaaW.PrintLast Go.Proofs.YtnmeomdjhjgnfaaW.PrintMore
set_option linter.unusedVariables false

/-! ### what is plain -/
def overStep (rows : List (List Int)) (k : Nat) (s : List Bool × List Int) (b : Int) : Option (List Bool × List Int) :=
  if s.1.getD b.toNat false = true then some s else overL rows k b s
theorem overL_eq (rows : List (List Int)) (k : Nat) (a : Int) (s : List Bool × List Int) :
    overL rows (k + 1) a s = ((rows.getD a.toNat []).foldlM (overStep rows k) (s.1.set a.toNat true, s.2)).map fun s => (s.1, s.2 ++ [a]) := rfl
theorem count_set (t : List Bool) : ∀ (i : Nat), i < t.length → t.getD i false = false → (t.set i true).count true = t.count true + 1 := by
  induction t with
  | nil => intro i h; simp at h
  | cons x t ih =>
    intro i h hf
    cases i with
    | zero =>
      simp at hf
      subst hf
      simp
    | succ i =>
      have := ih i (by simpa using h) (by simpa using hf)
      simp only [List.set_cons_succ, List.count_cons, this]
      omega
/-- How long what is left may be: never more than what has been come to. -/
theorem over_good (rows : List (List Int)) (n : Nat) (hrows : ∀ row ∈ rows, ∀ b ∈ row, 0 ≤ b ∧ b < n) : ∀ (k : Nat) (a : Int) (s s' : List Bool × List Int) (c : Nat),
    overL rows k a s = some s' → s.1.length = n → 0 ≤ a → a < n → s.1.getD a.toNat false = false → s.2.length + c ≤ s.1.count true →
    s'.1.length = n ∧ s'.2.length + c ≤ s'.1.count true := by
  intro k
  induction k with
  | zero => intro a s s' c h; simp [overL] at h
  | succ k ih =>
    have key : ∀ (l : List Int) (s s' : List Bool × List Int) (c : Nat), (∀ b ∈ l, 0 ≤ b ∧ b < n) → l.foldlM (overStep rows k) s = some s' → s.1.length = n → s.2.length + c ≤ s.1.count true →
        s'.1.length = n ∧ s'.2.length + c ≤ s'.1.count true := by
      intro l
      induction l with
      | nil => intro s s' c _ h h1 h2; simp only [List.foldlM_nil] at h; cases h; exact ⟨h1, h2⟩
      | cons b l ihl =>
        intro s s' c hl h h1 h2
        rw [List.foldlM_cons] at h
        obtain ⟨s1, hs1, h⟩ := Option.bind_eq_some_iff.1 h
        have hb := hl b (by simp)
        unfold overStep at hs1
        by_cases ht : s.1.getD b.toNat false = true
        · rw [if_pos ht] at hs1
          cases hs1
          exact ihl s s' c (fun x hx => hl x (by simp [hx])) h h1 h2
        · rw [if_neg ht] at hs1
          obtain ⟨g1, g2⟩ := ih b s s1 c hs1 h1 hb.1 hb.2 (by simpa using ht) h2
          exact ihl s1 s' c (fun x hx => hl x (by simp [hx])) h g1 g2
    intro a s s' c h h1 ha0 ha1 ht h2
    rw [overL_eq] at h
    obtain ⟨s1, hs1, rfl⟩ := Option.map_eq_some_iff.1 h
    have hcs := count_set s.1 a.toNat (by omega) ht
    have := key _ _ _ (c + 1) (by
      intro b hb
      by_cases hlt : a.toNat < rows.length
      · refine hrows (rows.getD a.toNat []) ?_ b hb
        rw [List.getD_eq_getElem?_getD, List.getElem?_eq_getElem hlt]
        exact List.getElem_mem hlt
      · rw [List.getD_eq_getElem?_getD, List.getElem?_eq_none (by omega)] at hb
        simp at hb) hs1 (by simpa using h1) (by simp only [hcs]; omega)
    exact ⟨this.1, by simp; omega⟩

/-! ### the closure -/
/-- What lies in memory while blocks are gone over: W1: the world when the rows had been made. -/
structure OverInv (W1 : World) (AR : Option Addr) (cR : Nat) (rows : List (List Int)) (br gt bt bu bo cT : Nat) (W : World) (there : List Bool) (out : List Int) (vout : Value) : Prop where
  bel : Below W1.heap.size W1 W
  ge : W1.heap.size ≤ br ∧ W1.heap.size ≤ gt ∧ W1.heap.size ≤ bt ∧ W1.heap.size ≤ bu ∧ W1.heap.size ≤ bo
  hrows : W.heap[br]? = some (.cells #[.slice AR rows.length cR] 22 (0, 0))
  hthere : W.heap[bt]? = some (.cells #[.slice (some ⟨gt, 0, none⟩) there.length cT] 32 (0, 0))
  hover : W.heap[bo]? = some (.cells #[.func (.func 70) #[] #[.pointer (some ⟨bt, 0, none⟩), .pointer (some ⟨br, 0, none⟩), .pointer (some ⟨bo, 0, none⟩), .pointer (some ⟨bu, 0, none⟩)]] 90 (0, 0))
  hout : W.heap[bu]? = some (.cells #[vout] 23 (0, 0))
  T : Kd.R Kd.bool 4 W W1.heap.size (fun _ => True) (.slice (some ⟨gt, 0, none⟩) there.length cT) there
  O : Kd.R (Kd.int .i64) 3 W W1.heap.size (fun _ => True) vout out

theorem OverInv.seen {W1 W : World} {AR : Option Addr} {cR : Nat} {rows : List (List Int)} {br gt bt bu bo cT : Nat} {there : List Bool} {out : List Int} {vout : Value} (h : OverInv W1 AR cR rows br gt bt bu bo cT W there out vout) (i : Nat) (hi : i < there.length) :
    OverInv W1 AR cR rows br gt bt bu bo cT (W.setCell ⟨gt, i, none⟩ (.bool true)) (there.set i true) out vout := by
  obtain ⟨cg, hcg⟩ := Kd.R_typed h.T gt rfl
  refine ⟨h.bel.setCell (p := ⟨gt, i, none⟩) h.ge.2.1 _, h.ge, blk_far h.hrows (blk_ne h.hrows hcg (by decide)) _, ?_, blk_far h.hover (blk_ne h.hover hcg (by decide)) _, blk_far h.hout (blk_ne h.hout hcg (by decide)) _, ?_, ?_⟩
  · rw [List.length_set]; exact blk_far h.hthere (blk_ne h.hthere hcg (by decide)) _
  · have := Kd.R_put h.T (i : Int) true
    rw [List.length_set]
    exact this.1
  · exact Kd.R_set h.O hcg (by decide) i _

theorem OverInv.left {W1 W W2 : World} {AR : Option Addr} {cR : Nat} {rows : List (List Int)} {br gt bt bu bo cT : Nat} {there : List Bool} {out out2 : List Int} {vout v2 : Value} (h : OverInv W1 AR cR rows br gt bt bu bo cT W there out vout)
    (hg : W.grownBy W2 vout.ownBlock) (hO : Kd.R (Kd.int .i64) 3 W2 W1.heap.size (fun _ => True) v2 out2) :
    OverInv W1 AR cR rows br gt bt bu bo cT (W2.setCell ⟨bu, 0, none⟩ v2) there out2 v2 := by
  have e1 := blk_grown h.hrows hg (Kd.R_ne h.O h.hrows (by decide))
  have e2 := blk_grown h.hthere hg (Kd.R_ne h.O h.hthere (by decide))
  have e3 := blk_grown h.hover hg (Kd.R_ne h.O h.hover (by decide))
  have e4 := blk_grown h.hout hg (Kd.R_ne h.O h.hout (by decide))
  have T2 := Kd.R_over' h.T (Kd.R_typed h.O) (by decide) hg
  refine ⟨(h.bel.grown hg h.bel.size (fun k hk => Kd.R_base h.O k hk)).setCell (p := ⟨bu, 0, none⟩) h.ge.2.2.2.1 _, h.ge, blk_far e1 (blk_ne e1 e4 (by decide)) _, blk_far e2 (blk_ne e2 e4 (by decide)) _, blk_far e3 (blk_ne e3 e4 (by decide)) _, ?_, ?_, ?_⟩
  · simpa using blk_set e4 0 v2
  · exact Kd.R_set T2 e4 (by decide) 0 _
  · exact Kd.R_set hO e4 (by decide) 0 _

theorem OverInv.alloc {W1 W : World} {AR : Option Addr} {cR : Nat} {rows : List (List Int)} {br gt bt bu bo cT : Nat} {there : List Bool} {out : List Int} {vout : Value} (h : OverInv W1 AR cR rows br gt bt bu bo cT W there out vout) (o : Obj) :
    OverInv W1 AR cR rows br gt bt bu bo cT (W.alloc o) there out vout :=
  ⟨below_alloc h.bel o, h.ge, blk_alloc h.hrows o, blk_alloc h.hthere o, blk_alloc h.hover o, blk_alloc h.hout o, Kd.R_alloc h.T o, Kd.R_alloc h.O o⟩

theorem OverInv.cells {W1 W : World} {AR : Option Addr} {cR : Nat} {rows : List (List Int)} {br gt bt bu bo cT : Nat} {there : List Bool} {out : List Int} {vout : Value} (h : OverInv W1 AR cR rows br gt bt bu bo cT W there out vout) :
    W.cell? ⟨br, 0, none⟩ = some (.slice AR rows.length cR) ∧ W.cell? ⟨bt, 0, none⟩ = some (.slice (some ⟨gt, 0, none⟩) there.length cT) ∧
    W.cell? ⟨bo, 0, none⟩ = some (.func (.func 70) #[] #[.pointer (some ⟨bt, 0, none⟩), .pointer (some ⟨br, 0, none⟩), .pointer (some ⟨bo, 0, none⟩), .pointer (some ⟨bu, 0, none⟩)]) ∧
    W.cell? ⟨bu, 0, none⟩ = some vout ∧ W.frozen? ⟨bu, 0, none⟩ = false :=
  ⟨by simpa using blk_cell h.hrows 0, by simpa using blk_cell h.hthere 0, by simpa using blk_cell h.hover 0, by simpa using blk_cell h.hout 0, blk_frozen h.hout 0⟩

set_option maxHeartbeats 4000000 in
set_option maxRecDepth 100000 in
theorem order1_calls (W1 : World) (AR : Option Addr) (cR : Nat) (rows : List (List Int)) (n br gt bt bu bo cT : Nat) (hC : Kd.C (Kd.slice 3 (Kd.int .i64)) W1 AR rows.length rows)
    (hrows : ∀ row ∈ rows, ∀ b ∈ row, 0 ≤ b ∧ b < n) (hn : rows.length = n) (hn2 : n ≤ 1000000) : ∀ (k : Nat) (a : Int) (there : List Bool) (out : List Int) (s' : List Bool × List Int) (c : Nat) (W : World) (vout : Value),
    OverInv W1 AR cR rows br gt bt bu bo cT W there out vout → there.length = n → out.length + c ≤ there.count true → 0 ≤ a → a < n → there.getD a.toNat false = false → overL rows k a (there, out) = some s' →
    Calls Try.prog 70 #[.int .i64 a, .pointer (some ⟨bt, 0, none⟩), .pointer (some ⟨br, 0, none⟩), .pointer (some ⟨bo, 0, none⟩), .pointer (some ⟨bu, 0, none⟩)] W fun e W' =>
      e = .returned (.tuple #[]) ∧ ∃ vout', OverInv W1 AR cR rows br gt bt bu bo cT W' s'.1 s'.2 vout' := by
  intro k
  induction k with
  | zero => intro a there out s' c W vout _ _ _ _ _ _ h; simp [overL] at h
  | succ k ih =>
    intro a there out s' c W vout hI hl hcn ha0 ha1 hta h
    have IH := Aside0.mk ih
    clear ih
    rw [overL_eq] at h
    obtain ⟨s1, hs1, rfl⟩ := Option.map_eq_some_iff.1 h
    have HS := Aside0.mk hs1
    have HN := Aside0.mk hn
    have HC := Aside0.mk hC
    have HRW := Aside0.mk hrows
    have HL := Aside0.mk hl
    have hcs := Aside0.mk (count_set there a.toNat (by omega) hta)
    have HCN := Aside0.mk hcn
    have HI := Aside0.mk hI
    clear h hs1 hcn hn hl hI hta hC hrows
    obtain ⟨_, ct, _, _, _⟩ := HI.out.cells
    obtain ⟨cg, fg⟩ := Kd.R_cell false HI.out.T a ha0 (by have := HL.out; omega)
    have hat : a < there.length := by have := HL.out; omega
    have hat2 : a < rows.length := by have := HN.out; omega
    obtain ⟨ad, Ar, cr, ear, hxr, hcr, hCr⟩ := at_L1 HC.out a ha0 hat2
    subst ear
    have HXR := Aside0.mk hxr
    have HCR := Aside0.mk hCr
    have HRow : Aside0 (rd_L1 rows a = rows.getD a.toNat []) := ⟨rfl⟩
    have HIn : Aside0 (∀ b ∈ rd_L1 rows a, 0 ≤ b ∧ b < n) := ⟨by
      intro b hb
      refine HRW.out (rd_L1 rows a) ?_ b hb
      unfold rd_L1
      rw [List.getD_eq_getElem?_getD, List.getElem?_eq_getElem (by omega)]
      exact List.getElem_mem _⟩
    have HLen : Aside0 ((rd_L1 rows a).length ≤ 9223372036854775807) := ⟨Kd.C_max hCr⟩
    clear hxr hCr
    go_enter Try.func70, Try.ntmps70
    go_wp2_with ((with_reducible refine gate_store (t := 4) (p := 10) rfl ?_); refine store_event (t := 4) (p := 10) (v := ?vo) (w1 := W.setCell ⟨gt, a.toNat, none⟩ (.bool true)) ?hg ?ho ?hn ?hr ?_; (case ho => rfl); (case hg => rfl); (case hn => rfl); (case hr => first | (go_simp; done) | (go_simp; rfl)); intro w2 hw; have I2 := Aside0.mk (show OverInv W1 (some ad) cR rows br gt bt bu bo cT w2 (there.set a.toNat true) out vout from by rw [hw]; exact HI.out.seen a.toNat (by omega)); clear hw ct cg fg HI; obtain ⟨cr0, ct, _, _, _⟩ := I2.out.cells; have hxr := (I2.out.bel.cell (World.block_lt_of_cell? W1 _ HXR.out)).trans HXR.out)
    rw [← HRow.out] at HS
    go_loopg [16] (rd_L1 rows a).length (fun kq v16 w' => ∃ (i : Nat) (t : List Bool) (o : List Int) (vo : Value), v16 = .int .i64 i ∧ Aside0 (kq + i = (rd_L1 rows a).length) ∧ Aside0 (List.foldlM (overStep rows k) (t, o) ((rd_L1 rows a).drop i) = some s1) ∧ Aside0 (t.length = n ∧ o.length + (c + 1) ≤ t.count true) ∧ Aside0 (OverInv W1 (some ad) cR rows br gt bt bu bo cT w' t o vo))
    case atStart => exact ⟨0, _, _, _, rfl, ⟨rfl⟩, ⟨by simpa using HS.out⟩, ⟨by simpa using HL.out, by have := hcs.out; have := HCN.out; omega⟩, I2⟩
    case round =>
      obtain ⟨i, t, o, vo, rfl, HK, HF, HG, HI⟩ := hrel
      clear cr0 ct hxr I2 HXR hcs HCN hat hat2 HS
      cases gk with
      | zero =>
        have hi : i = (rd_L1 rows a).length := by have := HK.out; omega
        subst hi
        have he : (t, o) = s1 := by have := HF.out; rw [List.drop_length] at this; simpa using this
        subst he
        have HOL : Aside0 (o.length < 1000001) := ⟨by have h1 := HG.out; have h2 := List.count_le_length (a := true) (l := t); omega⟩
        obtain ⟨_, _, _, cu, fu⟩ := HI.out.cells
        have hlen0 := HLen.out
        go_wp2_with (first | ((with_reducible refine gate_builtin (b := .append) (xs := #[.tmp 29, .tmp 31]) rfl ?_); at_builtin; refine Kd.R_append (Kd.int .i64) (w0 := W1) W1.heap.size rfl (.tmp 29) (.tmp 31) 23 3 (.int .i64 0) 8 rfl Try.underlying23 info3 rfl (by decide) (by omega) vo o a [.int .i64 a] (fun _ => True) (fun _ => False) rfl rfl ?aP (fun _ hk => hk.elim) ?aF ?aO ?aB ?aS ?aL ?_; (case aP => exact rfl); (case aB => exact HI.out.bel); (case aF => exact (fun _ _ => trivial)); (case aO => exact HI.out.O); (case aS => exact HI.out.bel.size); (case aL => have := HOL.out; omega); intro v154 w7 ho hb hg hat; have HI2 := HI.out; have hu7 := blk_grown HI2.hout hg (Kd.R_ne HI2.O HI2.hout (by decide)); have cu7 : w7.cell? ⟨bu, 0, none⟩ = some vo := (by simpa using blk_cell hu7 0); have fu7 : w7.frozen? ⟨bu, 0, none⟩ = false := blk_frozen hu7 0; have HI3 := Aside0.mk (HI2.left hg ho); obtain ⟨A7, c7, e7⟩ := Kd.R_slice ho; clear HI2 hu7 ho hb hg hat cu fu; subst e7) | ((with_reducible refine gate_store (t := 23) (p := 4) rfl ?_); refine store_event (t := 23) (p := 4) (v := ?vo) (w1 := ?w1) ?hg ?ho ?hn ?hr ?_; (case ho => rfl); (case hg => rfl); (case hn => rfl); (case hr => first | (go_simp; done) | (go_simp; rfl)); intro w8 hw; subst hw))
        go_end0
        refine ⟨rfl, .slice A7 (o ++ [a]).length c7, ?_⟩
        rw [show o.length + 1 = (o ++ [a]).length from by simp]
        exact HI3.out
      | succ k1 =>
        have hi : i < (rd_L1 rows a).length := by have := HK.out; omega
        have hlen0 := HLen.out
        obtain ⟨ae, rfl, hb0⟩ := Kd.at_int HCR.out (i : Int) (by omega) (by omega)
        replace hb0 := (HI.out.bel.cell (World.block_lt_of_cell? W1 _ hb0)).trans hb0
        simp only [Int.toNat_natCast] at hb0
        obtain ⟨hbn, hbm⟩ := HIn.out (rd (rd_L1 rows a) i) (by
          have e : rd (rd_L1 rows a) i = (rd_L1 rows a)[i] := by simp [rd, hi]
          rw [e]; exact List.getElem_mem _)
        have hbt : rd (rd_L1 rows a) i < t.length := by have := HG.out.1; omega
        obtain ⟨ct, _⟩ := Kd.R_cell false HI.out.T (rd (rd_L1 rows a) i) hbn hbt
        obtain ⟨_, cth, cov, _, _⟩ := HI.out.cells
        have HF2 := HF.out
        have ed : (rd_L1 rows a).drop i = rd (rd_L1 rows a) i :: (rd_L1 rows a).drop (i + 1) := by
          rw [List.drop_eq_getElem_cons hi]; simp [rd, hi]
        rw [ed, List.foldlM_cons] at HF2
        obtain ⟨s2, hs2, hF2⟩ := Option.bind_eq_some_iff.1 HF2
        have HF3 := Aside0.mk hF2
        clear HF2 HF ed hF2
        unfold overStep at hs2
        have eqt : t.getD (rd (rd_L1 rows a) i).toNat false = rdOf false t (rd (rd_L1 rows a) i) := rfl
        cases hv : rdOf false t (rd (rd_L1 rows a) i) with
        | true =>
          rw [hv] at ct
          rw [eqt, hv, if_pos rfl] at hs2
          have hs2' := Option.some.inj hs2
          subst hs2'
          clear hv eqt hs2
          go_wp2
          go_roundg k1
          case measure => omega
          case rel => exact ⟨i + 1, t, o, vo, by go_num, ⟨by have := HK.out; omega⟩, HF3, HG, HI⟩
        | false =>
          rw [hv] at ct
          rw [eqt, hv, if_neg (by decide)] at hs2
          have HX := Aside0.mk hs2
          have HTF : Aside0 (t.getD (rd (rd_L1 rows a) i).toNat false = false) := ⟨by rw [eqt]; exact hv⟩
          clear hv eqt hs2
          have HG2 := Aside0.mk (over_good rows n HRW.out k _ _ _ (c + 1) HX.out HG.out.1 hbn hbm HTF.out HG.out.2)
          go_wp2_with fail
          refine (IH.out (rd (rd_L1 rows a) i) t o s2 (c + 1) wr vo HI.out HG.out.1 HG.out.2 hbn hbm HTF.out HX.out).mono ?_
          rintro e w9 ⟨rfl, v9, hI9⟩
          have HI9 := Aside0.mk hI9
          clear hI9 cth cov ct hb0 HI
          go_wp2
          go_roundg k1
          case measure => omega
          case rel => exact ⟨i + 1, s2.1, s2.2, v9, by go_num, ⟨by have := HK.out; omega⟩, HF3, HG2, HI9⟩

/-! ### the rows -/
theorem okG_len {g : List (List Int)} (h : okG g = true) : g.length ≤ 1000000 ∧ ∀ r ∈ g, r.length ≤ 1000000 := by
  unfold okG at h
  simp only [Bool.and_eq_true, decide_eq_true_eq, List.all_eq_true] at h
  exact h
theorem clean_loop (g : List (List Int)) (hg : okG g = true) : ∀ (d i : Nat) (x3 : List (List Int)), i + d = g.length → x3 = (g.take i).map (fun row => keptL row g.length) ++ List.replicate d [] →
    graph_clean.l0 (d + 1) g x3 g (g.length : Int) i = some (cleanL g) := by
  intro d
  induction d with
  | zero =>
    intro i x3 hi hx
    rw [graph_clean.l0, if_neg (by omega), hx]
    have : g.take i = g := List.take_of_length_le (by omega)
    simp [this, cleanL]
  | succ d ih =>
    intro i x3 hi hx
    have hlt : i < g.length := by omega
    have hrow : rd_L1 g i = g[i] := by simp [rd_L1, hlt]
    have hk : graph_kept.f (rd_L1 g i) (g.length : Int) = some (keptL g[i] g.length) := by
      unfold graph_kept.f
      rw [hrow, if_pos ((okG_len hg).2 _ (List.getElem_mem _))]
    have hl3 : x3.length = g.length := by rw [hx]; simp; omega
    rw [graph_clean.l0, if_pos (by omega), if_pos (by omega), if_pos (by omega), hk]
    simp only [Option.bind_some]
    rw [if_pos (by omega)]
    have hw : wrap64 ((i : Int) + 1) = ((i + 1 : Nat) : Int) := by unfold wrap64; have := (okG_len hg).1; omega
    rw [hw]
    refine ih (i + 1) _ (by omega) ?_
    rw [hx, Int.toNat_natCast]
    have e1 : ((g.take i).map (fun row => keptL row g.length)).length = i := by simp; omega
    rw [List.set_append_right _ _ (by omega), e1, Nat.sub_self, List.take_succ_eq_append_getElem hlt, List.replicate_succ, List.set_cons_zero]
    simp only [List.map_append, List.map_cons, List.map_nil, List.append_assoc, List.cons_append, List.nil_append]
theorem clean_some (g : List (List Int)) (hg : okG g = true) : graph_clean.f (g.length + 1) g = some (cleanL g) := by
  unfold graph_clean.f
  have := (okG_len hg).1
  rw [if_pos (by omega), if_pos (by omega)]
  have := clean_loop g hg g.length 0 (List.replicate g.length []) (by omega) (by simp)
  simpa using this
theorem cleanL_length (g : List (List Int)) : (cleanL g).length = g.length := by simp [cleanL]
theorem cleanL_in (g : List (List Int)) : ∀ row ∈ cleanL g, ∀ b ∈ row, 0 ≤ b ∧ b < g.length := by
  intro row hr b hb
  unfold cleanL at hr
  obtain ⟨r0, _, rfl⟩ := List.mem_map.1 hr
  exact ((mem_keptL _ _ _).1 hb).2

theorem cell_new1' (W : World) (v : Value) (t : TypeId) : (W.alloc (.cells #[v] t)).heap[W.heap.size]? = some (.cells #[v] t (0, 0)) := heap_alloc_new W _

set_option maxHeartbeats 4000000 in
set_option maxRecDepth 100000 in
theorem graph_Order.calls (k : Nat) (A0 : Option Addr) (c0 : Nat) (l0 : List (List Int)) (r : List Int) (w : World) (hr0 : Kd.C (Kd.slice 3 (Kd.int .i64)) w A0 l0.length l0) (hc0 : l0.length ≤ c0) (h : graph_Order.f k l0 = some r) :
    Calls Try.prog 26 #[.slice A0 l0.length c0] w fun e w' => ∃ v0_ : Value, e = .returned (v0_) ∧ Kd.R (Kd.int .i64) 3 w' w.heap.size (fun _ => True) v0_ r ∧ Below w.heap.size w w' := by
  have hok : okG l0 = true := by
    cases hk : okG l0 with
    | true => rfl
    | false => simp [graph_Order.f, hk] at h
  have hlen := (okG_len hok).1
  have HR0 := Aside0.mk hr0
  have HC0 := Aside0.mk hc0
  have HOK := Aside0.mk hok
  clear hr0 hc0
  unfold graph_Order.f at h
  rw [if_pos hok] at h
  by_cases hz : l0.length = 0
  · rw [if_pos hz] at h
    have HE := Aside0.mk (Option.some.inj h)
    have hz2 : ((l0.length : Int) == 0) = true := by simp [hz]
    have hz3 : l0 = [] := List.length_eq_zero_iff.1 hz
    clear h hok hz
    subst hz3
    go_enter Try.func26, Try.ntmps26
    go_wp2
    go_ret
    exact ⟨_, rfl, by rw [← HE.out]; exact Kd.R_nil _ _ _ _ _, Below.refl _ _⟩
  · rw [if_neg hz] at h
    obtain ⟨s', hs', hr⟩ := Option.map_eq_some_iff.1 h
    have hz2 : ((l0.length : Int) == 0) = false := by simpa using hz
    have hz4 : 0 < l0.length := by omega
    have HS := Aside0.mk hs'
    have HE := Aside0.mk hr
    clear h hr hs' hok hz
    go_enter Try.func26, Try.ntmps26
    go_wp2_with fail
    refine (graph_clean.calls (l0.length + 1) A0 c0 l0 (cleanL l0) _ HR0.out HC0.out (clean_some l0 HOK.out)).mono ?_
    rintro e W1 ⟨v0, rfl, hS, hB⟩
    have HB := Aside0.mk hB
    obtain ⟨AR, cR, rfl, hcl, hC⟩ := Kd.S_reads hS
    have HC := Aside0.mk hC
    clear hS hB hcl hC
    go_wp2_with ((with_reducible refine gate_dst (N := 14) rfl ?_); refine Kd.R_make Kd.bool (w0 := W1) W1.heap.size 4 rfl (N := 14) rfl 32 _ _ rfl (l0.length : Int) rfl rfl Try.underlying32 (.bool false) 1 info4 rfl (by decide) (by omega) false (ok := fun _ => True) (okp := fun _ => True) rfl (fun _ hk => hk) trivial (by omega) (by omega) (below_alloc (Below.refl _ _) _) (by simp) ?_; intro v1 w6 hT hB6 hg6 hn6; rw [Int.toNat_natCast] at hT; obtain ⟨gt, cT, e1, hgt, _, _⟩ := Kd.R_form hT (by simpa using hz4); subst e1; rw [List.length_replicate] at hT; have HT := Aside0.mk hT; have HB6 := Aside0.mk hB6; have HG := Aside0.mk hgt; have HR6 := Aside0.mk (blk_grown (heap_alloc_new W1 (.cells #[.slice AR (cleanL l0).length cR] 22)) hg6 (by simp)); rw [List.length_replicate]; clear hT hB6 hg6 hn6 hgt)
    have hI : OverInv W1 AR cR (cleanL l0) W1.heap.size gt w6.heap.size (w6.heap.size + 1) (w6.heap.size + 1 + 1) cT
        (((w6.alloc (.cells #[.slice (some ⟨gt, 0, none⟩) l0.length cT] 32)).alloc (.cells #[.slice none 0 0] 23)).alloc (.cells #[.func (.func 70) #[] #[.pointer (some ⟨w6.heap.size, 0, none⟩), .pointer (some ⟨W1.heap.size, 0, none⟩), .pointer (some ⟨w6.heap.size + 1 + 1, 0, none⟩), .pointer (some ⟨w6.heap.size + 1, 0, none⟩)]] 90))
        (List.replicate l0.length false) [] (.slice none 0 0) := by
      have hs6 := HB6.out.size
      have h2 := heap_alloc_new (w6.alloc (.cells #[.slice (some ⟨gt, 0, none⟩) l0.length cT] 32)) (.cells #[.slice none 0 0] 23)
      rw [World.size_alloc] at h2
      have h3 := heap_alloc_new ((w6.alloc (.cells #[.slice (some ⟨gt, 0, none⟩) l0.length cT] 32)).alloc (.cells #[.slice none 0 0] 23)) (.cells #[.func (.func 70) #[] #[.pointer (some ⟨w6.heap.size, 0, none⟩), .pointer (some ⟨W1.heap.size, 0, none⟩), .pointer (some ⟨w6.heap.size + 1 + 1, 0, none⟩), .pointer (some ⟨w6.heap.size + 1, 0, none⟩)]] 90)
      rw [World.size_alloc, World.size_alloc] at h3
      refine ⟨below_alloc (below_alloc (below_alloc HB6.out _) _) _, ⟨Nat.le_refl _, HG.out, hs6, by omega, by omega⟩, ?_, ?_, h3, blk_alloc h2 _, ?_, ?_⟩
      · exact blk_alloc (blk_alloc (blk_alloc HR6.out _) _) _
      · rw [List.length_replicate]; exact blk_alloc (blk_alloc (heap_alloc_new w6 _) _) _
      · rw [List.length_replicate]; exact Kd.R_alloc (Kd.R_alloc (Kd.R_alloc HT.out _) _) _
      · exact Kd.R_nil _ _ _ _ _
    have HI := Aside0.mk hI
    clear hI
    refine (order1_calls W1 AR cR (cleanL l0) l0.length W1.heap.size gt w6.heap.size (w6.heap.size + 1) (w6.heap.size + 1 + 1) cT HC.out (cleanL_in l0) (cleanL_length l0) (by omega) k 0 (List.replicate l0.length false) [] s' 0 _ _ HI.out (by simp) (by simp) (by omega) (by omega) (by simp [List.getD_eq_getElem?_getD, List.getElem?_replicate, hz4]) HS.out).mono ?_
    rintro e w8 ⟨rfl, vo, hI8⟩
    have HI8 := Aside0.mk hI8
    clear hI8
    obtain ⟨_, _, _, cu, _⟩ := HI8.out.cells
    have HLn := Aside0.mk (over_good (cleanL l0) l0.length (cleanL_in l0) k 0 _ _ 0 HS.out (by simp) (by omega) (by omega) (by simp [List.getD_eq_getElem?_getD, List.getElem?_replicate, hz4]) (by simp))
    have HL2 : Aside0 (s'.2.length ≤ 100000000) := ⟨by
      have h1 := HLn.out
      have h2 := List.count_le_length (a := true) (l := s'.1)
      omega⟩
    go_wp2_with fail
    refine (reverse_R HI8.out.O HL2.out).mono ?_
    rintro e w9 ⟨rfl, hO9, hg9⟩
    have hu9 := blk_grown HI8.out.hout hg9 (Kd.R_ne HI8.out.O HI8.out.hout (by decide))
    have cu9 : w9.cell? ⟨w6.heap.size + 1, 0, none⟩ = some vo := by simpa using blk_cell hu9 0
    have HB9 : Aside0 (Below w.heap.size w w9) := ⟨HB.out.trans ((HI8.out.bel.grown hg9 HI8.out.bel.size (fun k hk => Kd.R_base HI8.out.O k hk)).mono HB.out.size)⟩
    have HO9 : Aside0 (Kd.R (Kd.int .i64) 3 w9 w.heap.size (fun _ => True) vo r) := ⟨by rw [← HE.out]; exact Kd.R_lower hO9 HB.out.size⟩
    clear hO9 hg9 hu9 cu
    go_wp2
    go_ret
    exact ⟨_, rfl, HO9.out, HB9.out⟩
end Go.Proofs.Ytnmeomdjhjgnfaa.X
