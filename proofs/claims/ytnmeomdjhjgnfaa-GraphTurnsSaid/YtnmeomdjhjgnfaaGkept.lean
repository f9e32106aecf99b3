/- graph.kept: the contract, by hand. -/
import Derived.Test.YtnmeomdjhjgnfaaGsort
set_option linter.unusedSimpArgs false
namespace Go.Proofs.Ytnmeomdjhjgnfaa.X
open Go.RowKit Go.Proofs.YtnmeomdjhjgnfaaW.PrintWords Go.Proofs.YtnmeomdjhjgnfaaW.PrintLast Go.Proofs.YtnmeomdjhjgnfaaW.PrintMore
set_option linter.unusedVariables false

def inB (n : Int) (x : Int) : Bool := decide (0 ≤ x) && decide (x < n)
theorem take_filter_yes (l : List Int) (p : Int → Bool) (i : Nat) (h : i < l.length) (hp : p (rd l i) = true) : (l.take (i + 1)).filter p = (l.take i).filter p ++ [rd l i] := by
  have e : rd l i = l[i] := by simp [rd, h]
  rw [e] at hp ⊢
  rw [List.take_succ_eq_append_getElem h, List.filter_append]
  simp [hp]
theorem take_filter_no (l : List Int) (p : Int → Bool) (i : Nat) (h : i < l.length) (hp : p (rd l i) = false) : (l.take (i + 1)).filter p = (l.take i).filter p := by
  have e : rd l i = l[i] := by simp [rd, h]
  rw [e] at hp
  rw [List.take_succ_eq_append_getElem h, List.filter_append]
  simp [hp]
theorem take_filter_le (l : List Int) (p : Int → Bool) (i : Nat) : ((l.take i).filter p).length ≤ l.length := Nat.le_trans (List.length_filter_le _ _) (by simp; omega)

set_option maxHeartbeats 4000000 in
set_option maxRecDepth 100000 in
theorem graph_kept.calls (A0 : Option Addr) (c0 : Nat) (l0 : List Int) (a1 : Int) (r : List Int) (w : World) (hr0 : Kd.C (Kd.int .i64) w A0 l0.length l0) (hc0 : l0.length ≤ c0) (h : graph_kept.f l0 a1 = some r) :
    Calls Try.prog 92 #[.slice A0 l0.length c0, .int .i64 a1] w fun e w' => ∃ v0_ : Value, e = .returned (v0_) ∧ Kd.R (Kd.int .i64) 3 w' w.heap.size (fun _ => True) v0_ r ∧ Below w.heap.size w w' := by
  have HR0 := Aside0.mk hr0
  clear hr0 hc0
  have hlen : l0.length ≤ 1000000 := by
    by_cases hl : l0.length ≤ 1000000
    · exact hl
    · simp [graph_kept.f, hl] at h
  have HF : Aside0 (r = keptL l0 a1) := ⟨by simpa [graph_kept.f, hlen] using h.symm⟩
  clear h
  go_enter Try.func92, Try.ntmps92
  go_wp2
  go_loopg [5, 10] l0.length (fun kq v5 v10 w' => ∃ i : Nat, v10 = .int .i64 i ∧ Aside0 (kq + i = l0.length) ∧ Aside0 (Kd.R (Kd.int .i64) 3 w' w.heap.size (fun _ => True) v5 ((l0.take i).filter (inB a1))) ∧ Aside0 (Below w.heap.size w w'))
  case atStart => exact ⟨0, rfl, ⟨rfl⟩, ⟨by simpa using Kd.R_nil _ _ _ _ _⟩, ⟨Below.refl _ _⟩⟩
  case round =>
    obtain ⟨i, rfl, HI, HO, HB⟩ := hrel
    cases gk with
    | zero =>
      have hi : i = l0.length := by have := HI.out; omega
      subst hi
      rw [List.take_length] at HO
      go_wp2_with fail
      have hl2 : (l0.filter (inB a1)).length ≤ 100000000 := Nat.le_trans (List.length_filter_le _ _) (by omega)
      refine (sort_R HO.out hl2).mono ?_
      rintro e w1 ⟨rfl, hs, hg⟩
      have HB1 := Aside0.mk (HB.out.grown hg (HB.out.size) (fun k hk => Kd.R_base HO.out k hk))
      have HO1 := Aside0.mk hs
      clear hs hg HO HB
      go_wp2_with fail
      have hl3 : (isort (l0.filter (inB a1))).length ≤ 100000000 := by rw [isort_length]; exact hl2
      refine (compact_R HO1.out hl3).mono ?_
      rintro e w2 ⟨v', rfl, hs, hg⟩
      have HB2 := Aside0.mk (HB1.out.grown hg (HB1.out.size) (fun k hk => Kd.R_base HO1.out k hk))
      have HO2 := Aside0.mk hs
      clear hs hg HO1 HB1 hl2 hl3
      have HK : Aside0 (Lib.compact (isort (l0.filter (inB a1))) = r) := ⟨by rw [HF.out]; exact kept_of _ _ _ (fun x => by simp [inB])⟩
      go_wp2
      go_ret
      exact ⟨_, rfl, by rw [← HK.out]; exact HO2.out, HB2.out⟩
    | succ k1 =>
      have hi : i < l0.length := by have := HI.out; omega
      obtain ⟨ad, rfl, hc⟩ := Kd.at_int HR0.out (i : Int) (by omega) (by omega)
      replace hc := (HB.out.cell (World.block_lt_of_cell? w _ hc)).trans hc
      simp only [Int.toNat_natCast] at hc
      by_cases h0 : 0 ≤ rd l0 i
      · by_cases h1 : rd l0 i < a1
        · have HE := Aside0.mk (take_filter_yes l0 (inB a1) i hi (by simp [inB, h0, h1]))
          have HLE := Aside0.mk (take_filter_le l0 (inB a1) i)
          go_wp2_with ((with_reducible refine gate_builtin (b := .append) (xs := #[.tmp 21, .tmp 23]) rfl ?_); at_builtin; refine Kd.R_append (Kd.int .i64) (w0 := w) w.heap.size rfl (.tmp 21) (.tmp 23) 23 3 (.int .i64 0) 8 rfl Try.underlying23 info3 rfl (by decide) (by omega) u5 ((l0.take i).filter (inB a1)) (rd l0 i) [.int .i64 (rd l0 i)] (fun _ => True) (fun _ => False) rfl rfl ?aP (fun _ hk => hk.elim) ?aF ?aO ?aB ?aS ?aL ?_; (case aP => exact rfl); (case aB => exact (by repeat (first | (with_reducible first | exact HB.out | apply below_alloc | apply pw_below_drewN | apply below_drew1) | exact HB.out))); (case aF => exact (fun _ _ => trivial)); (case aO => exact (by (with_reducible repeat (first | apply Kd.R_alloc | apply Kd.R_drewN | apply Kd.R_drew)); exact HO.out)); (case aS => exact (below_size (by repeat (first | (with_reducible first | exact HB.out | apply below_alloc | apply pw_below_drewN | apply below_drew1) | exact HB.out)))); (case aL => have := HLE.out; omega); intro v154 w7 ho hb hg hat; rw [← HE.out] at ho; have HB3 := Aside0.mk hb; have HO3 := Aside0.mk ho; clear HB HO ho hb hg hat)
          go_roundg k1
          case measure => omega
          case rel => exact ⟨i + 1, by go_num, ⟨by have := HI.out; omega⟩, HO3, HB3⟩
        · have HE := Aside0.mk (take_filter_no l0 (inB a1) i hi (by simp [inB, h1]))
          have h2 : decide (rd l0 i < a1) = false := by simpa using h1
          go_wp2
          go_roundg k1
          case measure => omega
          case rel => exact ⟨i + 1, by go_num, ⟨by have := HI.out; omega⟩, ⟨by rw [HE.out]; exact HO.out⟩, HB⟩
      · have HE := Aside0.mk (take_filter_no l0 (inB a1) i hi (by simp [inB, h0]))
        have h2 : decide (0 ≤ rd l0 i) = false := by simpa using h0
        go_wp2
        go_roundg k1
        case measure => omega
        case rel => exact ⟨i + 1, by go_num, ⟨by have := HI.out; omega⟩, ⟨by rw [HE.out]; exact HO.out⟩, HB⟩
end Go.Proofs.Ytnmeomdjhjgnfaa.X
