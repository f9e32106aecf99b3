/- graph.Dominates: the contract, by hand (a closure that reads a captured slice; a loop by a count). -/
import Derived.Test.YtnmeomdjhjgnfaaGspec
set_option linter.unusedSimpArgs false
namespace Go.Proofs.Ytnmeomdjhjgnfaa.X
open Go.RowKit Go.Proofs.YtnmeomdjhjgnfaaW.PrintWords Go.Proofs.YtnmeomdjhjgnfaaW.PrintLast Go.Proofs.YtnmeomdjhjgnfaaW.PrintMore
set_option linter.unusedVariables false

theorem cell_new1 (W : World) (v : Value) (t : TypeId) : (W.alloc (.cells #[v] t)).cell? ⟨W.heap.size, 0, none⟩ = some v :=
  Go.Proofs.YtnmeomdjhjgnfaaW.PrintWords.blk_cell (heap_alloc_new W (.cells #[v] t)) 0

set_option maxHeartbeats 1000000 in
/-- The closure 'is': whether a number is one of the captured row's places. -/
theorem dom_is (g : Nat) (A0 : Option Addr) (c0 : Nat) (l0 : List Int) (x : Int) (w : World) (hc : w.cell? ⟨g, 0, none⟩ = some (.slice A0 l0.length c0)) :
    Calls Try.prog 74 #[.int .i64 x, .pointer (some ⟨g, 0, none⟩)] w fun e w' => e = .returned (.bool (isB l0 x)) ∧ w = w' := by
  by_cases h0 : 0 ≤ x
  · by_cases h1 : x < l0.length
    · have e1 : isB l0 x = true := by simp [isB, h0, h1]
      rw [e1]
      go_enter Try.func74, Try.ntmps74
      go_wp2
      go_ret
      exact ⟨rfl, rfl⟩
    · have e1 : isB l0 x = false := by simp [isB, h1]
      rw [e1]
      have h2 : decide (x < (l0.length : Int)) = false := by simpa using h1
      go_enter Try.func74, Try.ntmps74
      go_wp2
      go_ret
      exact ⟨by first | rfl | simp_all, rfl⟩
  · have e1 : isB l0 x = false := by simp [isB, h0]
    rw [e1]
    have h2 : decide (0 ≤ x) = false := by simpa using h0
    go_enter Try.func74, Try.ntmps74
    go_wp2
    go_ret
    exact ⟨by first | rfl | simp_all, rfl⟩
theorem dom_yes (g : Nat) (A0 : Option Addr) (c0 : Nat) (l0 : List Int) (x : Int) (w : World) (hc : w.cell? ⟨g, 0, none⟩ = some (.slice A0 l0.length c0)) (hx : isB l0 x = true) :
    Calls Try.prog 74 #[.int .i64 x, .pointer (some ⟨g, 0, none⟩)] w fun e w' => e = .returned (.bool true) ∧ w = w' := hx ▸ dom_is g A0 c0 l0 x w hc
theorem dom_no (g : Nat) (A0 : Option Addr) (c0 : Nat) (l0 : List Int) (x : Int) (w : World) (hc : w.cell? ⟨g, 0, none⟩ = some (.slice A0 l0.length c0)) (hx : isB l0 x = false) :
    Calls Try.prog 74 #[.int .i64 x, .pointer (some ⟨g, 0, none⟩)] w fun e w' => e = .returned (.bool false) ∧ w = w' := hx ▸ dom_is g A0 c0 l0 x w hc

set_option maxHeartbeats 4000000 in
set_option maxRecDepth 100000 in
theorem graph_Dominates.calls (A0 : Option Addr) (c0 : Nat) (l0 : List Int) (a1 a2 : Int) (r : Bool) (w : World) (hr0 : Kd.C (Kd.int .i64) w A0 l0.length l0) (hc0 : l0.length ≤ c0) (h : graph_Dominates.f l0 a1 a2 = some r) :
    Calls Try.prog 32 #[.slice A0 l0.length c0, .int .i64 a1, .int .i64 a2] w fun e w' => e = .returned (.bool r) ∧ Below w.heap.size w w' := by
  have HR0 := Aside0.mk hr0
  clear hr0 hc0
  have hlen : l0.length ≤ 1000000 := by
    by_cases hl : l0.length ≤ 1000000
    · exact hl
    · simp [graph_Dominates.f, hl] at h
  have HF : Aside0 (domL l0 a1 a2 = r) := ⟨by simpa [graph_Dominates.f, hlen] using h⟩
  clear h
  have hcell : (w.alloc (.cells #[.slice A0 l0.length c0] 23)).cell? ⟨w.heap.size, 0, none⟩ = some (.slice A0 l0.length c0) := Go.Proofs.Ytnmeomdjhjgnfaa.X.cell_new1 w _ 23
  have HB : Aside0 (Below w.heap.size w (w.alloc (.cells #[.slice A0 l0.length c0] 23))) := ⟨(Below.refl _ w).alloc (Nat.le_refl _) _⟩
  cases e1 : isB l0 a1 with
  | false =>
    have E1 := Aside0.mk e1
    have HR : Aside0 (r = false) := ⟨by rw [← HF.out]; simp [domL, e1]⟩
    clear e1
    go_enter Try.func32, Try.ntmps32
    go_wp2_with (go_at_call 74; refine (dom_no _ A0 c0 l0 _ _ hcell E1.out).mono ?_; rintro e w' ⟨rfl, rfl⟩)
    go_ret
    exact ⟨by rw [HR.out]; rfl, HB.out⟩
  | true =>
    have E1 := Aside0.mk e1
    clear e1
    cases e2 : isB l0 a2 with
    | false =>
      have E2 := Aside0.mk e2
      have HR : Aside0 (r = false) := ⟨by rw [← HF.out]; simp [domL, e2]⟩
      clear e2
      go_enter Try.func32, Try.ntmps32
      go_wp2_with fail
      refine (dom_yes _ A0 c0 l0 _ _ hcell E1.out).mono ?_
      rintro e w' ⟨rfl, rfl⟩
      go_wp2_with fail
      refine (dom_no _ A0 c0 l0 _ _ hcell E2.out).mono ?_
      rintro e w' ⟨rfl, rfl⟩
      go_wp2_with fail
      go_ret
      exact ⟨by rw [HR.out]; rfl, HB.out⟩
    | true =>
      have E2 := Aside0.mk e2
      have HL : Aside0 (domLoop l0 a1 (l0.length + 1) a2 = r) := ⟨by rw [← HF.out]; simp [domL, E1.out, e2]⟩
      clear e2 HF
      go_enter Try.func32, Try.ntmps32
      go_wp2_with fail
      refine (dom_yes _ A0 c0 l0 _ _ hcell E1.out).mono ?_
      rintro e w' ⟨rfl, rfl⟩
      go_wp2_with fail
      refine (dom_yes _ A0 c0 l0 _ _ hcell E2.out).mono ?_
      rintro e w' ⟨rfl, rfl⟩
      go_wp2_with fail
      go_loopg [2, 22] (l0.length + 1) (fun kq v2 v22 w' => ∃ (b : Int) (i : Nat), v2 = .int .i64 b ∧ v22 = .int .i64 i ∧ Aside0 (domLoop l0 a1 kq b = r) ∧ Aside0 (kq + i = l0.length + 1) ∧ Aside0 (w' = w.alloc (.cells #[.slice A0 l0.length c0] 23)))
      case atStart => exact ⟨a2, 0, rfl, rfl, HL, ⟨rfl⟩, ⟨rfl⟩⟩
      case round =>
        obtain ⟨b, i, rfl, rfl, HA, HI, HW⟩ := hrel
        obtain rfl := HW.out
        clear HW HL E2
        cases gk with
        | zero =>
          have hi : i = l0.length + 1 := by have := HI.out; omega
          subst hi
          have HR : Aside0 (r = false) := ⟨by rw [← HA.out]; simp [domLoop]⟩
          go_wp2
          go_ret
          exact ⟨by rw [HR.out]; rfl, HB.out⟩
        | succ k1 =>
          have hi : i < l0.length + 1 := by have := HI.out; omega
          have H := HA.out
          clear HA
          rw [domLoop] at H
          by_cases hab : a1 = b
          · rw [if_pos hab] at H
            have HR : Aside0 (r = true) := ⟨H.symm⟩
            subst hab
            clear H
            go_wp2
            go_ret
            exact ⟨by rw [HR.out]; rfl, HB.out⟩
          · rw [if_neg hab] at H
            have hab2 : (a1 == b) = false := by simpa using hab
            clear hab
            cases e3 : isB l0 b with
            | false =>
              have E3 := Aside0.mk e3
              rw [e3] at H
              have HR : Aside0 (r = false) := ⟨by simpa using H.symm⟩
              clear H e3
              go_wp2_with (go_at_call 74; refine (dom_no _ A0 c0 l0 _ _ hcell E3.out).mono ?_; rintro e w' ⟨rfl, rfl⟩)
              go_ret
              exact ⟨by rw [HR.out]; rfl, HB.out⟩
            | true =>
              have E3 := Aside0.mk e3
              rw [e3] at H
              have HL : Aside0 (domLoop l0 a1 k1 (rd l0 b) = r) := ⟨by simpa using H⟩
              have hb : 0 ≤ b ∧ b < l0.length := by simpa [isB] using e3
              obtain ⟨hb0, hb1⟩ := hb
              clear H e3
              obtain ⟨ad, rfl, hcx⟩ := Kd.at_int HR0.out b hb0 hb1
              replace hcx := (HB.out.cell (World.block_lt_of_cell? w _ hcx)).trans hcx
              go_wp2_with (go_at_call 74; refine (dom_yes _ (some ad) c0 l0 _ _ hcell E3.out).mono ?_; rintro e w' ⟨rfl, rfl⟩)
              go_roundg k1
              case measure => omega
              case rel => exact ⟨_, i + 1, rfl, by go_num, HL, ⟨by have := HI.out; omega⟩, ⟨rfl⟩⟩
end Go.Proofs.Ytnmeomdjhjgnfaa.X
