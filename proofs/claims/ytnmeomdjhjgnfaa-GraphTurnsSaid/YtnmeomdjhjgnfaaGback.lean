/- graph.back and the function that it hands back, by hand. -/
import Derived.Test.YtnmeomdjhjgnfaaGdom
import Derived.Test.YtnmeomdjhjgnfaaGspec2
import Derived.Laws.EntriesVeiled
set_option linter.unusedSimpArgs false
namespace Go.Proofs.Ytnmeomdjhjgnfaa.X
open Go.RowKit Go.Shelf Go.Proofs.YtnmeomdjhjgnfaaW.PrintWords Go.Proofs.YtnmeomdjhjgnfaaW.PrintLast Go.Proofs.YtnmeomdjhjgnfaaW.PrintMore
set_option linter.unusedVariables false

set_option maxHeartbeats 2000000 in
set_option maxRecDepth 100000 in
theorem back1_calls (bk : Nat) (Ad : Option Addr) (cd : Nat) (d : List Int) (a b : Int) (w : World) (hbx : w.cell? ⟨bk, 0, none⟩ = some (.slice Ad d.length cd)) (hR : Kd.C (Kd.int .i64) w Ad d.length d) (hc : d.length ≤ cd) (hlen : d.length ≤ 1000000) (ha0 : 0 ≤ a) (ha1 : a < d.length) :
    Calls Try.prog 103 #[.int .i64 a, .int .i64 b, .pointer (some ⟨bk, 0, none⟩)] w fun e w' => e = .returned (.bool (backL d a b)) ∧ Below w.heap.size w w' := by
  obtain ⟨ad, rfl, hcx⟩ := Kd.at_int hR a ha0 ha1
  have HR := Aside0.mk hR
  have HC := Aside0.mk hc
  have HD : Aside0 (graph_Dominates.f d b a = some (domL d b a)) := ⟨by unfold graph_Dominates.f; rw [if_pos hlen]⟩
  clear hR hc hlen
  go_enter Try.func103, Try.ntmps103
  by_cases h0 : a = 0
  · subst h0
    go_wp2_with fail
    refine (graph_Dominates.calls (some ad) cd d b 0 (domL d b 0) w HR.out HC.out HD.out).mono ?_
    rintro e w' ⟨rfl, hB⟩
    cases hd : domL d b 0 with
    | true =>
      go_wp2
      go_ret
      exact ⟨by rw [show backL d 0 b = true from by simp [backL, hd]]; rfl, hB⟩
    | false =>
      go_wp2
      go_ret
      exact ⟨by rw [show backL d 0 b = false from by simp [backL, hd]]; rfl, hB⟩
  · have h0' : (a == 0) = false := by simpa using h0
    by_cases h1 : 0 ≤ rd d a
    · have h1' : decide (0 ≤ rd d a) = true := decide_eq_true h1
      go_wp2_with fail
      refine (graph_Dominates.calls (some ad) cd d b a (domL d b a) w HR.out HC.out HD.out).mono ?_
      rintro e w' ⟨rfl, hB⟩
      cases hd : domL d b a with
      | true =>
        go_wp2
        go_ret
        exact ⟨by rw [show backL d a b = true from by simp [backL, hd, h1]]; rfl, hB⟩
      | false =>
        go_wp2
        go_ret
        exact ⟨by rw [show backL d a b = false from by simp [backL, hd]]; rfl, hB⟩
    · have h1' : decide (0 ≤ rd d a) = false := decide_eq_false h1
      go_wp2
      go_ret
      exact ⟨by rw [show backL d a b = false from by simp [backL, h0', h1']]; rfl, Below.refl _ _⟩

set_option maxHeartbeats 2000000 in
set_option maxRecDepth 100000 in
theorem back_calls (k : Nat) (A0 : Option Addr) (c0 : Nat) (l0 : List (List Int)) (d : List Int) (w : World) (hr0 : Kd.C (Kd.slice 3 (Kd.int .i64)) w A0 l0.length l0) (hc0 : l0.length ≤ c0) (h : graph_Idom.f k l0 = some d) :
    Calls Try.prog 83 #[.slice A0 l0.length c0] w fun e w' => ∃ (bk : Nat) (Ad : Option Addr) (cd : Nat), e = .returned (.func (.func 103) #[] #[.pointer (some ⟨bk, 0, none⟩)]) ∧ w.heap.size ≤ bk ∧ w'.heap[bk]? = some (.cells #[.slice Ad d.length cd] 23 (0, 0)) ∧
      Kd.R (Kd.int .i64) 3 w' w.heap.size (fun k => k < bk) (.slice Ad d.length cd) d ∧ Below w.heap.size w w' := by
  have HR := Aside0.mk hr0
  have HC0 := Aside0.mk hc0
  have H := Aside0.mk h
  clear hr0 hc0 h
  go_enter Try.func83, Try.ntmps83
  go_wp2_with fail
  refine (graph_Idom.calls k A0 c0 l0 d w HR.out HC0.out H.out).mono ?_
  rintro e w4 ⟨v0, rfl, ho, hB⟩
  obtain ⟨Ad, cd, rfl⟩ := Kd.R_slice ho
  go_wp2
  go_ret
  refine ⟨w4.heap.size, Ad, cd, rfl, hB.size, World.alloc_heap_new _ _, Kd.R_alloc (Kd.R_mono (Kd.R_bound ho) (fun k hk => hk.2.2.1)) _, below_alloc hB _⟩
end Go.Proofs.Ytnmeomdjhjgnfaa.X
