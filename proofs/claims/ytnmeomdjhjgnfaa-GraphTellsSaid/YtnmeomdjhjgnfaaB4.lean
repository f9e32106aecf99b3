/- Parts of the proof of GraphTells: Gtold, Gfew, X17, Gawake, Gtells, Pdfs, Pord, Pidom, Pedge, Pchk, Pdomn, Pidf, Pdm, Pup, Pwo, Ptab, Pgr, Prefa, Prefb. -/
import Derived.Test.YtnmeomdjhjgnfaaB1
import Derived.Test.YtnmeomdjhjgnfaaB2
import Derived.Test.YtnmeomdjhjgnfaaB3
section
set_option linter.unusedVariables false
set_option linter.unusedSimpArgs false
namespace Go.Proofs.Ytnmeomdjhjgnfaa.X
open Go.RowKit Go.Proofs.YtnmeomdjhjgnfaaW.PrintWords Go.Proofs.YtnmeomdjhjgnfaaW.PrintLast
/-- All that is told of a graph is the same. -/
structure Told1 (k : Nat) (l0 p : List (List Int)) (o d hd : List Int) (c : List S73) (v : Bool) : Prop where
  ok : l0.length ≤ 1000000
  e1 : graph_Preds.f l0 = some p
  e2 : jacquardref02_Preds.f k l0 = some p
  e3 : jacquardref02_Rows.f k p p = some true
  e4 : graph_Order.f k l0 = some o
  e5 : jacquardref02_Order.f k l0 = some o
  e6 : jacquardref02_Nums.f k o o = some true
  e7 : graph_Idom.f k l0 = some d
  e8 : jacquardref02_Idom.f k l0 = some d
  e9 : jacquardref02_Nums.f k d d = some true
  e10 : graph_Headers.f k l0 = some hd
  e11 : jacquardref02_Headers.f k l0 = some hd
  e12 : jacquardref02_Nums.f k hd hd = some true
  e13 : graph_Critical.f l0 = some c
  e14 : jacquardref02_Critical.f k l0 = some c
  e15 : jacquardref02_Pairs.f c c = some true
  e16 : graph_Reducible.f k l0 = some v
  e17 : jacquardref02_Reducible.f k l0 = some v
  e18 : ∀ h : Int, -1 ≤ h → h ≤ l0.length → ∃ s, graph_Body.f k l0 h = some s ∧ jacquardref02_Body.f k l0 h = some s ∧ jacquardref02_Nums.f k s s = some true
set_option maxHeartbeats 8000000 in
set_option maxRecDepth 100000 in
theorem told_true (k : Nat) (A0 : Option Addr) (c0 : Nat) (l0 p : List (List Int)) (o d hd : List Int) (c : List S73) (v : Bool) (w : World) (hr0 : Kd.C (Kd.slice 3 (Kd.int .i64)) w A0 l0.length l0) (hc0 : l0.length ≤ c0) (h : Told1 k l0 p o d hd c v) :
    Calls Try.prog 23 #[.slice A0 l0.length c0] w fun e w' => e = .returned (.bool true) ∧ Below w.heap.size w w' := by
  have HR0 := Aside0.mk hr0
  have HC0 := Aside0.mk hc0
  have HB := Aside0.mk (Below.refl w.heap.size w)
  have E1 := Aside0.mk h.e1
  have E2 := Aside0.mk h.e2
  have E3 := Aside0.mk h.e3
  have E4 := Aside0.mk h.e4
  have E5 := Aside0.mk h.e5
  have E6 := Aside0.mk h.e6
  have E7 := Aside0.mk h.e7
  have E8 := Aside0.mk h.e8
  have E9 := Aside0.mk h.e9
  have E10 := Aside0.mk h.e10
  have E11 := Aside0.mk h.e11
  have E12 := Aside0.mk h.e12
  have E13 := Aside0.mk h.e13
  have E14 := Aside0.mk h.e14
  have E15 := Aside0.mk h.e15
  have E16 := Aside0.mk h.e16
  have E17 := Aside0.mk h.e17
  have E18 := Aside0.mk h.e18
  have HOK := Aside0.mk h.ok
  clear hr0 hc0 h
  go_enter Try.func23, Try.ntmps23
  go_wp2_with (first | ((with_reducible refine gate_callee (f := 47) rfl ?_); refine goesL_ (some 11) rfl rfl Try.func47 (by kernel_rfl) rfl #[.slice A0 l0.length c0] rfl (by (try simp only [List.map_toArray, List.map_cons, List.map_nil]); first | done | rfl | (simp only [List.length_drop, List.length_take]; rfl)) ?_; (with_reducible refine (graph_Preds.calls _ _ l0 p _ ?s1 ?s2 E1.out).mono ?_); (case s1 => repeat (first | exact (Kd.C_below HR0.out HB.out) | (with_reducible refine Kd.C_alloc ?_ _) | (with_reducible refine Kd.C_drewN ?_ _) | (with_reducible refine Kd.C_drew ?_))); (case s2 => exact HC0.out); rintro e w_ ⟨v_, rfl, ho0, hb⟩; refine ⟨_, rfl, ?_⟩; have m_ := Aside0.mk (below_step (by repeat (first | exact HB.out | apply below_alloc | apply pw_below_drewN | apply below_drew1)) hb); obtain ⟨X1_, cX1_, rfl, hl_, hC_⟩ := Kd.S_reads ho0; have n_ := Aside0.mk (And.intro hl_ hC_); clear HB ho0 hb hl_ hC_; have HB := m_; have HX1 := n_; clear m_ n_) | ((with_reducible refine gate_callee (f := 62) rfl ?_); refine goesL_ (some 13) rfl rfl Try.func62 (by kernel_rfl) rfl #[.slice A0 l0.length c0] rfl (by (try simp only [List.map_toArray, List.map_cons, List.map_nil]); first | done | rfl | (simp only [List.length_drop, List.length_take]; rfl)) ?_; (with_reducible refine (jacquardref02_Preds.calls k _ _ l0 p _ ?s1 ?s2 E2.out).mono ?_); (case s1 => repeat (first | exact (Kd.C_below HR0.out HB.out) | (with_reducible refine Kd.C_alloc ?_ _) | (with_reducible refine Kd.C_drewN ?_ _) | (with_reducible refine Kd.C_drew ?_))); (case s2 => exact HC0.out); rintro e w_ ⟨v_, rfl, ho0, hb⟩; refine ⟨_, rfl, ?_⟩; have m_ := Aside0.mk (below_step (by repeat (first | exact HB.out | apply below_alloc | apply pw_below_drewN | apply below_drew1)) hb); obtain ⟨Y1_, cY1_, rfl, hl_, hC_⟩ := Kd.S_reads ho0; have n_ := Aside0.mk (And.intro hl_ hC_); have o_ := Aside0.mk (And.intro HX1.out.1 (Kd.C_below (by repeat (first | exact HX1.out.2 | (with_reducible refine Kd.C_alloc ?_ _) | (with_reducible refine Kd.C_drewN ?_ _) | (with_reducible refine Kd.C_drew ?_))) hb)); clear HX1; have HX1 := o_; clear o_; clear HB ho0 hb hl_ hC_; have HB := m_; have HY1 := n_; clear m_ n_) | ((with_reducible refine gate_callee (f := 50) rfl ?_); refine goesL_ (some 14) rfl rfl Try.func50 (by kernel_rfl) rfl #[.slice X1_ p.length cX1_, .slice Y1_ p.length cY1_] rfl (by (try simp only [List.map_toArray, List.map_cons, List.map_nil]); first | done | rfl | (simp only [List.length_drop, List.length_take]; rfl)) ?_; (with_reducible refine (jacquardref02_Rows.calls k _ _ p _ _ p true _ ?s1 ?s2 ?s3 ?s4 E3.out).mono ?_); (case s1 => repeat (first | exact HX1.out.2 | (with_reducible refine Kd.C_alloc ?_ _) | (with_reducible refine Kd.C_drewN ?_ _) | (with_reducible refine Kd.C_drew ?_))); (case s2 => exact HX1.out.1); (case s3 => repeat (first | exact HY1.out.2 | (with_reducible refine Kd.C_alloc ?_ _) | (with_reducible refine Kd.C_drewN ?_ _) | (with_reducible refine Kd.C_drew ?_))); (case s4 => exact HY1.out.1); rintro e w' ⟨rfl, ⟨nd, rfl⟩⟩; refine ⟨_, rfl, ?_⟩; clear HX1 HY1) | ((with_reducible refine gate_callee (f := 26) rfl ?_); refine goesL_ (some 16) rfl rfl Try.func26 (by kernel_rfl) rfl #[.slice A0 l0.length c0] rfl (by (try simp only [List.map_toArray, List.map_cons, List.map_nil]); first | done | rfl | (simp only [List.length_drop, List.length_take]; rfl)) ?_; (with_reducible refine (graph_Order.calls k _ _ l0 o _ ?s1 ?s2 E4.out).mono ?_); (case s1 => repeat (first | exact (Kd.C_below HR0.out HB.out) | (with_reducible refine Kd.C_alloc ?_ _) | (with_reducible refine Kd.C_drewN ?_ _) | (with_reducible refine Kd.C_drew ?_))); (case s2 => exact HC0.out); rintro e w_ ⟨v_, rfl, ho0, hb⟩; refine ⟨_, rfl, ?_⟩; have m_ := Aside0.mk (below_step (by repeat (first | exact HB.out | apply below_alloc | apply pw_below_drewN | apply below_drew1)) hb); obtain ⟨X2_, cX2_, rfl, hl_, hC_⟩ := Kd.R_reads ho0; have n_ := Aside0.mk (And.intro hl_ hC_); clear HB ho0 hb hl_ hC_; have HB := m_; have HX2 := n_; clear m_ n_) | ((with_reducible refine gate_callee (f := 63) rfl ?_); refine goesL_ (some 18) rfl rfl Try.func63 (by kernel_rfl) rfl #[.slice A0 l0.length c0] rfl (by (try simp only [List.map_toArray, List.map_cons, List.map_nil]); first | done | rfl | (simp only [List.length_drop, List.length_take]; rfl)) ?_; (with_reducible refine (jacquardref02_Order.calls k _ _ l0 o _ ?s1 ?s2 E5.out).mono ?_); (case s1 => repeat (first | exact (Kd.C_below HR0.out HB.out) | (with_reducible refine Kd.C_alloc ?_ _) | (with_reducible refine Kd.C_drewN ?_ _) | (with_reducible refine Kd.C_drew ?_))); (case s2 => exact HC0.out); rintro e w_ ⟨v_, rfl, ho0, hb⟩; refine ⟨_, rfl, ?_⟩; have m_ := Aside0.mk (below_step (by repeat (first | exact HB.out | apply below_alloc | apply pw_below_drewN | apply below_drew1)) hb); obtain ⟨Y2_, cY2_, rfl, hl_, hC_⟩ := Kd.R_reads ho0; have n_ := Aside0.mk (And.intro hl_ hC_); have o_ := Aside0.mk (And.intro HX2.out.1 (Kd.C_below (by repeat (first | exact HX2.out.2 | (with_reducible refine Kd.C_alloc ?_ _) | (with_reducible refine Kd.C_drewN ?_ _) | (with_reducible refine Kd.C_drew ?_))) hb)); clear HX2; have HX2 := o_; clear o_; clear HB ho0 hb hl_ hC_; have HB := m_; have HY2 := n_; clear m_ n_) | ((with_reducible refine gate_callee (f := 60) rfl ?_); refine goesL_ (some 19) rfl rfl Try.func60 (by kernel_rfl) rfl #[.slice X2_ o.length cX2_, .slice Y2_ o.length cY2_] rfl (by (try simp only [List.map_toArray, List.map_cons, List.map_nil]); first | done | rfl | (simp only [List.length_drop, List.length_take]; rfl)) ?_; (with_reducible refine (jacquardref02_Nums.calls k _ _ o _ _ o true _ ?s1 ?s2 ?s3 ?s4 E6.out).mono ?_); (case s1 => repeat (first | exact HX2.out.2 | (with_reducible refine Kd.C_alloc ?_ _) | (with_reducible refine Kd.C_drewN ?_ _) | (with_reducible refine Kd.C_drew ?_))); (case s2 => exact HX2.out.1); (case s3 => repeat (first | exact HY2.out.2 | (with_reducible refine Kd.C_alloc ?_ _) | (with_reducible refine Kd.C_drewN ?_ _) | (with_reducible refine Kd.C_drew ?_))); (case s4 => exact HY2.out.1); rintro e w' ⟨rfl, ⟨nd, rfl⟩⟩; refine ⟨_, rfl, ?_⟩; clear HX2 HY2) | ((with_reducible refine gate_callee (f := 30) rfl ?_); refine goesL_ (some 21) rfl rfl Try.func30 (by kernel_rfl) rfl #[.slice A0 l0.length c0] rfl (by (try simp only [List.map_toArray, List.map_cons, List.map_nil]); first | done | rfl | (simp only [List.length_drop, List.length_take]; rfl)) ?_; (with_reducible refine (graph_Idom.calls k _ _ l0 d _ ?s1 ?s2 E7.out).mono ?_); (case s1 => repeat (first | exact (Kd.C_below HR0.out HB.out) | (with_reducible refine Kd.C_alloc ?_ _) | (with_reducible refine Kd.C_drewN ?_ _) | (with_reducible refine Kd.C_drew ?_))); (case s2 => exact HC0.out); rintro e w_ ⟨v_, rfl, ho0, hb⟩; refine ⟨_, rfl, ?_⟩; have m_ := Aside0.mk (below_step (by repeat (first | exact HB.out | apply below_alloc | apply pw_below_drewN | apply below_drew1)) hb); obtain ⟨X3_, cX3_, rfl, hl_, hC_⟩ := Kd.R_reads ho0; have n_ := Aside0.mk (And.intro hl_ hC_); clear HB ho0 hb hl_ hC_; have HB := m_; have HX3 := n_; clear m_ n_) | ((with_reducible refine gate_callee (f := 64) rfl ?_); refine goesL_ (some 23) rfl rfl Try.func64 (by kernel_rfl) rfl #[.slice A0 l0.length c0] rfl (by (try simp only [List.map_toArray, List.map_cons, List.map_nil]); first | done | rfl | (simp only [List.length_drop, List.length_take]; rfl)) ?_; (with_reducible refine (jacquardref02_Idom.calls k _ _ l0 d _ ?s1 ?s2 E8.out).mono ?_); (case s1 => repeat (first | exact (Kd.C_below HR0.out HB.out) | (with_reducible refine Kd.C_alloc ?_ _) | (with_reducible refine Kd.C_drewN ?_ _) | (with_reducible refine Kd.C_drew ?_))); (case s2 => exact HC0.out); rintro e w_ ⟨v_, rfl, ho0, hb⟩; refine ⟨_, rfl, ?_⟩; have m_ := Aside0.mk (below_step (by repeat (first | exact HB.out | apply below_alloc | apply pw_below_drewN | apply below_drew1)) hb); obtain ⟨Y3_, cY3_, rfl, hl_, hC_⟩ := Kd.R_reads ho0; have n_ := Aside0.mk (And.intro hl_ hC_); have o_ := Aside0.mk (And.intro HX3.out.1 (Kd.C_below (by repeat (first | exact HX3.out.2 | (with_reducible refine Kd.C_alloc ?_ _) | (with_reducible refine Kd.C_drewN ?_ _) | (with_reducible refine Kd.C_drew ?_))) hb)); clear HX3; have HX3 := o_; clear o_; clear HB ho0 hb hl_ hC_; have HB := m_; have HY3 := n_; clear m_ n_) | ((with_reducible refine gate_callee (f := 60) rfl ?_); refine goesL_ (some 24) rfl rfl Try.func60 (by kernel_rfl) rfl #[.slice X3_ d.length cX3_, .slice Y3_ d.length cY3_] rfl (by (try simp only [List.map_toArray, List.map_cons, List.map_nil]); first | done | rfl | (simp only [List.length_drop, List.length_take]; rfl)) ?_; (with_reducible refine (jacquardref02_Nums.calls k _ _ d _ _ d true _ ?s1 ?s2 ?s3 ?s4 E9.out).mono ?_); (case s1 => repeat (first | exact HX3.out.2 | (with_reducible refine Kd.C_alloc ?_ _) | (with_reducible refine Kd.C_drewN ?_ _) | (with_reducible refine Kd.C_drew ?_))); (case s2 => exact HX3.out.1); (case s3 => repeat (first | exact HY3.out.2 | (with_reducible refine Kd.C_alloc ?_ _) | (with_reducible refine Kd.C_drewN ?_ _) | (with_reducible refine Kd.C_drew ?_))); (case s4 => exact HY3.out.1); rintro e w' ⟨rfl, ⟨nd, rfl⟩⟩; refine ⟨_, rfl, ?_⟩; clear HX3 HY3) | ((with_reducible refine gate_callee (f := 38) rfl ?_); refine goesL_ (some 26) rfl rfl Try.func38 (by kernel_rfl) rfl #[.slice A0 l0.length c0] rfl (by (try simp only [List.map_toArray, List.map_cons, List.map_nil]); first | done | rfl | (simp only [List.length_drop, List.length_take]; rfl)) ?_; (with_reducible refine (graph_Headers.calls k _ _ l0 hd _ ?s1 ?s2 E10.out).mono ?_); (case s1 => repeat (first | exact (Kd.C_below HR0.out HB.out) | (with_reducible refine Kd.C_alloc ?_ _) | (with_reducible refine Kd.C_drewN ?_ _) | (with_reducible refine Kd.C_drew ?_))); (case s2 => exact HC0.out); rintro e w_ ⟨v_, rfl, ho0, hb⟩; refine ⟨_, rfl, ?_⟩; have m_ := Aside0.mk (below_step (by repeat (first | exact HB.out | apply below_alloc | apply pw_below_drewN | apply below_drew1)) hb); obtain ⟨X4_, cX4_, rfl, hl_, hC_⟩ := Kd.R_reads ho0; have n_ := Aside0.mk (And.intro hl_ hC_); clear HB ho0 hb hl_ hC_; have HB := m_; have HX4 := n_; clear m_ n_) | ((with_reducible refine gate_callee (f := 65) rfl ?_); refine goesL_ (some 28) rfl rfl Try.func65 (by kernel_rfl) rfl #[.slice A0 l0.length c0] rfl (by (try simp only [List.map_toArray, List.map_cons, List.map_nil]); first | done | rfl | (simp only [List.length_drop, List.length_take]; rfl)) ?_; (with_reducible refine (jacquardref02_Headers.calls k _ _ l0 hd _ ?s1 ?s2 E11.out).mono ?_); (case s1 => repeat (first | exact (Kd.C_below HR0.out HB.out) | (with_reducible refine Kd.C_alloc ?_ _) | (with_reducible refine Kd.C_drewN ?_ _) | (with_reducible refine Kd.C_drew ?_))); (case s2 => exact HC0.out); rintro e w_ ⟨v_, rfl, ho0, hb⟩; refine ⟨_, rfl, ?_⟩; have m_ := Aside0.mk (below_step (by repeat (first | exact HB.out | apply below_alloc | apply pw_below_drewN | apply below_drew1)) hb); obtain ⟨Y4_, cY4_, rfl, hl_, hC_⟩ := Kd.R_reads ho0; have n_ := Aside0.mk (And.intro hl_ hC_); have o_ := Aside0.mk (And.intro HX4.out.1 (Kd.C_below (by repeat (first | exact HX4.out.2 | (with_reducible refine Kd.C_alloc ?_ _) | (with_reducible refine Kd.C_drewN ?_ _) | (with_reducible refine Kd.C_drew ?_))) hb)); clear HX4; have HX4 := o_; clear o_; clear HB ho0 hb hl_ hC_; have HB := m_; have HY4 := n_; clear m_ n_) | ((with_reducible refine gate_callee (f := 60) rfl ?_); refine goesL_ (some 29) rfl rfl Try.func60 (by kernel_rfl) rfl #[.slice X4_ hd.length cX4_, .slice Y4_ hd.length cY4_] rfl (by (try simp only [List.map_toArray, List.map_cons, List.map_nil]); first | done | rfl | (simp only [List.length_drop, List.length_take]; rfl)) ?_; (with_reducible refine (jacquardref02_Nums.calls k _ _ hd _ _ hd true _ ?s1 ?s2 ?s3 ?s4 E12.out).mono ?_); (case s1 => repeat (first | exact HX4.out.2 | (with_reducible refine Kd.C_alloc ?_ _) | (with_reducible refine Kd.C_drewN ?_ _) | (with_reducible refine Kd.C_drew ?_))); (case s2 => exact HX4.out.1); (case s3 => repeat (first | exact HY4.out.2 | (with_reducible refine Kd.C_alloc ?_ _) | (with_reducible refine Kd.C_drewN ?_ _) | (with_reducible refine Kd.C_drew ?_))); (case s4 => exact HY4.out.1); rintro e w' ⟨rfl, ⟨nd, rfl⟩⟩; refine ⟨_, rfl, ?_⟩; clear HX4 HY4) | ((with_reducible refine gate_callee (f := 48) rfl ?_); refine goesL_ (some 31) rfl rfl Try.func48 (by kernel_rfl) rfl #[.slice A0 l0.length c0] rfl (by (try simp only [List.map_toArray, List.map_cons, List.map_nil]); first | done | rfl | (simp only [List.length_drop, List.length_take]; rfl)) ?_; (with_reducible refine (graph_Critical.calls _ _ l0 c _ ?s1 ?s2 E13.out).mono ?_); (case s1 => repeat (first | exact (Kd.C_below HR0.out HB.out) | (with_reducible refine Kd.C_alloc ?_ _) | (with_reducible refine Kd.C_drewN ?_ _) | (with_reducible refine Kd.C_drew ?_))); (case s2 => exact HC0.out); rintro e w_ ⟨v_, rfl, ho0, hb⟩; refine ⟨_, rfl, ?_⟩; have m_ := Aside0.mk (below_step (by repeat (first | exact HB.out | apply below_alloc | apply pw_below_drewN | apply below_drew1)) hb); obtain ⟨X5_, cX5_, rfl, hl_, hC_⟩ := Kd.R_reads ho0; have n_ := Aside0.mk (And.intro hl_ hC_); clear HB ho0 hb hl_ hC_; have HB := m_; have HX5 := n_; clear m_ n_) | ((with_reducible refine gate_callee (f := 66) rfl ?_); refine goesL_ (some 33) rfl rfl Try.func66 (by kernel_rfl) rfl #[.slice A0 l0.length c0] rfl (by (try simp only [List.map_toArray, List.map_cons, List.map_nil]); first | done | rfl | (simp only [List.length_drop, List.length_take]; rfl)) ?_; (with_reducible refine (jacquardref02_Critical.calls k _ _ l0 c _ ?s1 ?s2 E14.out).mono ?_); (case s1 => repeat (first | exact (Kd.C_below HR0.out HB.out) | (with_reducible refine Kd.C_alloc ?_ _) | (with_reducible refine Kd.C_drewN ?_ _) | (with_reducible refine Kd.C_drew ?_))); (case s2 => exact HC0.out); rintro e w_ ⟨v_, rfl, ho0, hb⟩; refine ⟨_, rfl, ?_⟩; have m_ := Aside0.mk (below_step (by repeat (first | exact HB.out | apply below_alloc | apply pw_below_drewN | apply below_drew1)) hb); obtain ⟨Y5_, cY5_, rfl, hl_, hC_⟩ := Kd.R_reads ho0; have n_ := Aside0.mk (And.intro hl_ hC_); have o_ := Aside0.mk (And.intro HX5.out.1 (Kd.C_below (by repeat (first | exact HX5.out.2 | (with_reducible refine Kd.C_alloc ?_ _) | (with_reducible refine Kd.C_drewN ?_ _) | (with_reducible refine Kd.C_drew ?_))) hb)); clear HX5; have HX5 := o_; clear o_; clear HB ho0 hb hl_ hC_; have HB := m_; have HY5 := n_; clear m_ n_) | ((with_reducible refine gate_callee (f := 61) rfl ?_); refine goesL_ (some 34) rfl rfl Try.func61 (by kernel_rfl) rfl #[.slice X5_ c.length cX5_, .slice Y5_ c.length cY5_] rfl (by (try simp only [List.map_toArray, List.map_cons, List.map_nil]); first | done | rfl | (simp only [List.length_drop, List.length_take]; rfl)) ?_; (with_reducible refine (jacquardref02_Pairs.calls _ _ c _ _ c true _ ?s1 ?s2 ?s3 ?s4 E15.out).mono ?_); (case s1 => repeat (first | exact HX5.out.2 | (with_reducible refine Kd.C_alloc ?_ _) | (with_reducible refine Kd.C_drewN ?_ _) | (with_reducible refine Kd.C_drew ?_))); (case s2 => exact HX5.out.1); (case s3 => repeat (first | exact HY5.out.2 | (with_reducible refine Kd.C_alloc ?_ _) | (with_reducible refine Kd.C_drewN ?_ _) | (with_reducible refine Kd.C_drew ?_))); (case s4 => exact HY5.out.1); rintro e w' ⟨rfl, ⟨nd, rfl⟩⟩; refine ⟨_, rfl, ?_⟩; clear HX5 HY5) | (go_at_call 49; (with_reducible refine (graph_Reducible.calls k _ _ l0 v _ ?s1 ?s2 E16.out).mono ?_); (case s1 => repeat (first | exact (Kd.C_below HR0.out HB.out) | (with_reducible refine Kd.C_alloc ?_ _) | (with_reducible refine Kd.C_drewN ?_ _) | (with_reducible refine Kd.C_drew ?_))); (case s2 => exact HC0.out); rintro e w_ ⟨rfl, hb⟩; have m_ := Aside0.mk (below_step (by repeat (first | exact HB.out | apply below_alloc | apply pw_below_drewN | apply below_drew1)) hb); clear HB hb; have HB := m_; clear m_) | (go_at_call 67; (with_reducible refine (jacquardref02_Reducible.calls k _ _ l0 v _ ?s1 ?s2 E17.out).mono ?_); (case s1 => repeat (first | exact (Kd.C_below HR0.out HB.out) | (with_reducible refine Kd.C_alloc ?_ _) | (with_reducible refine Kd.C_drewN ?_ _) | (with_reducible refine Kd.C_drew ?_))); (case s2 => exact HC0.out); rintro e w_ ⟨rfl, hb⟩; have m_ := Aside0.mk (below_step (by repeat (first | exact HB.out | apply below_alloc | apply pw_below_drewN | apply below_drew1)) hb); clear HB hb; have HB := m_; clear m_))
  clear E1 E2 E3 E4 E5 E6 E7 E8 E9 E10 E11 E12 E13 E14 E15 E16 E17
  go_loopg [8] (l0.length + 2) (fun kq v8 w' => ∃ x8 : Int, v8 = .int .i64 x8 ∧ Aside0 (-1 ≤ x8 ∧ x8 + kq = l0.length + 1) ∧ Aside0 (Below w.heap.size w w'))
  case atStart => exact ⟨-1, rfl, ⟨by omega, by omega⟩, ⟨(by repeat (first | exact HB.out | apply below_alloc | apply pw_below_drewN | apply below_drew1))⟩⟩
  case round =>
    clear HB
    obtain ⟨x8, rfl, HK, HB⟩ := hrel
    by_cases c8 : x8 ≤ (l0.length : Int)
    · obtain ⟨s, g1, g2, g3⟩ := E18.out x8 HK.out.1 c8
      have G1 := Aside0.mk g1
      have G2 := Aside0.mk g2
      have G3 := Aside0.mk g3
      have HW := Aside0.mk (show wrap64 (x8 + 1) = x8 + 1 by unfold wrap64; have := HK.out; have := HOK.out; omega)
      have c8b : decide (x8 ≤ (l0.length : Int)) = true := decide_eq_true c8
      have HC8 := Aside0.mk c8
      clear g1 g2 g3 c8
      go_wp2_with (first | ((with_reducible refine gate_callee (f := 39) rfl ?_); refine goesL_ (some 68) rfl rfl Try.func39 (by kernel_rfl) rfl #[.slice A0 l0.length c0, .int .i64 x8] rfl (by (try simp only [List.map_toArray, List.map_cons, List.map_nil]); first | done | rfl | (simp only [List.length_drop, List.length_take]; rfl)) ?_; (with_reducible refine (graph_Body.calls k _ _ l0 x8 s _ ?s1 ?s2 G1.out).mono ?_); (case s1 => repeat (first | exact (Kd.C_below HR0.out HB.out) | (with_reducible refine Kd.C_alloc ?_ _) | (with_reducible refine Kd.C_drewN ?_ _) | (with_reducible refine Kd.C_drew ?_))); (case s2 => exact HC0.out); rintro e w_ ⟨v_, rfl, ho0, hb⟩; refine ⟨_, rfl, ?_⟩; have m_ := Aside0.mk (below_step (by repeat (first | exact HB.out | apply below_alloc | apply pw_below_drewN | apply below_drew1)) hb); obtain ⟨X1_, cX1_, rfl, hl_, hC_⟩ := Kd.R_reads ho0; have n_ := Aside0.mk (And.intro hl_ hC_); clear HB ho0 hb hl_ hC_; have HB := m_; have HX1 := n_; clear m_ n_) | ((with_reducible refine gate_callee (f := 68) rfl ?_); refine goesL_ (some 71) rfl rfl Try.func68 (by kernel_rfl) rfl #[.slice A0 l0.length c0, .int .i64 x8] rfl (by (try simp only [List.map_toArray, List.map_cons, List.map_nil]); first | done | rfl | (simp only [List.length_drop, List.length_take]; rfl)) ?_; (with_reducible refine (jacquardref02_Body.calls k _ _ l0 x8 s _ ?s1 ?s2 G2.out).mono ?_); (case s1 => repeat (first | exact (Kd.C_below HR0.out HB.out) | (with_reducible refine Kd.C_alloc ?_ _) | (with_reducible refine Kd.C_drewN ?_ _) | (with_reducible refine Kd.C_drew ?_))); (case s2 => exact HC0.out); rintro e w_ ⟨v_, rfl, ho0, hb⟩; refine ⟨_, rfl, ?_⟩; have m_ := Aside0.mk (below_step (by repeat (first | exact HB.out | apply below_alloc | apply pw_below_drewN | apply below_drew1)) hb); obtain ⟨Y1_, cY1_, rfl, hl_, hC_⟩ := Kd.R_reads ho0; have n_ := Aside0.mk (And.intro hl_ hC_); have o_ := Aside0.mk (And.intro HX1.out.1 (Kd.C_below (by repeat (first | exact HX1.out.2 | (with_reducible refine Kd.C_alloc ?_ _) | (with_reducible refine Kd.C_drewN ?_ _) | (with_reducible refine Kd.C_drew ?_))) hb)); clear HX1; have HX1 := o_; clear o_; clear HB ho0 hb hl_ hC_; have HB := m_; have HY1 := n_; clear m_ n_) | ((with_reducible refine gate_callee (f := 60) rfl ?_); refine goesL_ (some 72) rfl rfl Try.func60 (by kernel_rfl) rfl #[.slice X1_ s.length cX1_, .slice Y1_ s.length cY1_] rfl (by (try simp only [List.map_toArray, List.map_cons, List.map_nil]); first | done | rfl | (simp only [List.length_drop, List.length_take]; rfl)) ?_; (with_reducible refine (jacquardref02_Nums.calls k _ _ s _ _ s true _ ?s1 ?s2 ?s3 ?s4 G3.out).mono ?_); (case s1 => repeat (first | exact HX1.out.2 | (with_reducible refine Kd.C_alloc ?_ _) | (with_reducible refine Kd.C_drewN ?_ _) | (with_reducible refine Kd.C_drew ?_))); (case s2 => exact HX1.out.1); (case s3 => repeat (first | exact HY1.out.2 | (with_reducible refine Kd.C_alloc ?_ _) | (with_reducible refine Kd.C_drewN ?_ _) | (with_reducible refine Kd.C_drew ?_))); (case s4 => exact HY1.out.1); rintro e w' ⟨rfl, ⟨nd, rfl⟩⟩; refine ⟨_, rfl, ?_⟩; clear HX1 HY1))
      cases gk with
      | zero => have := HK.out; have := HC8.out; omega
      | succ k1 =>
        go_roundg k1
        case measure => omega
        case rel => exact ⟨wrap64 (x8 + 1), (by first | rfl | (simp; done) | (simp [*]; done)), ⟨by rw [HW.out]; have := HK.out; omega⟩, ⟨(by repeat (first | exact HB.out | apply below_alloc | apply pw_below_drewN | apply below_drew1))⟩⟩
    · have c8b : decide (x8 ≤ (l0.length : Int)) = false := decide_eq_false c8
      clear c8
      go_wp2
      go_ret
      exact ⟨rfl, (by repeat (first | exact HB.out | apply below_alloc | apply pw_below_drewN | apply below_drew1))⟩
end Go.Proofs.Ytnmeomdjhjgnfaa.X
end
section
set_option linter.unusedSimpArgs false
set_option linter.unusedVariables false
namespace Go.Proofs.Ytnmeomdjhjgnfaa.X
open Go.RowKit Go.Proofs.YtnmeomdjhjgnfaaW.PrintWords Go.Proofs.YtnmeomdjhjgnfaaW.PrintLast
attribute [local go_sem] min2_int min_two

/-- A row of slices, as they stand. -/
def svK : Kd (Option Addr × Nat × Nat) := Kd.scalar (fun x => .slice x.1 x.2.1 x.2.2) (fun _ => rfl)
def fewL (l : List (List Int)) : List (List Int) := (l.take 12).map (fun r => r.take 5)
/-- Each slice reads as its row. -/
def Fits (w : World) (vs : List (Option Addr × Nat × Nat)) (rows : List (List Int)) : Prop :=
  vs.length = rows.length ∧ ∀ (i : Nat) x row, vs[i]? = some x → rows[i]? = some row → x.2.1 = row.length ∧ row.length ≤ x.2.2 ∧ Kd.C (Kd.int .i64) w x.1 row.length row
theorem Fits.snoc {w : World} {vs : List (Option Addr × Nat × Nat)} {rows : List (List Int)} (h : Fits w vs rows) {A : Option Addr} {c : Nat} {row : List Int} (hl : row.length ≤ c) (hC : Kd.C (Kd.int .i64) w A row.length row) : Fits w (vs ++ [(A, row.length, c)]) (rows ++ [row]) := by
  refine ⟨by simp [h.1], fun i x r hx hr => ?_⟩
  by_cases hi : i < vs.length
  · rw [List.getElem?_append_left hi] at hx
    rw [List.getElem?_append_left (by rw [← h.1]; exact hi)] at hr
    exact h.2 i x r hx hr
  · rw [List.getElem?_append_right (by omega)] at hx
    rw [List.getElem?_append_right (by rw [← h.1]; omega), ← h.1] at hr
    cases he : i - vs.length with
    | zero =>
      rw [he] at hx hr
      simp at hx hr
      subst hx; subst hr
      exact ⟨rfl, hl, hC⟩
    | succ j => rw [he] at hx; simp at hx
/-- A row of one's own of slices that read as rows. -/
theorem Fits.read {w w' : World} {A : Option Addr} {vs : List (Option Addr × Nat × Nat)} {rows : List (List Int)} (h : Fits w vs rows) (hC : svK.C w' A vs.length vs) (hb : Below w.heap.size w w') : Kd.C (Kd.slice 3 (Kd.int .i64)) w' A rows.length rows := by
  obtain ⟨h1, h2, h3⟩ := hC
  refine ⟨rfl, by rw [← h.1]; exact h2, fun hp => ?_⟩
  obtain ⟨ad, hA, hcell⟩ := h3 (by rw [h.1]; exact hp)
  refine ⟨ad, hA, fun j row hj => ?_⟩
  have hlt : j < vs.length := by rw [h.1]; exact (List.getElem?_eq_some_iff.1 hj).1
  obtain ⟨cs, hs, hk, hc⟩ := hcell j vs[j] (List.getElem?_eq_getElem hlt)
  obtain ⟨e1, e2, e3⟩ := h.2 j vs[j] row (List.getElem?_eq_getElem hlt) hj
  refine ⟨cs, hs, ⟨vs[j].1, vs[j].2.2, ?_, e2, Kd.C_below e3 hb⟩, hc⟩
  rw [← e1]
  exact hk
def few.T5 : Bool × List (List Nat × List Nat) := (true, [([], []), ([], []), ([], []), ([1, 2], [1, 2]), ([3], [3]), ([], []), ([], []), ([5, 6], [5, 6]), ([7], [7]), ([8], [8]), ([9], [9]), ([4, 10], [4, 10]), ([11], [11]), ([0, 12], [0, 12]), ([13, 13, 0, 1, 2, 3, 4, 5, 6, 7, 8, 9, 10, 11, 12, 13], [0, 13])])
def few.B5 : List Nat := [0, 0, 0, 6, 14, 0, 0, 96, 224, 480, 992, 2046, 4094, 8191, 16383]
theorem few.tab5 : rtab .any (opsOf Try.f24 5) = few.T5 := by kernel_rfl
theorem few.bits5 : waitsOk few.T5.2 few.B5 = true := by kernel_rfl
theorem few_take (l0 : List (List Int)) (x4 : Int) (h0 : 0 ≤ x4) (h1 : x4 < l0.length) : ((l0.take x4.toNat).map fun r => r.take 5) ++ [(rd_L1 l0 x4).take 5] = (l0.take (x4 + 1).toNat).map fun r => r.take 5 := by
  have e : (x4 + 1).toNat = x4.toNat + 1 := by omega
  have hlt : x4.toNat < l0.length := by omega
  have e2 : rd_L1 l0 x4 = l0[x4.toNat] := by
    unfold rd_L1
    rw [List.getD_eq_getElem?_getD, List.getElem?_eq_getElem hlt]; rfl
  rw [e, List.take_succ_eq_append_getElem hlt, List.map_append, e2]
  rfl
set_option maxHeartbeats 8000000 in
set_option maxRecDepth 100000 in
theorem few_calls (A0 : Option Addr) (c0 : Nat) (l0 : List (List Int)) (w : World) (hr0 : Kd.C (Kd.slice 3 (Kd.int .i64)) w A0 l0.length l0) :
    Calls Try.prog 24 #[.slice A0 l0.length c0] w fun e w' => ∃ A c, e = .returned (.slice A (fewL l0).length c) ∧ (fewL l0).length ≤ c ∧ Kd.C (Kd.slice 3 (Kd.int .i64)) w' A (fewL l0).length (fewL l0) ∧ Below w.heap.size w w' := by
  have HR0 := Aside0.mk hr0
  have HB := Aside0.mk (Below.refl w.heap.size w)
  clear hr0
  go_enter Try.func24, Try.ntmps24
  go_wp2
  go_loopg [3, 4] 13 (fun kq v3 v4 w' => ∃ (x4 : Int) (vs : List (Option Addr × Nat × Nat)), v4 = .int .i64 x4 ∧ Aside0 (0 ≤ x4 ∧ x4 ≤ l0.length ∧ x4 ≤ 12 ∧ x4 + kq = 13) ∧ Aside0 (svK.R 23 w' w.heap.size (fun _ => True) v3 vs) ∧ Aside0 (Fits w vs ((l0.take x4.toNat).map fun r => r.take 5)) ∧ Aside0 (Below w.heap.size w w'))
  case atStart => exact ⟨0, [], rfl, ⟨by omega, by omega, by omega, by omega⟩, ⟨Kd.R_nil _ _ _ _ _⟩, ⟨rfl, fun i x r h => by simp at h⟩, ⟨by repeat (first | exact HB.out | apply below_alloc | apply pw_below_drewN | apply below_drew1)⟩⟩
  case round =>
    obtain ⟨x4, vs, rfl, HK, HO3, HF, HB⟩ := hrel
    have hend : (¬ x4 < (l0.length : Int) ∨ ¬ x4 < 12) → (l0.take x4.toNat).map (fun r => r.take 5) = fewL l0 := by
      intro h
      obtain ⟨k0, k1, k2, _⟩ := HK.out
      unfold fewL
      rcases h with h | h
      · rw [List.take_of_length_le (by omega), List.take_of_length_le (by omega)]
      · rw [show x4.toNat = 12 from by omega]
    have HEND := Aside0.mk hend
    clear hend
    have fin : ∀ (h : ¬ x4 < (l0.length : Int) ∨ ¬ x4 < 12) (v : Value) (w' : World), svK.R 23 w' w.heap.size (fun _ => True) v vs → Below w.heap.size w w' → ∃ A c, v = .slice A (fewL l0).length c ∧ (fewL l0).length ≤ c ∧ Kd.C (Kd.slice 3 (Kd.int .i64)) w' A (fewL l0).length (fewL l0) := by
      intro h v w' hR hb
      have hF := HF.out
      rw [HEND.out h] at hF
      obtain ⟨A, c, rfl, hl, hC⟩ := Kd.R_reads hR
      exact ⟨A, c, by rw [← hF.1], by rw [← hF.1]; exact hl, hF.read hC hb⟩
    have FIN := Aside0.mk fin
    clear fin
    by_cases c2 : x4 < (l0.length : Int)
    · by_cases c3 : x4 < 12
      · have c2b0 : decide (x4 < (l0.length : Int)) = true := decide_eq_true c2
        have c3b0 : decide (x4 < 12) = true := decide_eq_true c3
        have HC2 := Aside0.mk c2
        have HC3 := Aside0.mk c3
        obtain ⟨k1, rfl⟩ : ∃ m, gk = m + 1 := ⟨gk - 1, by have := HK.out; omega⟩
        clear c2 c3
        try go_wp2
        have c2 := HC2.out
        obtain ⟨k0, k1, k2, k3⟩ := HK.out
        obtain ⟨ad, A, c, e0, hx0, hl, hC⟩ := at_L1 HR0.out x4 k0 c2
        subst e0
        have hx : wr.drew.cell? (ad.add x4.toNat) = some (.slice A (rd_L1 l0 x4).length c) := ((below_drew1 HB.out).cell (World.block_lt_of_cell? _ _ hx0)).trans hx0
        clear hx0
        obtain ⟨row, hrow⟩ : ∃ row, row = (rd_L1 l0 x4).take 5 := ⟨_, rfl⟩
        obtain ⟨ji, hji⟩ : ∃ j_ : Int, (if 5 < ((rd_L1 l0 x4).length : Int) then 5 else ((rd_L1 l0 x4).length : Int)) = j_ := ⟨_, rfl⟩
        have hj0 : 0 ≤ ji := by rw [← hji]; split <;> omega
        have hj1 : ji ≤ ((rd_L1 l0 x4).length : Int) := by rw [← hji]; split <;> omega
        have hrl : row.length = ji.toNat := by rw [hrow, List.length_take, ← hji]; split <;> omega
        have hrt : (rd_L1 l0 x4).take ji.toNat = row := by
          rw [hrow, ← hji]
          split
          · rfl
          · rw [List.take_of_length_le (by omega), List.take_of_length_le (by omega)]
        have hRC : Kd.C (Kd.int .i64) w A row.length row := by
          have := Kd.C_take hC (m := ji.toNat) (by omega)
          rw [hrt] at this
          exact this
        have hcap : row.length ≤ c := by omega
        obtain ⟨i010, hi010, _, hsz10, _⟩ := info_parts info3
        have hcut10 := cut_to (P := Try.prog) 23 3 .i64 Try.underlying23 hi010 A (rd_L1 l0 x4).length c ji hj0 hj1 hl
        rw [← hrl] at hcut10
        have HF2 := Aside0.mk (HF.out.snoc hcap hRC)
        rw [hrow, few_take l0 x4 k0 c2, ← hrow] at HF2
        have HB := Aside0.mk (below_drew1 HB.out)
        have HO3 := Aside0.mk (Kd.R_drew HO3.out)
        have p0 := eq_true k0
        have q0 := eq_true c2
        have j0 := eq_true hj0
        have j1 := eq_true hj1
        have j0b : decide (0 ≤ ji) = true := decide_eq_true hj0
        have j1b : decide (ji ≤ ((rd_L1 l0 x4).length : Int)) = true := decide_eq_true hj1
        have p0b : decide (0 ≤ x4) = true := decide_eq_true k0
        have HW := Aside0.mk (show wrap64 (x4 + 1) = x4 + 1 by unfold wrap64; omega)
        have HLV := Aside0.mk (show vs.length ≤ 12 by rw [HF.out.1, List.length_map, List.length_take]; omega)
        clear c2 k0 k1 k2 k3 hj0 hj1 hrl hrt hRC hC hl hi010 hsz10 HF hrow hcap
        refine start_ (n := 15) (S := fun w' => w'.cell? (ad.add x4.toNat) = some (.slice A (rd_L1 l0 x4).length c) ∧ w'.cell? (ad.add x4.toNat) = some (.slice A (rd_L1 l0 x4).length c)) (ds := [12, 13]) #[false, false, false, false, false, false, false, false, false, false, false, false, false, false, false] (by kernel_rfl) rfl rfl ⟨hx, hx⟩ (fun hHeld => ?_); refine with_tabW few.tab5 few.bits5 (fun HT_ HW_ => ?_)
        generalize wr.drew = w9 at HO3 HB hx hHeld ⊢
        refine pure_ (i := 0) (N := some 15) (v := ?_) (a' := ?_) #[true, false, false, false, false, false, false, false, false, false, false, false, false, false, false] rfl rfl (any_of HT_.out (by kernel_rfl)) (fun _ _ _ h => h) (Or.inl ⟨by rfl, ?_⟩) ?_ ?_
        rotate_left
        · intro w'
          go_simp
          with_reducible rfl
        rotate_left
        · simp only [Act.put, List.setIfInBounds_toArray, List.set_cons_zero, List.set_cons_succ, i64_w, i32_w]
          rfl
        refine pure_ (i := 1) (N := some 16) (v := ?_) (a' := ?_) #[true, true, false, false, false, false, false, false, false, false, false, false, false, false, false] rfl rfl (any_of HT_.out (by kernel_rfl)) (fun _ _ _ h => h) (Or.inl ⟨by rfl, ?_⟩) ?_ ?_
        rotate_left
        · intro w'
          go_simp
          with_reducible rfl
        rotate_left
        · simp only [Act.put, List.setIfInBounds_toArray, List.set_cons_zero, List.set_cons_succ, i64_w, i32_w]
          rfl
        refine pure_ (i := 2) (N := some 17) (v := ?_) (a' := ?_) #[true, true, true, false, false, false, false, false, false, false, false, false, false, false, false] rfl rfl (any_of HT_.out (by kernel_rfl)) (fun _ _ _ h => h) (Or.inl ⟨by rfl, ?_⟩) ?_ ?_
        rotate_left
        · intro w'
          go_simp
          with_reducible rfl
        rotate_left
        · simp only [Act.put, List.setIfInBounds_toArray, List.set_cons_zero, List.set_cons_succ, i64_w, i32_w]
          rfl
        refine pure_ (i := 3) (N := some 18) (v := ?_) (a' := ?_) #[true, true, true, true, false, false, false, false, false, false, false, false, false, false, false] rfl rfl (any_of HT_.out (by kernel_rfl)) (fun _ _ _ h => h) (Or.inl ⟨by rfl, ?_⟩) ?_ ?_
        rotate_left
        · intro w'
          go_simp
          with_reducible rfl
        rotate_left
        · simp only [Act.put, List.setIfInBounds_toArray, List.set_cons_zero, List.set_cons_succ, i64_w, i32_w]
          rfl
        refine pure_ (i := 5) (N := some 20) (v := ?_) (a' := ?_) #[true, true, true, true, false, true, false, false, false, false, false, false, false, false, false] rfl rfl (any_of HT_.out (by kernel_rfl)) (fun _ _ _ h => h) (Or.inl ⟨by rfl, ?_⟩) ?_ ?_
        rotate_left
        · intro w'
          go_simp
          with_reducible rfl
        rotate_left
        · simp only [Act.put, List.setIfInBounds_toArray, List.set_cons_zero, List.set_cons_succ, i64_w, i32_w]
          rfl
        refine pure_ (i := 6) (N := some 21) (v := ?_) (a' := ?_) #[true, true, true, true, false, true, true, false, false, false, false, false, false, false, false] rfl rfl (any_of HT_.out (by kernel_rfl)) (fun _ _ _ h => h) (Or.inl ⟨by rfl, ?_⟩) ?_ ?_
        rotate_left
        · intro w'
          go_simp
          with_reducible rfl
        rotate_left
        · simp only [Act.put, List.setIfInBounds_toArray, List.set_cons_zero, List.set_cons_succ, i64_w, i32_w]
          rfl
        refine pure_ (i := 7) (N := some 22) (v := ?_) (a' := ?_) #[true, true, true, true, false, true, true, true, false, false, false, false, false, false, false] rfl rfl (any_of HT_.out (by kernel_rfl)) (fun _ _ _ h => h) (Or.inl ⟨by rfl, ?_⟩) ?_ ?_
        rotate_left
        · intro w'
          go_simp
          with_reducible rfl
        rotate_left
        · simp only [Act.put, List.setIfInBounds_toArray, List.set_cons_zero, List.set_cons_succ, i64_w, i32_w]
          rfl
        refine take_ (i := 4) (N := some 19) (v := ?_) (a' := ?_) #[true, true, true, true, true, true, true, true, false, false, false, false, false, false, false] rfl rfl (take_ofW HT_.out HW_.out (by kernel_rfl)) (fun _ _ _ h => h) (Or.inl ⟨by rfl, ?_⟩) hHeld ?_ ?_
        rotate_left
        · rintro w' ⟨s0, s1⟩
          go_simp
          with_reducible rfl
        rotate_left
        · simp only [Act.put, List.setIfInBounds_toArray, List.set_cons_zero, List.set_cons_succ, i64_w, i32_w]
          rfl
        refine take_ (i := 8) (N := some 23) (v := ?_) (a' := ?_) #[true, true, true, true, true, true, true, true, true, false, false, false, false, false, false] rfl rfl (take_ofW HT_.out HW_.out (by kernel_rfl)) (fun _ _ _ h => h) (Or.inl ⟨by rfl, ?_⟩) hHeld ?_ ?_
        rotate_left
        · rintro w' ⟨s0, s1⟩
          go_simp
          with_reducible rfl
        rotate_left
        · simp only [Act.put, List.setIfInBounds_toArray, List.set_cons_zero, List.set_cons_succ, i64_w, i32_w]
          rfl
        refine pure_ (i := 9) (N := some 24) (v := ?_) (a' := ?_) #[true, true, true, true, true, true, true, true, true, true, false, false, false, false, false] rfl rfl (any_of HT_.out (by kernel_rfl)) (fun _ _ _ h => h) (Or.inl ⟨by rfl, ?_⟩) ?_ ?_
        rotate_left
        · intro w'
          go_simp
          with_reducible rfl
        rotate_left
        · simp only [Act.put, List.setIfInBounds_toArray, List.set_cons_zero, List.set_cons_succ, i64_w, i32_w]
          rfl
        refine pure_ (i := 10) (N := some 25) (v := ?_) (a' := ?_) #[true, true, true, true, true, true, true, true, true, true, true, false, false, false, false] rfl rfl (any_of HT_.out (by kernel_rfl)) (fun _ _ _ h => h) (Or.inl ⟨by rfl, ?_⟩) ?_ ?_
        rotate_left
        · intro w'
          go_simp
          with_reducible rfl
        rotate_left
        · simp only [Act.put, List.setIfInBounds_toArray, List.set_cons_zero, List.set_cons_succ, i64_w, i32_w]
          rfl
        refine pure_ (i := 11) (N := some 26) (v := ?_) (a' := ?_) #[true, true, true, true, true, true, true, true, true, true, true, true, false, false, false] rfl rfl (any_of HT_.out (by kernel_rfl)) (fun _ _ _ h => h) (Or.inl ⟨by rfl, ?_⟩) ?_ ?_
        rotate_left
        · intro w'
          go_simp
          with_reducible rfl
        rotate_left
        · simp only [Act.put, List.setIfInBounds_toArray, List.set_cons_zero, List.set_cons_succ, i64_w, i32_w]
          rfl
        refine last_ (i := 12) (N := some 27) #[true, true, true, true, true, true, true, true, true, true, true, true, true, false, false] rfl rfl (one_of HT_.out (by kernel_rfl)) (by decide) (fun K hK => ?_)
        refine value_ (w1 := ?_) (v := ?_) (by rfl) rfl ?_ ?_
        rotate_left 2
        · go_simp
          constructor
          · rfl
          · rfl
        refine hK.out _ _ ?_
        clear hK K
        refine norm_ (a' := ?_) ?_ ?_
        rotate_left
        · show Act.put _ (some 27) _ = _
          simp only [Act.put, List.setIfInBounds_toArray, List.set_cons_zero, List.set_cons_succ, i64_w, i32_w]
          rfl
        refine last_ (i := 13) (N := some 28) #[true, true, true, true, true, true, true, true, true, true, true, true, true, true, false] rfl rfl (one_of HT_.out (by kernel_rfl)) (by decide) (fun K hK => ?_)
        refine Kd.R_append_step svK (w0 := w) w.heap.size (by rfl) (.tmp 15) (.tmp 27) 22 23 (.slice none 0 0) 24 rfl Try.underlying22 info23 rfl (by decide) (by omega) u3 vs (A, row.length, c) [.slice A row.length c] (fun _ => True) (fun _ => False) rfl rfl ?aP (fun _ hk => hk.elim) ?aF ?aO ?aB ?aS ?aL ?_
        (case aP => rfl)
        (case aF => exact fun _ _ => trivial)
        (case aO => exact (by (with_reducible repeat (first | apply Kd.R_alloc | apply Kd.R_drewN | apply Kd.R_drew)); exact HO3.out))
        (case aB => exact (by repeat (first | exact HB.out | apply below_alloc | apply pw_below_drewN | apply below_drew1)))
        (case aS => exact (below_size (by repeat (first | exact HB.out | apply below_alloc | apply pw_below_drewN | apply below_drew1))))
        (case aL => have := HLV.out; omega)
        intro v312 w11 ho hb hg hat
        have n0_ := Aside0.mk ho
        have n1_ := Aside0.mk hb
        clear HB HO3 ho hb hg hat
        have HO3 := n0_
        have HB := n1_
        clear n0_ n1_
        refine hK.out _ _ ?_
        clear hK K
        refine norm_ (a' := ?_) ?_ ?_
        rotate_left
        · show Act.put _ (some 28) _ = _
          simp only [Act.put, List.setIfInBounds_toArray, List.set_cons_zero, List.set_cons_succ, i64_w, i32_w]
          rfl
        refine pure_ (i := 14) (N := some 3) (v := ?_) (a' := ?_) #[true, true, true, true, true, true, true, true, true, true, true, true, true, true, true] rfl rfl (any_of HT_.out (by kernel_rfl)) (fun _ _ _ h => h) (Or.inl ⟨by rfl, ?_⟩) ?_ ?_
        rotate_left
        · intro w'
          go_simp
          with_reducible rfl
        rotate_left
        · simp only [Act.put, List.setIfInBounds_toArray, List.set_cons_zero, List.set_cons_succ, i64_w, i32_w]
          rfl
        refine done_ (done_of HT_.out (by kernel_rfl)) ?_
        try go_wp2
        go_roundg k1
        case measure => omega
        case rel => exact ⟨wrap64 (x4 + 1), _, (by first | rfl | (simp; done) | (simp [*]; done)), ⟨by rw [HW.out]; have := HK.out; have := HC2.out; have := HC3.out; omega⟩, ⟨by (with_reducible repeat (first | apply Kd.R_alloc | apply Kd.R_drewN | apply Kd.R_drew)); exact HO3.out⟩, ⟨by rw [HW.out]; exact HF2.out⟩, ⟨(by repeat (first | exact HB.out | apply below_alloc | apply pw_below_drewN | apply below_drew1))⟩⟩
      · have c2b0 : decide (x4 < (l0.length : Int)) = true := decide_eq_true c2
        have c3b0 : decide (x4 < 12) = false := decide_eq_false c3
        have HC3 := Aside0.mk c3
        clear c2 c3
        obtain ⟨A, c, e1, e2, e3⟩ := FIN.out (by have := HC3.out; omega) u3 wr HO3.out HB.out
        subst e1
        have E2 := Aside0.mk e2
        have E3 := Aside0.mk e3
        clear e2 e3 FIN HEND
        go_wp2
        go_ret
        exact ⟨A, c, rfl, E2.out, (by repeat (first | exact E3.out | (with_reducible refine Kd.C_alloc ?_ _) | (with_reducible refine Kd.C_drewN ?_ _) | (with_reducible refine Kd.C_drew ?_))), (by repeat (first | exact HB.out | apply below_alloc | apply pw_below_drewN | apply below_drew1))⟩
    · have c2b0 : decide (x4 < (l0.length : Int)) = false := decide_eq_false c2
      have HC2 := Aside0.mk c2
      clear c2
      obtain ⟨A, c, e1, e2, e3⟩ := FIN.out (by have := HC2.out; omega) u3 wr HO3.out HB.out
      subst e1
      have E2 := Aside0.mk e2
      have E3 := Aside0.mk e3
      clear e2 e3 FIN HEND
      go_wp2
      go_ret
      exact ⟨A, c, rfl, E2.out, (by repeat (first | exact E3.out | (with_reducible refine Kd.C_alloc ?_ _) | (with_reducible refine Kd.C_drewN ?_ _) | (with_reducible refine Kd.C_drew ?_))), (by repeat (first | exact HB.out | apply below_alloc | apply pw_below_drewN | apply below_drew1))⟩
mutual
def jacquardref02_Made.j0 : Nat → List Int → Int → Option ((List (List Int)))
  | 0, _, _ => none
  | k + 1, x0, x3 => jacquardref02_Made.l0 k x0 x3 ([] : List (List Int)) 0
def jacquardref02_Made.l0 : Nat → List Int → Int → List (List Int) → Int → Option ((List (List Int)))
  | 0, _, _, _, _ => none
  | k + 1, x0, x3, x4, x5 => if x5 < x3 then (jacquardref02_Made.l1 k x0 x3 x4 x5 ([] : List Int) 1) else (some x4)
def jacquardref02_Made.l1 : Nat → List Int → Int → List (List Int) → Int → List Int → Int → Option ((List (List Int)))
  | 0, _, _, _, _, _, _ => none
  | k + 1, x0, x3, x4, x5, x6, x7 => if x7 ≤ 3 then (if (wrap64 ((wrap64 (3 * x5)) + x7)) < (x0.length : Int) then (if 0 ≤ (wrap64 ((wrap64 (3 * x5)) + x7)) then (if (wrap64 (x3 + 3)) = 0 then (none) else (if (Int.tmod (wrap64 ((wrap64 ((Int.tmod (rd x0 (wrap64 ((wrap64 (3 * x5)) + x7))) (wrap64 (x3 + 3))) + x3)) + 3)) (wrap64 (x3 + 3))) < x3 then (if x6.length < 17592186044416 then (jacquardref02_Made.l1 k x0 x3 x4 x5 (x6 ++ [Int.tmod (wrap64 ((wrap64 ((Int.tmod (rd x0 (wrap64 ((wrap64 (3 * x5)) + x7))) (wrap64 (x3 + 3))) + x3)) + 3)) (wrap64 (x3 + 3))]) (wrap64 (x7 + 1))) else (none)) else (jacquardref02_Made.l1 k x0 x3 x4 x5 x6 (wrap64 (x7 + 1))))) else (none)) else (jacquardref02_Made.l1 k x0 x3 x4 x5 x6 (wrap64 (x7 + 1)))) else (if x4.length < 5864062014805 then (jacquardref02_Made.l0 k x0 x3 (x4 ++ [x6]) (wrap64 (x5 + 1))) else (none))
end
def jacquardref02_Made.f (k : Nat) (l0 : List Int) : Option ((List (List Int))) := if (l0.length : Int) > 0 then (if 0 < (l0.length : Int) then (jacquardref02_Made.j0 k l0 (wrap64 (1 + (Int.tmod (wrap64 ((Int.tmod (rd l0 0) 10) + 10)) 10)))) else (none)) else (jacquardref02_Made.j0 k l0 1)
theorem jacquardref02_Made.mono_l : ∀ k, (∀ y0 y1, LeO (jacquardref02_Made.j0 k y0 y1) (jacquardref02_Made.j0 (k + 1) y0 y1)) ∧ (∀ y0 y1 y2 y3, LeO (jacquardref02_Made.l0 k y0 y1 y2 y3) (jacquardref02_Made.l0 (k + 1) y0 y1 y2 y3)) ∧ (∀ y0 y1 y2 y3 y4 y5, LeO (jacquardref02_Made.l1 k y0 y1 y2 y3 y4 y5) (jacquardref02_Made.l1 (k + 1) y0 y1 y2 y3 y4 y5))
  | 0 => ⟨fun _ _ r h => by simp [jacquardref02_Made.j0] at h, fun _ _ _ _ r h => by simp [jacquardref02_Made.l0] at h, fun _ _ _ _ _ _ r h => by simp [jacquardref02_Made.l1] at h⟩
  | k + 1 => by
    obtain ⟨ih0, ih1, ih2⟩ := jacquardref02_Made.mono_l k
    refine ⟨?_, ?_, ?_⟩
    · intro y0 y1
      unfold jacquardref02_Made.j0
      repeat' first | (with_reducible exact LeO.refl _) | (with_reducible refine LeO.ite ?_ ?_) | (with_reducible refine LeO.bind ?_ (fun _ => ?_)) | exact LeO.none _ | exact ih0 _ _ | exact ih1 _ _ _ _ | exact ih2 _ _ _ _ _ _ | refine LeO.ite ?_ ?_ | refine LeO.bind ?_ (fun _ => ?_)
    · intro y0 y1 y2 y3
      unfold jacquardref02_Made.l0
      repeat' first | (with_reducible exact LeO.refl _) | (with_reducible refine LeO.ite ?_ ?_) | (with_reducible refine LeO.bind ?_ (fun _ => ?_)) | exact LeO.none _ | exact ih0 _ _ | exact ih1 _ _ _ _ | exact ih2 _ _ _ _ _ _ | refine LeO.ite ?_ ?_ | refine LeO.bind ?_ (fun _ => ?_)
    · intro y0 y1 y2 y3 y4 y5
      unfold jacquardref02_Made.l1
      repeat' first | (with_reducible exact LeO.refl _) | (with_reducible refine LeO.ite ?_ ?_) | (with_reducible refine LeO.bind ?_ (fun _ => ?_)) | exact LeO.none _ | exact ih0 _ _ | exact ih1 _ _ _ _ | exact ih2 _ _ _ _ _ _ | refine LeO.ite ?_ ?_ | refine LeO.bind ?_ (fun _ => ?_)
theorem jacquardref02_Made.mono : ∀ a0 k, LeO (jacquardref02_Made.f k a0) (jacquardref02_Made.f (k + 1) a0) := by
  intro a0 k
  obtain ⟨ih0, ih1, ih2⟩ := jacquardref02_Made.mono_l k
  unfold jacquardref02_Made.f
  repeat' first | (with_reducible exact LeO.refl _) | (with_reducible refine LeO.ite ?_ ?_) | (with_reducible refine LeO.bind ?_ (fun _ => ?_)) | exact LeO.none _ | exact ih0 _ _ | exact ih1 _ _ _ _ | exact ih2 _ _ _ _ _ _ | refine LeO.ite ?_ ?_ | refine LeO.bind ?_ (fun _ => ?_)
set_option maxHeartbeats 8000000 in
set_option maxRecDepth 100000 in
theorem jacquardref02_Made.calls (k : Nat) (A0 : Option Addr) (c0 : Nat) (l0 : List Int) (r : List (List Int)) (w : World) (hr0 : Kd.C (Kd.int .i64) w A0 l0.length l0) (hc0 : l0.length ≤ c0) (h : jacquardref02_Made.f k l0 = some r) :
    Calls Try.prog 25 #[.slice A0 l0.length c0] w fun e w' => ∃ v0_ : Value, e = .returned (v0_) ∧ Kd.S (Kd.slice 3 (Kd.int .i64)) 23 w' w.heap.size (fun _ => True) v0_ r ∧ Below w.heap.size w w' := by
  have HR0 := Aside0.mk hr0
  have HC0 := Aside0.mk hc0
  clear hr0 hc0
  have HB := Aside0.mk (Below.refl w.heap.size w)
  have H : (if (l0.length : Int) > 0 then (if 0 < (l0.length : Int) then (jacquardref02_Made.j0 k l0 (wrap64 (1 + (Int.tmod (wrap64 ((Int.tmod (rd l0 0) 10) + 10)) 10)))) else (none)) else (jacquardref02_Made.j0 k l0 1)) = some r := h
  clear h
  have HC2 := Aside0.mk H
  clear H
  go_enter Try.func25, Try.ntmps25
  go_upto_if 12 with (fail)
  go_cut [3] (fun v3 wc => ∃ (kq : Nat) (x3_1 : Int), v3 = .int .i64 x3_1 ∧ Aside0 (jacquardref02_Made.j0 kq l0 x3_1 = some r) ∧ Aside0 (kq ≤ k) ∧ Aside0 (Below w.heap.size w wc))
  case first =>
    have H := HC2.out
    clear HC2
    by_cases c3 : (l0.length : Int) > 0
    · rw [if_pos c3] at H
      have c3b0 : decide (0 < (l0.length : Int)) = true := decide_eq_true c3
      have c3b1 : decide (0 < l0.length) = true := decide_eq_true (by omega)
      have c3p : 0 < l0.length := by omega
      clear c3
      rw [c3b1]
      (first | rw [c3b0] | (simp only [i64_w, i32_w]; rw [c3b0]) | skip)
      by_cases c4 : 0 < (l0.length : Int)
      · rw [if_pos c4] at H
        have c4b0 : decide (0 < (l0.length : Int)) = true := decide_eq_true c4
        have c4b1 : decide (0 < l0.length) = true := decide_eq_true (by omega)
        clear c4
        have H' := Aside0.mk H
        clear H
        have p314 : 0 ≤ (0 : Int) := (by omega)
        have q314 : 0 < (l0.length : Int) := of_decide_eq_true (by first | (with_reducible assumption) | assumption)
        obtain ⟨ad314, e314, hx314_0⟩ := Kd.at_int HR0.out 0 p314 q314
        cases e314
        have qi314 : (0 < l0.length) = True := eq_true (by omega)
        (try rw [show ((0 : Int)).toNat = 0 from rfl] at hx314_0)
        (try rw [Addr.add_zero'] at hx314_0)
        replace hx314_0 := (HB.out.cell (World.block_lt_of_cell? w _ hx314_0)).trans hx314_0
        replace p314 := eq_true p314
        replace q314 := eq_true q314
        go_wp2
        go_meet
        case rel => exact ⟨_, (wrap64 (1 + (Int.tmod (wrap64 ((Int.tmod (rd l0 0) 10) + 10)) 10))), (by first | rfl | (simp; done) | (simp [*]; done)), H', ⟨by first | omega | exact Nat.le_refl _⟩, ⟨by repeat (first | exact HB.out | apply below_alloc | apply pw_below_drewN | apply below_drew1)⟩⟩
      · rw [if_neg c4] at H
        exact absurd H (by simp)
    · rw [if_neg c3] at H
      have c3b0 : decide (0 < (l0.length : Int)) = false := decide_eq_false c3
      have c3b1 : decide (0 < l0.length) = false := decide_eq_false (by omega)
      have c3p : ¬ 0 < l0.length := by omega
      clear c3
      rw [c3b1]
      (first | rw [c3b0] | (simp only [i64_w, i32_w]; rw [c3b0]) | skip)
      have H' := Aside0.mk H
      clear H
      go_wp2
      go_meet
      case rel => exact ⟨_, (1), (by first | rfl | (simp; done) | (simp [*]; done)), H', ⟨by first | omega | exact Nat.le_refl _⟩, ⟨by repeat (first | exact HB.out | apply below_alloc | apply pw_below_drewN | apply below_drew1)⟩⟩
  case rest =>
    clear HC2; (try clear c2); (try clear p2); (try clear c3); (try clear c3b0); (try clear c3b1); (try clear p3); (try clear q3); (try clear hx3); (try clear qi3); (try clear c4); (try clear c4b0); (try clear c4b1); (try clear hx314_0); (try clear p314); (try clear q314)
    obtain ⟨kq, x3_1, rfl, HA, HJ1, HB⟩ := hcut
    cases kq with
    | zero => exact absurd HA.out (by simp [jacquardref02_Made.j0])
    | succ kj1 =>
      have H := HA.out
      clear HA
      simp only [jacquardref02_Made.j0] at H
      have H' := Aside0.mk H
      clear H
      go_wp2
      go_loopg [4, 5] kj1 (fun kq v4 v5 w' => ∃ (x4_2 : List (List Int)) (x5_2 : Int), v5 = .int .i64 x5_2 ∧ Aside0 (jacquardref02_Made.l0 kq l0 x3_1 x4_2 x5_2 = some r) ∧ Aside0 (kq ≤ kj1) ∧ Aside0 (Kd.S (Kd.slice 3 (Kd.int .i64)) 23 w' w.heap.size (fun _ => True) v4 x4_2) ∧ Aside0 (Below w.heap.size w w'))
      case atStart => exact ⟨(([] : List (List Int))), (0), (by first | rfl | (simp; done) | (simp [*]; done)), H', ⟨Nat.le_refl _⟩, ⟨by first | exact Kd.S_nil _ _ _ _ _ | exact Kd.N_nil _ _ _ _ _ | exact Kd.V_nil _ _ _ _ _ | exact Kd.Q_nil _ _ _ _ _ | exact Kd.R_nil _ _ _ _ _⟩, ⟨by repeat (first | exact HB.out | apply below_alloc | apply pw_below_drewN | apply below_drew1)⟩⟩
      case round =>
        clear H'; (try clear c2); (try clear p2); (try clear c3); (try clear c3b0); (try clear c3b1); (try clear p3); (try clear q3); (try clear hx3); (try clear qi3); (try clear c4); (try clear c4b0); (try clear c4b1); (try clear hx314_0); (try clear p2); (try clear p3); (try clear p314); (try clear q3); (try clear q314)
        obtain ⟨x4_2, x5_2, rfl, HA, HK2, HO_4, HB⟩ := hrel
        cases gk with
        | zero => exact absurd HA.out (by simp [jacquardref02_Made.l0])
        | succ k2 =>
          have H := HA.out
          clear HA
          simp only [jacquardref02_Made.l0] at H
          by_cases c5 : x5_2 < x3_1
          · rw [if_pos c5] at H
            have c5b0 : decide (x5_2 < x3_1) = true := decide_eq_true c5
            clear c5
            have H' := Aside0.mk H
            clear H
            go_wp2
            go_loopg [6, 7] k2 (fun kq v6 v7 w' => ∃ (x6_3 : List Int) (x7_3 : Int), v7 = .int .i64 x7_3 ∧ Aside0 (jacquardref02_Made.l1 kq l0 x3_1 x4_2 x5_2 x6_3 x7_3 = some r) ∧ Aside0 (kq ≤ k2) ∧ Aside0 (Kd.S (Kd.slice 3 (Kd.int .i64)) 23 w' w.heap.size (fun k_ => some k_ ≠ (v6 : Value).ownBlock) u4 x4_2) ∧ Aside0 (Kd.R (Kd.int .i64) 3 w' w.heap.size (fun _ => True) v6 x6_3) ∧ Aside0 (Below w.heap.size w w'))
            case atStart => exact ⟨(([] : List Int)), (1), (by first | rfl | (simp; done) | (simp [*]; done)), H', ⟨Nat.le_refl _⟩, ⟨by (with_reducible repeat (first | apply Kd.S_alloc | apply Kd.S_drewN | apply Kd.S_drew)); exact Kd.S_mono HO_4.out (fun _ hk => (by simp [Value.ownBlock]))⟩, ⟨by first | exact Kd.R_nil _ _ _ _ _ | exact Kd.N_nil _ _ _ _ _ | exact Kd.V_nil _ _ _ _ _ | exact Kd.Q_nil _ _ _ _ _ | exact Kd.S_nil _ _ _ _ _⟩, ⟨by repeat (first | exact HB.out | apply below_alloc | apply pw_below_drewN | apply below_drew1)⟩⟩
            case round =>
              clear H'; (try clear c2); (try clear p2); (try clear c3); (try clear c3b0); (try clear c3b1); (try clear p3); (try clear q3); (try clear hx3); (try clear qi3); (try clear c4); (try clear c4b0); (try clear c4b1); (try clear c5); (try clear c5b0); (try clear hx314_0); (try clear p2); (try clear p3); (try clear p314); (try clear q3); (try clear q314)
              obtain ⟨x6_3, x7_3, rfl, HA, HK3, HO_4, HO_6, HB⟩ := hrel
              cases gk with
              | zero => exact absurd HA.out (by simp [jacquardref02_Made.l1])
              | succ k3 =>
                have H := HA.out
                clear HA
                simp only [jacquardref02_Made.l1] at H
                by_cases c6 : x7_3 ≤ 3
                · rw [if_pos c6] at H
                  have c6b0 : decide (x7_3 ≤ 3) = true := decide_eq_true c6
                  clear c6
                  by_cases c7 : (wrap64 ((wrap64 (3 * x5_2)) + x7_3)) < (l0.length : Int)
                  · rw [if_pos c7] at H
                    have c7b0 : decide ((wrap64 ((wrap64 (3 * x5_2)) + x7_3)) < (l0.length : Int)) = true := decide_eq_true c7
                    clear c7
                    obtain ⟨ji8, hji8⟩ : ∃ j_ : Int, (wrap64 ((wrap64 (3 * x5_2)) + x7_3)) = j_ := ⟨_, rfl⟩
                    replace H : (if 0 ≤ (ji8) then (if (wrap64 (x3_1 + 3)) = 0 then (none) else (if (Int.tmod (wrap64 ((wrap64 ((Int.tmod (rd l0 (ji8)) (wrap64 (x3_1 + 3))) + x3_1)) + 3)) (wrap64 (x3_1 + 3))) < x3_1 then (if x6_3.length < 17592186044416 then (jacquardref02_Made.l1 k3 l0 x3_1 x4_2 x5_2 (x6_3 ++ [Int.tmod (wrap64 ((wrap64 ((Int.tmod (rd l0 (ji8)) (wrap64 (x3_1 + 3))) + x3_1)) + 3)) (wrap64 (x3_1 + 3))]) (wrap64 (x7_3 + 1))) else (none)) else (jacquardref02_Made.l1 k3 l0 x3_1 x4_2 x5_2 x6_3 (wrap64 (x7_3 + 1))))) else (none)) = some r := by first | (rw [hji8] at H; exact H) | (simp only [hji8] at H ⊢; exact H)
                    (try rw [hji8] at c7b0)
                    have hji8w : (IntKind.i64.wrap ((wrap64 (3 * x5_2)) + x7_3)) = ji8 := (i64_w _).trans hji8
                    by_cases c9 : 0 ≤ (ji8)
                    · rw [if_pos c9] at H
                      have c9b0 : decide (0 ≤ (ji8)) = true := decide_eq_true c9
                      clear c9
                      by_cases c10 : (wrap64 (x3_1 + 3)) = 0
                      · rw [if_pos c10] at H
                        exact absurd H (by simp)
                      · rw [if_neg c10] at H
                        have c10b0 : ((wrap64 (x3_1 + 3)) == 0) = false := beq_eq_false_iff_ne.mpr c10
                        have c10b1 : ((wrap64 (x3_1 + 3)) != 0) = true := bne_iff_ne.mpr c10
                        by_cases c11 : (Int.tmod (wrap64 ((wrap64 ((Int.tmod (rd l0 (ji8)) (wrap64 (x3_1 + 3))) + x3_1)) + 3)) (wrap64 (x3_1 + 3))) < x3_1
                        · rw [if_pos c11] at H
                          have c11b0 : decide ((Int.tmod (wrap64 ((wrap64 ((Int.tmod (rd l0 (ji8)) (wrap64 (x3_1 + 3))) + x3_1)) + 3)) (wrap64 (x3_1 + 3))) < x3_1) = true := decide_eq_true c11
                          clear c11
                          by_cases c12 : x6_3.length < 17592186044416
                          · rw [if_pos c12] at H
                            have LMc12 := Aside0.mk c12
                            clear c12
                            obtain ⟨y319, hy319⟩ : ∃ y_ : List Int, y_ = (x6_3 ++ [Int.tmod (wrap64 ((wrap64 ((Int.tmod (rd l0 (ji8)) (wrap64 (x3_1 + 3))) + x3_1)) + 3)) (wrap64 (x3_1 + 3))]) := ⟨_, rfl⟩
                            replace H : (jacquardref02_Made.l1 k3 l0 x3_1 x4_2 x5_2 y319 (wrap64 (x7_3 + 1))) = some r := by first | (rw [hy319]; with_reducible exact H) | (have H2_ := (Option.bind_some _ _).symm.trans H; rw [hy319]; with_reducible exact H2_) | (have H2_ := (Option.bind_some _ _).symm.trans H; with_reducible exact H2_) | with_reducible exact H | (rw [hy319]; exact H) | exact H
                            have Ny319 := Aside0.mk hy319
                            clear hy319
                            have H' := Aside0.mk H
                            clear H
                            have p318 : 0 ≤ ((ji8) : Int) := of_decide_eq_true (by first | (with_reducible assumption) | assumption)
                            have q318 : (ji8) < (l0.length : Int) := of_decide_eq_true (by first | (with_reducible assumption) | assumption)
                            obtain ⟨ad318, e318, hx318_0⟩ := Kd.at_int HR0.out (ji8) p318 q318
                            cases e318
                            replace hx318_0 := (HB.out.cell (World.block_lt_of_cell? w _ hx318_0)).trans hx318_0
                            replace p318 := eq_true p318
                            replace q318 := eq_true q318
                            go_wp2_with (first | ((with_reducible refine gate_builtin (b := .append) (xs := #[.tmp 53, .tmp 55]) rfl ?_); at_builtin; refine Kd.R_append (Kd.int .i64) (w0 := w) w.heap.size rfl (.tmp 53) (.tmp 55) 23 3 (.int .i64 0) 8 rfl Try.underlying23 info3 rfl (by decide) (by omega) u6 x6_3 (Int.tmod (wrap64 ((wrap64 ((Int.tmod (rd l0 (ji8)) (wrap64 (x3_1 + 3))) + x3_1)) + 3)) (wrap64 (x3_1 + 3))) [.int .i64 (Int.tmod (wrap64 ((wrap64 ((Int.tmod (rd l0 (ji8)) (wrap64 (x3_1 + 3))) + x3_1)) + 3)) (wrap64 (x3_1 + 3)))] (fun _ => True) (fun _ => False) rfl rfl ?aP (fun _ hk => hk.elim) ?aF ?aO ?aB ?aS ?aL ?_; (case aP => exact rfl); (case aB => exact (by repeat (first | exact HB.out | apply below_alloc | apply pw_below_drewN | apply below_drew1))); (case aF => exact (fun _ _ => trivial)); (case aO => exact (by (with_reducible repeat (first | apply Kd.R_alloc | apply Kd.R_drewN | apply Kd.R_drew)); exact HO_6.out)); (case aS => exact (below_size (by repeat (first | exact HB.out | apply below_alloc | apply pw_below_drewN | apply below_drew1)))); (case aL => have := LMc12.out; omega); intro v320 w13 ho hb hg hat; rw [← Ny319.out] at ho; have n0_ := Aside0.mk (Kd.S_after (ok := (fun _ => True)) (by (with_reducible repeat (first | apply Kd.S_alloc | apply Kd.S_drewN | apply Kd.S_drew)); exact Kd.S_mono HO_4.out (fun _ hk => ⟨trivial, hk⟩)) hg hat); have n1_ := Aside0.mk (hb); have n2_ := Aside0.mk (ho); clear HO_4; clear HB; clear HO_6; have HO_4 := n0_; have HB := n1_; have HO321 := n2_; clear n0_ n1_ n2_; clear ho hb hg hat))
                            go_roundg k3
                            case measure => have := HJ1.out; have := HK2.out; have := HK3.out; omega
                            case rel => exact ⟨(y319), (wrap64 (x7_3 + 1)), (by first | rfl | (simp; done) | (simp [*]; done)), H', ⟨by have := HJ1.out; have := HK2.out; have := HK3.out; omega⟩, ⟨by (with_reducible repeat (first | apply Kd.S_alloc | apply Kd.S_drewN | apply Kd.S_drew)); exact Kd.S_mono HO_4.out (fun _ hk => hk.2)⟩, ⟨by (with_reducible repeat (first | apply Kd.R_alloc | apply Kd.R_drewN | apply Kd.R_drew)); exact HO321.out⟩, ⟨by repeat (first | exact HB.out | apply below_alloc | apply pw_below_drewN | apply below_drew1)⟩⟩
                          · rw [if_neg c12] at H
                            exact absurd H (by simp)
                        · rw [if_neg c11] at H
                          have c11b0 : decide ((Int.tmod (wrap64 ((wrap64 ((Int.tmod (rd l0 (ji8)) (wrap64 (x3_1 + 3))) + x3_1)) + 3)) (wrap64 (x3_1 + 3))) < x3_1) = false := decide_eq_false c11
                          clear c11
                          have H' := Aside0.mk H
                          clear H
                          have p318 : 0 ≤ ((ji8) : Int) := of_decide_eq_true (by first | (with_reducible assumption) | assumption)
                          have q318 : (ji8) < (l0.length : Int) := of_decide_eq_true (by first | (with_reducible assumption) | assumption)
                          obtain ⟨ad318, e318, hx318_0⟩ := Kd.at_int HR0.out (ji8) p318 q318
                          cases e318
                          replace hx318_0 := (HB.out.cell (World.block_lt_of_cell? w _ hx318_0)).trans hx318_0
                          replace p318 := eq_true p318
                          replace q318 := eq_true q318
                          go_wp2
                          go_roundg k3
                          case measure => have := HJ1.out; have := HK2.out; have := HK3.out; omega
                          case rel => exact ⟨(x6_3), (wrap64 (x7_3 + 1)), (by first | rfl | (simp; done) | (simp [*]; done)), H', ⟨by have := HJ1.out; have := HK2.out; have := HK3.out; omega⟩, ⟨by (with_reducible repeat (first | apply Kd.S_alloc | apply Kd.S_drewN | apply Kd.S_drew)); exact HO_4.out⟩, ⟨by (with_reducible repeat (first | apply Kd.R_alloc | apply Kd.R_drewN | apply Kd.R_drew)); exact HO_6.out⟩, ⟨by repeat (first | exact HB.out | apply below_alloc | apply pw_below_drewN | apply below_drew1)⟩⟩
                    · rw [if_neg c9] at H
                      exact absurd H (by simp)
                  · rw [if_neg c7] at H
                    have c7b0 : decide ((wrap64 ((wrap64 (3 * x5_2)) + x7_3)) < (l0.length : Int)) = false := decide_eq_false c7
                    clear c7
                    have H' := Aside0.mk H
                    clear H
                    go_wp2
                    go_roundg k3
                    case measure => have := HJ1.out; have := HK2.out; have := HK3.out; omega
                    case rel => exact ⟨(x6_3), (wrap64 (x7_3 + 1)), (by first | rfl | (simp; done) | (simp [*]; done)), H', ⟨by have := HJ1.out; have := HK2.out; have := HK3.out; omega⟩, ⟨by (with_reducible repeat (first | apply Kd.S_alloc | apply Kd.S_drewN | apply Kd.S_drew)); exact HO_4.out⟩, ⟨by (with_reducible repeat (first | apply Kd.R_alloc | apply Kd.R_drewN | apply Kd.R_drew)); exact HO_6.out⟩, ⟨by repeat (first | exact HB.out | apply below_alloc | apply pw_below_drewN | apply below_drew1)⟩⟩
                · rw [if_neg c6] at H
                  have c6b0 : decide (x7_3 ≤ 3) = false := decide_eq_false c6
                  clear c6
                  by_cases c14 : x4_2.length < 5864062014805
                  · rw [if_pos c14] at H
                    have LMc14 := Aside0.mk c14
                    clear c14
                    obtain ⟨y315, hy315⟩ : ∃ y_ : List (List Int), y_ = (x4_2 ++ [x6_3]) := ⟨_, rfl⟩
                    replace H : (jacquardref02_Made.l0 k3 l0 x3_1 y315 (wrap64 (x5_2 + 1))) = some r := by first | (rw [hy315]; with_reducible exact H) | (have H2_ := (Option.bind_some _ _).symm.trans H; rw [hy315]; with_reducible exact H2_) | (have H2_ := (Option.bind_some _ _).symm.trans H; with_reducible exact H2_) | with_reducible exact H | (rw [hy315]; exact H) | exact H
                    have Ny315 := Aside0.mk hy315
                    clear hy315
                    have H' := Aside0.mk H
                    clear H
                    obtain ⟨Ao16, co16, eo16⟩ := Kd.R_slice HO_6.out
                    subst eo16
                    go_wp2_with (first | ((with_reducible refine gate_builtin (b := .append) (xs := #[.tmp 57, .tmp 59]) rfl ?_); at_builtin; refine Kd.S_append (Kd.slice 3 (Kd.int .i64)) (w0 := w) w.heap.size rfl (.tmp 57) (.tmp 59) 22 23 (.slice none 0 0) 24 rfl Try.underlying22 info23 rfl (by decide) (by omega) u4 x4_2 x6_3 [.slice Ao16 x6_3.length co16] (fun _ => True) (fun k_ => some k_ = (.slice Ao16 x6_3.length co16 : Value).ownBlock) rfl rfl ?aP (fun k_ hk_ => ((Kd.R_mono (ok' := fun k_ => ((fun _ => True)) k_ ∧ some k_ ≠ (u4 : Value).ownBlock) (Kd.R_apart' (HO_6.out) (Kd.S_typed HO_4.out) (by decide)) (fun k_ hk => ⟨trivial, hk.2⟩))).1 k_ hk_.symm) ?aF ?aO ?aB ?aS ?aL ?_; (case aP => exact Kd.M_row (Kd.R_mono (Kd.R_tight rfl (Kd.R_mono (ok' := fun k_ => ((fun _ => True)) k_ ∧ some k_ ≠ (u4 : Value).ownBlock) (Kd.R_apart' (HO_6.out) (Kd.S_typed HO_4.out) (by decide)) (fun k_ hk => ⟨trivial, hk.2⟩))) (fun _ h_ => h_))); (case aB => exact (by repeat (first | exact HB.out | apply below_alloc | apply pw_below_drewN | apply below_drew1))); (case aF => exact (fun _ _ => trivial)); (case aO => exact (by (with_reducible repeat (first | apply Kd.S_alloc | apply Kd.S_drewN | apply Kd.S_drew)); exact Kd.S_mono HO_4.out (fun k_ hk => ⟨trivial, fun e_ => hk e_⟩))); (case aS => exact (below_size (by repeat (first | exact HB.out | apply below_alloc | apply pw_below_drewN | apply below_drew1)))); (case aL => have := LMc14.out; omega); intro v316 w15 ho hb hg hat; rw [← Ny315.out] at ho; have n0_ := Aside0.mk (hb); have n1_ := Aside0.mk (ho); clear HB; clear HO_4; clear HO_6; have HB := n0_; have HO317 := n1_; clear n0_ n1_; clear ho hb hg hat))
                    go_roundg k3
                    case measure => have := HJ1.out; have := HK2.out; have := HK3.out; omega
                    case rel => exact ⟨(y315), (wrap64 (x5_2 + 1)), (by first | rfl | (simp; done) | (simp [*]; done)), H', ⟨by have := HJ1.out; have := HK2.out; have := HK3.out; omega⟩, ⟨by (with_reducible repeat (first | apply Kd.S_alloc | apply Kd.S_drewN | apply Kd.S_drew)); exact HO317.out⟩, ⟨by repeat (first | exact HB.out | apply below_alloc | apply pw_below_drewN | apply below_drew1)⟩⟩
                  · rw [if_neg c14] at H
                    exact absurd H (by simp)
          · rw [if_neg c5] at H
            have c5b0 : decide (x5_2 < x3_1) = false := decide_eq_false c5
            clear c5
            obtain rfl := Option.some.inj H
            go_wp2
            go_ret
            exact ⟨_, by first | rfl | (simp [errW_none, errW_some] <;> rfl) | (simp [*, errW_none, errW_some] <;> rfl), by (with_reducible repeat (first | apply Kd.S_alloc | apply Kd.S_drewN | apply Kd.S_drew)); exact HO_4.out, by repeat (first | exact HB.out | apply below_alloc | apply pw_below_drewN | apply below_drew1)⟩

end Go.Proofs.Ytnmeomdjhjgnfaa.X
end
section
set_option linter.unusedSimpArgs false
namespace Go.Proofs.Ytnmeomdjhjgnfaa.X
open Go.RowKit Go.Shelf Go.Proofs.YtnmeomdjhjgnfaaW.PrintWords Go.Proofs.YtnmeomdjhjgnfaaW.PrintLast
set_option linter.unusedVariables false
set_option maxRecDepth 100000

def gA : List (List Int) := [[1,2],[3],[3],[1]]
def gB : List (List Int) := [[1],[2,3],[1],[]]
def gC : List (List Int) := [[1,2],[2],[]]
theorem aw1 : graph_Order.f 100 gA = some [0,2,1,3] := by kernel_rfl
theorem aw2 : graph_Idom.f 100 gA = some [-1,0,0,0] := by kernel_rfl
theorem aw3 : graph_Body.f 100 gB 1 = some [1,2] := by kernel_rfl
theorem aw4 : graph_Critical.f gC = some [⟨0,2⟩] := by kernel_rfl
theorem aw5 : graph_Reducible.f 100 gA = some false := by kernel_rfl
theorem aw6 : graph_Reducible.f 100 gB = some true := by kernel_rfl
theorem aw7 : graph_Headers.f 100 gA = some [] := by kernel_rfl
theorem aw8 : jacquardref02_Nums.f 100 [0,2,1,3] [0,2,1,3] = some true := by kernel_rfl
theorem aw9 : jacquardref02_Nums.f 100 [-1,0,0,0] [-1,0,0,0] = some true := by kernel_rfl
theorem aw10 : jacquardref02_Nums.f 100 [1,2] [1,2] = some true := by kernel_rfl
theorem aw11 : jacquardref02_Pairs.f [⟨0,2⟩] [⟨0,2⟩] = some true := by kernel_rfl

theorem C_ints {W : World} {b : Nat} {zs : List Int} (h : W.heap[b]? = some (.cells (zs.map (Value.int .i64)).toArray 3 (0, 0))) (hl : zs.length ≤ 9223372036854775807) : Kd.C (Kd.int .i64) W (some ⟨b, 0, none⟩) zs.length zs := by
  refine ⟨rfl, hl, fun _ => ⟨_, rfl, fun j p hp => ⟨[.int .i64 p], rfl, rfl, fun i u hu => ?_⟩⟩⟩
  have hi : i = 0 := by
    rcases Nat.eq_zero_or_pos i with h | h
    · exact h
    · rw [List.getElem?_eq_none (by simp; omega)] at hu; cases hu
  subst hi
  simp at hu
  subst hu
  rw [add_at]
  simp [World.cell?, h]
  rw [show j * (Kd.int .i64).sz = j from Nat.mul_one j]
  exact hp
theorem C_rows {W : World} {b : Nat} {rows : List (List Int)} {vs : List Value} (h : W.heap[b]? = some (.cells vs.toArray 23 (0, 0))) (hl : rows.length ≤ 9223372036854775807)
    (hv : ∀ (i : Nat) (row : List Int), rows[i]? = some row → ∃ A c, vs[i]? = some (Value.slice A row.length c) ∧ row.length ≤ c ∧ Kd.C (Kd.int .i64) W A row.length row) : Kd.C (Kd.slice 3 (Kd.int .i64)) W (some ⟨b, 0, none⟩) rows.length rows := by
  refine ⟨rfl, hl, fun _ => ⟨_, rfl, fun j p hp => ?_⟩⟩
  obtain ⟨A, c, hv, hc, hC⟩ := hv j p hp
  refine ⟨[.slice A p.length c], rfl, ⟨A, c, rfl, hc, hC⟩, fun i u hu => ?_⟩
  have hi : i = 0 := by
    rcases Nat.eq_zero_or_pos i with h | h
    · exact h
    · rw [List.getElem?_eq_none (by simp; omega)] at hu; cases hu
  subst hi
  simp at hu
  subst hu
  rw [add_at]
  simp [World.cell?, h]
  rw [show j * (Kd.slice 3 (Kd.int .i64)).sz = j from Nat.mul_one j]
  exact hv
theorem alloc_at (os : List Obj) : ∀ (w : World) (i : Nat), i < os.length → (os.foldl World.alloc w).heap[w.heap.size + i]? = os[i]? := by
  induction os with
  | nil => intro w i h; simp at h
  | cons o os ih =>
    intro w i h
    cases i with
    | zero =>
      have : ∀ (os : List Obj) (w : World) (k : Nat), k < w.heap.size → (os.foldl World.alloc w).heap[k]? = w.heap[k]? := by
        intro os
        induction os with
        | nil => intro w k _; rfl
        | cons o os ih => intro w k hk; rw [List.foldl_cons, ih _ _ (by simp; omega)]; exact (below_alloc (Below.refl _ w) o : Below w.heap.size w _).block k hk
      rw [List.foldl_cons, Nat.add_zero, this _ _ _ (by simp)]
      exact World.alloc_heap_new w o
    | succ i =>
      have := ih (w.alloc o) i (by simpa using h)
      rw [List.foldl_cons, List.getElem?_cons_succ, ← this]
      congr 1
      simp; omega
def iv (zs : List Int) : Obj := .cells (zs.map (Value.int .i64)).toArray 3 (0, 0)
def sl (b n : Nat) : Value := .slice (some ⟨b, 0, none⟩) n n
set_option maxHeartbeats 4000000 in
theorem jacquardlaw02_awake.calls (r : Bool) (w : World) (h : jacquardlaw02_awake.f = some r) :
    Calls Try.prog 22 #[] w fun e w' => e = .returned (.bool r) ∧ Below w.heap.size w w' := by
  obtain rfl : r = true := by unfold jacquardlaw02_awake.f at h; injection h with h; exact h.symm
  clear h
  go_enter Try.func22, Try.ntmps22
  go_wp2_with fail
  obtain ⟨W1, hW1⟩ : ∃ W1, ([iv [1,2], iv [3], iv [3], iv [1], .cells #[sl w.heap.size 2, sl (w.heap.size + 1) 1, sl (w.heap.size + 2) 1, sl (w.heap.size + 3) 1] 23, iv [1], iv [2,3], iv [1], iv [], .cells #[sl (w.heap.size + 5) 1, sl (w.heap.size + 6) 2, sl (w.heap.size + 7) 1, sl (w.heap.size + 8) 0] 23] : List Obj).foldl World.alloc w = W1 := ⟨_, rfl⟩
  have hA : ∀ i o, ([iv [1,2], iv [3], iv [3], iv [1], .cells #[sl w.heap.size 2, sl (w.heap.size + 1) 1, sl (w.heap.size + 2) 1, sl (w.heap.size + 3) 1] 23, iv [1], iv [2,3], iv [1], iv [], .cells #[sl (w.heap.size + 5) 1, sl (w.heap.size + 6) 2, sl (w.heap.size + 7) 1, sl (w.heap.size + 8) 0] 23] : List Obj)[i]? = some o → W1.heap[w.heap.size + i]? = some o := by
    intro i o h
    rw [← hW1, alloc_at _ _ _ (List.getElem?_eq_some_iff.1 h).1]
    exact h
  have hBW : Below w.heap.size w W1 := by
    rw [← hW1]
    exact below_alloc (below_alloc (below_alloc (below_alloc (below_alloc (below_alloc (below_alloc (below_alloc (below_alloc (below_alloc (Below.refl _ _) _) _) _) _) _) _) _) _) _) _
  have hCA : Kd.C (Kd.slice 3 (Kd.int .i64)) W1 (some ⟨w.heap.size + 4, 0, none⟩) gA.length gA := C_rows (hA 4 _ rfl) (by decide) (by
    intro i row hi
    match i, hi with
    | 0, hi => cases hi; exact ⟨_, _, rfl, Nat.le_refl _, C_ints (hA 0 _ rfl) (by decide)⟩
    | 1, hi => cases hi; exact ⟨_, _, rfl, Nat.le_refl _, C_ints (hA 1 _ rfl) (by decide)⟩
    | 2, hi => cases hi; exact ⟨_, _, rfl, Nat.le_refl _, C_ints (hA 2 _ rfl) (by decide)⟩
    | 3, hi => cases hi; exact ⟨_, _, rfl, Nat.le_refl _, C_ints (hA 3 _ rfl) (by decide)⟩
    | i + 4, hi => cases hi)
  have hCB : Kd.C (Kd.slice 3 (Kd.int .i64)) W1 (some ⟨w.heap.size + 9, 0, none⟩) gB.length gB := C_rows (hA 9 _ rfl) (by decide) (by
    intro i row hi
    match i, hi with
    | 0, hi => cases hi; exact ⟨_, _, rfl, Nat.le_refl _, C_ints (hA 5 _ rfl) (by decide)⟩
    | 1, hi => cases hi; exact ⟨_, _, rfl, Nat.le_refl _, C_ints (hA 6 _ rfl) (by decide)⟩
    | 2, hi => cases hi; exact ⟨_, _, rfl, Nat.le_refl _, C_ints (hA 7 _ rfl) (by decide)⟩
    | 3, hi => cases hi; exact ⟨_, _, rfl, Nat.le_refl _, C_ints (hA 8 _ rfl) (by decide)⟩
    | i + 4, hi => cases hi)
  have HCA := Aside0.mk hCA
  have HCB := Aside0.mk hCB
  have HBW := Aside0.mk hBW
  refine Calls.mono (show Calls Try.prog 26 #[.slice (some ⟨w.heap.size + 4, 0, none⟩) 4 4] _ _ from by have := graph_Order.calls 100 (some ⟨w.heap.size + 4, 0, none⟩) 4 gA _ W1 HCA.out (by decide) aw1; rw [← hW1] at this; exact this) ?_
  clear hCA hCB hBW hA
  rintro e W2 ⟨v, rfl, hR, hB⟩
  rw [hW1] at hB
  clear hW1
  obtain ⟨A, c, rfl⟩ := Kd.R_slice hR
  have H2 := Aside0.mk (And.intro (Kd.R_reads' hR).2.1 (Kd.R_reads' hR).2.2)
  have HB2 := Aside0.mk hB
  clear hR hB
  go_wp2_with fail
  have hA2 : (W2.alloc (iv [0,2,1,3])).heap[W2.heap.size]? = some (iv [0,2,1,3]) := World.alloc_heap_new _ _
  refine Calls.mono (jacquardref02_Nums.calls 100 A c [0,2,1,3] (some ⟨W2.heap.size, 0, none⟩) 4 [0,2,1,3] true (W2.alloc (iv [0,2,1,3])) (Kd.C_alloc H2.out.2 _) H2.out.1 (C_ints hA2 (by decide)) (by decide) aw8) ?_
  rintro e W3 ⟨rfl, hD⟩
  have HB3 := Aside0.mk ((below_alloc HB2.out (iv [0,2,1,3])).trans (hD.below.mono (by have := HB2.out.size; simp; omega)))
  clear hD hA2 H2 HB2
  go_wp2_with fail
  refine Calls.mono (graph_Idom.calls 100 (some ⟨w.heap.size + 4, 0, none⟩) 4 gA _ W3 (Kd.C_below HCA.out HB3.out) (by decide) aw2) ?_
  rintro e W4 ⟨v, rfl, hR, hB⟩
  obtain ⟨A, c, rfl⟩ := Kd.R_slice hR
  have H4 := Aside0.mk (And.intro (Kd.R_reads' hR).2.1 (Kd.R_reads' hR).2.2)
  have HB4 := Aside0.mk (HB3.out.trans (hB.mono HB3.out.size))
  clear hR hB
  go_wp2_with fail
  have hA4 : (W4.alloc (iv [-1,0,0,0])).heap[W4.heap.size]? = some (iv [-1,0,0,0]) := World.alloc_heap_new _ _
  refine Calls.mono (jacquardref02_Nums.calls 100 A c [-1,0,0,0] (some ⟨W4.heap.size, 0, none⟩) _ [-1,0,0,0] true (W4.alloc (iv [-1,0,0,0])) (Kd.C_alloc H4.out.2 _) H4.out.1 (C_ints hA4 (by decide)) (by decide) aw9) ?_
  rintro e W5 ⟨rfl, hD⟩
  have HB5 := Aside0.mk ((below_alloc HB4.out (iv [-1,0,0,0])).trans (hD.below.mono (by have := HB4.out.size; simp; omega)))
  clear hD hA4 H4 HB4 HB3
  go_wp2_with fail
  refine Calls.mono (graph_Body.calls 100 (some ⟨w.heap.size + 9, 0, none⟩) 4 gB 1 _ W5 (Kd.C_below HCB.out HB5.out) (by decide) aw3) ?_
  rintro e W6 ⟨v, rfl, hR, hB⟩
  obtain ⟨A, c, rfl⟩ := Kd.R_slice hR
  have H6 := Aside0.mk (And.intro (Kd.R_reads' hR).2.1 (Kd.R_reads' hR).2.2)
  have HB6 := Aside0.mk (HB5.out.trans (hB.mono HB5.out.size))
  clear hR hB
  go_wp2_with fail
  have hA6 : (W6.alloc (iv [1,2])).heap[W6.heap.size]? = some (iv [1,2]) := World.alloc_heap_new _ _
  refine Calls.mono (jacquardref02_Nums.calls 100 A c [1,2] (some ⟨W6.heap.size, 0, none⟩) _ [1,2] true (W6.alloc (iv [1,2])) (Kd.C_alloc H6.out.2 _) H6.out.1 (C_ints hA6 (by decide)) (by decide) aw10) ?_
  rintro e W7 ⟨rfl, hD⟩
  have HB7 := Aside0.mk ((below_alloc HB6.out (iv [1,2])).trans (hD.below.mono (by have := HB6.out.size; simp; omega)))
  clear hD hA6 H6 HB6 HB5
  go_wp2_with fail
  obtain ⟨W8, hW8⟩ : ∃ W8, ([iv [1,2], iv [2], iv [], .cells #[sl W7.heap.size 2, sl (W7.heap.size + 1) 1, sl (W7.heap.size + 2) 0] 23] : List Obj).foldl World.alloc W7 = W8 := ⟨_, rfl⟩
  have hA : ∀ i o, ([iv [1,2], iv [2], iv [], .cells #[sl W7.heap.size 2, sl (W7.heap.size + 1) 1, sl (W7.heap.size + 2) 0] 23] : List Obj)[i]? = some o → W8.heap[W7.heap.size + i]? = some o := by
    intro i o h
    rw [← hW8, alloc_at _ _ _ (List.getElem?_eq_some_iff.1 h).1]
    exact h
  have hBW : Below W7.heap.size W7 W8 := by
    rw [← hW8]
    exact below_alloc (below_alloc (below_alloc (below_alloc (Below.refl _ _) _) _) _) _
  have hCC : Kd.C (Kd.slice 3 (Kd.int .i64)) W8 (some ⟨W7.heap.size + 3, 0, none⟩) gC.length gC := C_rows (hA 3 _ rfl) (by decide) (by
    intro i row hi
    match i, hi with
    | 0, hi => cases hi; exact ⟨_, _, rfl, Nat.le_refl _, C_ints (hA 0 _ rfl) (by decide)⟩
    | 1, hi => cases hi; exact ⟨_, _, rfl, Nat.le_refl _, C_ints (hA 1 _ rfl) (by decide)⟩
    | 2, hi => cases hi; exact ⟨_, _, rfl, Nat.le_refl _, C_ints (hA 2 _ rfl) (by decide)⟩
    | i + 3, hi => cases hi)
  have HCC := Aside0.mk hCC
  have HB8 := Aside0.mk (HB7.out.trans (hBW.mono HB7.out.size))
  refine Calls.mono (show Calls Try.prog 48 #[.slice (some ⟨W7.heap.size + 3, 0, none⟩) 3 3] _ _ from by have := graph_Critical.calls (some ⟨W7.heap.size + 3, 0, none⟩) 3 gC _ W8 HCC.out (by decide) aw4; rw [← hW8] at this; exact this) ?_
  rintro e W9 ⟨v, rfl, hR, hB⟩
  rw [hW8] at hB
  clear hCC hA hBW hW8 HCC HB7
  obtain ⟨A, c, rfl⟩ := Kd.R_slice hR
  have H9 := Aside0.mk (And.intro (Kd.R_reads' hR).2.1 (Kd.R_reads' hR).2.2)
  have HB9 := Aside0.mk (HB8.out.trans (hB.mono HB8.out.size))
  clear hR hB HB8
  go_wp2_with fail
  have hA9 : (W9.alloc (.cells #[.int .i64 0, .int .i64 2] 73)).heap[W9.heap.size]? = some (.cells #[.int .i64 0, .int .i64 2] 73 (0, 0)) := World.alloc_heap_new _ _
  have hP : Kd.C k73 (W9.alloc (.cells #[.int .i64 0, .int .i64 2] 73)) (some ⟨W9.heap.size, 0, none⟩) ([⟨0, 2⟩] : List S73).length [⟨0, 2⟩] := by
    refine ⟨rfl, by decide, fun _ => ⟨_, rfl, fun j p hp => ?_⟩⟩
    match j, hp with
    | 0, hp =>
      cases hp
      refine ⟨[.int .i64 0, .int .i64 2], rfl, k73_mk _ ⟨0, 2⟩, fun i u hu => ?_⟩
      rw [add_at]
      match i, hu with
      | 0, hu => cases hu; exact blk_cell hA9 0
      | 1, hu => cases hu; exact blk_cell hA9 1
      | i + 2, hu => cases hu
    | j + 1, hp => cases hp
  refine Calls.mono (jacquardref02_Pairs.calls A c [⟨0, 2⟩] (some ⟨W9.heap.size, 0, none⟩) 1 [⟨0, 2⟩] true (W9.alloc (.cells #[.int .i64 0, .int .i64 2] 73)) (Kd.C_alloc H9.out.2 _) H9.out.1 hP (by decide) aw11) ?_
  rintro e W10 ⟨rfl, hD⟩
  have HB10 := Aside0.mk ((below_alloc HB9.out (.cells #[.int .i64 0, .int .i64 2] 73)).trans (hD.below.mono (by have := HB9.out.size; simp; omega)))
  clear hD hA9 hP H9 HB9
  go_wp2_with fail
  refine Calls.mono (graph_Reducible.calls 100 (some ⟨w.heap.size + 4, 0, none⟩) 4 gA false W10 (Kd.C_below HCA.out HB10.out) (by decide) aw5) ?_
  rintro e W11 ⟨rfl, hB⟩
  have HB11 := Aside0.mk (HB10.out.trans (hB.mono HB10.out.size))
  clear hB HB10
  go_wp2_with fail
  refine Calls.mono (graph_Reducible.calls 100 (some ⟨w.heap.size + 9, 0, none⟩) 4 gB true W11 (Kd.C_below HCB.out HB11.out) (by decide) aw6) ?_
  rintro e W12 ⟨rfl, hB⟩
  have HB12 := Aside0.mk (HB11.out.trans (hB.mono HB11.out.size))
  clear hB HB11
  go_wp2_with fail
  refine Calls.mono (graph_Headers.calls 100 (some ⟨w.heap.size + 4, 0, none⟩) 4 gA [] W12 (Kd.C_below HCA.out HB12.out) (by decide) aw7) ?_
  rintro e W13 ⟨v, rfl, hR, hB⟩
  have HB13 := Aside0.mk (HB12.out.trans (hB.mono HB12.out.size))
  obtain ⟨A, c, rfl⟩ := Kd.R_slice hR
  clear hR hB HB12
  go_wp2
  go_ret
  exact ⟨rfl, HBW.out.trans (HB13.out.mono HBW.out.size)⟩
end Go.Proofs.Ytnmeomdjhjgnfaa.X
end
section
namespace Go.Proofs.Ytnmeomdjhjgnfaa.X
open Go.RowKit Go.Proofs.YtnmeomdjhjgnfaaW.PrintWords Go.Proofs.YtnmeomdjhjgnfaaW.PrintLast
set_option linter.unusedVariables false
set_option linter.unusedSimpArgs false
set_option maxHeartbeats 8000000 in
set_option maxRecDepth 100000 in
theorem graphTells_true (k : Nat) (A0 : Option Addr) (c0 : Nat) (l0 : List (List Int)) (A1 : Option Addr) (c1 : Nat) (l1 : List Int) (w : World) (hr0 : Kd.C (Kd.slice 3 (Kd.int .i64)) w A0 l0.length l0) (hr1 : Kd.C (Kd.int .i64) w A1 l1.length l1) (hc1 : l1.length ≤ c1)
    {p1 p2 p3 : List (List Int)} {o1 o2 o3 d1 d2 d3 hd1 hd2 hd3 : List Int} {b1 b2 b3 : List S73} {v1 v2 v3 : Bool} {g2 : List (List Int)} (t1 : Told1 k (fewL l0) p1 o1 d1 hd1 b1 v1) (h8 : jacquardref02_Made.f k l1 = some g2) (t2 : Told1 k g2 p2 o2 d2 hd2 b2 v2) (t3 : Told1 k [] p3 o3 d3 hd3 b3 v3) :
    Calls Try.prog 3 #[.slice A0 l0.length c0, .slice A1 l1.length c1] w fun e w' => e = .returned (.bool true) ∧ Below w.heap.size w w' := by
  have HR0 := Aside0.mk hr0
  have HR1 := Aside0.mk hr1
  have HC1 := Aside0.mk hc1
  have HB := Aside0.mk (Below.refl w.heap.size w)
  have T1 := Aside0.mk t1
  have A8 := Aside0.mk h8
  have T2 := Aside0.mk t2
  have T3 := Aside0.mk t3
  clear hr0 hr1 hc1 t1 h8 t2 t3
  go_enter Try.func3, Try.ntmps3
  go_wp2_with (first | ((with_reducible refine gate_callee (f := 22) rfl ?_); refine goesL_ (some 6) rfl rfl Try.func22 (by kernel_rfl) rfl #[] rfl (by (try simp only [List.map_toArray, List.map_cons, List.map_nil]); first | done | rfl | (simp only [List.length_drop, List.length_take]; rfl)) ?_; (with_reducible refine (jacquardlaw02_awake.calls true _ rfl).mono ?_); rintro e w12 ⟨rfl, hb⟩; refine ⟨_, rfl, ?_⟩; have n0_ := Aside0.mk (below_step (by repeat (first | exact HB.out | apply below_alloc | apply pw_below_drewN | apply below_drew1)) hb); clear HB; have HB := n0_; clear n0_ hb) | (go_at_call 24; (with_reducible refine (few_calls A0 _ l0 _ (Kd.C_below HR0.out HB.out)).mono ?_); rintro e w_ ⟨Af, cf_, rfl, hl, hC, hb⟩; have n0_ := Aside0.mk (below_step (by repeat (first | exact HB.out | apply below_alloc | apply pw_below_drewN | apply below_drew1)) hb); have n1_ := Aside0.mk (And.intro hl hC); clear HB hb hl hC; have HB := n0_; have HF := n1_; clear n0_ n1_) | (go_at_call 23; (with_reducible refine (told_true k _ _ (fewL l0) p1 o1 d1 hd1 b1 v1 _ HF.out.2 HF.out.1 T1.out).mono ?_); rintro e w_ ⟨rfl, hb⟩; have n0_ := Aside0.mk (below_step (by repeat (first | exact HB.out | apply below_alloc | apply pw_below_drewN | apply below_drew1)) hb); clear HB HF hb; have HB := n0_; clear n0_) | (go_at_call 25; (with_reducible refine (jacquardref02_Made.calls k _ _ l1 g2 _ (Kd.C_below HR1.out HB.out) HC1.out A8.out).mono ?_); rintro e w16 ⟨v328, rfl, ho0, hb⟩; have n2_ := Aside0.mk (below_step (by repeat (first | exact HB.out | apply below_alloc | apply pw_below_drewN | apply below_drew1)) hb); obtain ⟨Ao17, co17, rfl, hl17, hC17⟩ := Kd.S_reads ho0; have HF := Aside0.mk (And.intro hl17 hC17); clear HB hb ho0 hl17 hC17; have HB := n2_; clear n2_) | (go_at_call 23; (with_reducible refine (told_true k _ _ g2 p2 o2 d2 hd2 b2 v2 _ HF.out.2 HF.out.1 T2.out).mono ?_); rintro e w_ ⟨rfl, hb⟩; have n0_ := Aside0.mk (below_step (by repeat (first | exact HB.out | apply below_alloc | apply pw_below_drewN | apply below_drew1)) hb); clear HB HF hb; have HB := n0_; clear n0_) | (go_at_call 23; (refine (told_true k _ _ ([] : List (List Int)) p3 o3 d3 hd3 b3 v3 _ (Kd.C_nil _ _) (Nat.le_refl _) T3.out).mono ?_); rintro e w_ ⟨rfl, hb⟩; have n0_ := Aside0.mk (below_step (by repeat (first | exact HB.out | apply below_alloc | apply pw_below_drewN | apply below_drew1)) hb); clear HB hb; have HB := n0_; clear n0_))
  go_ret
  exact ⟨rfl, (by repeat (first | exact HB.out | apply below_alloc | apply pw_below_drewN | apply below_drew1))⟩
/-- y stands ahead of x. -/
def Bef (L : List Int) (y x : Int) : Prop := ∃ l1 l2, L = l1 ++ l2 ∧ y ∈ l1 ∧ x ∈ l2
theorem Bef.left {L : List Int} {y x : Int} (h : Bef L y x) (M : List Int) : Bef (L ++ M) y x := by
  obtain ⟨l1, l2, rfl, h1, h2⟩ := h
  exact ⟨l1, l2 ++ M, by simp, h1, by simp [h2]⟩
theorem Bef.right {L : List Int} {y x : Int} (h : Bef L y x) (M : List Int) : Bef (M ++ L) y x := by
  obtain ⟨l1, l2, rfl, h1, h2⟩ := h
  exact ⟨M ++ l1, l2, by simp, by simp [h1], h2⟩
theorem Bef.cross {L M : List Int} {y x : Int} (h : y ∈ L) (k : x ∈ M) : Bef (L ++ M) y x := ⟨L, M, rfl, h, k⟩
/-- A way from y on, each step to a block that is left earlier. -/
inductive FP (E : Int → Int → Prop) (L : List Int) (y : Int) : Int → Prop
  | refl : FP E L y y
  | step {z x : Int} : FP E L y z → E z x → Bef L x z → FP E L y x
theorem FP.mono {E : Int → Int → Prop} {L M : List Int} (hb : ∀ a b, Bef L a b → Bef M a b) {y x : Int} (h : FP E L y x) : FP E M y x := by
  induction h with
  | refl => exact .refl
  | step _ he hbf ih => exact .step ih he (hb _ _ hbf)
theorem FP.trans {E : Int → Int → Prop} {L : List Int} {w y x : Int} (h : FP E L w y) (k : FP E L y x) : FP E L w x := by
  induction k with
  | refl => exact h
  | step _ he hbf ih => exact .step ih he hbf

def on (t : List Bool) (y : Int) : Prop := t.getD y.toNat false = true
theorem on_set {t : List Bool} {a y : Int} (ha : 0 ≤ a ∧ a < t.length) (hy : 0 ≤ y) : on (t.set a.toNat true) y ↔ on t y ∨ y = a := by
  unfold on
  rw [List.getD_eq_getElem?_getD, List.getD_eq_getElem?_getD]
  by_cases h : a.toNat = y.toNat
  · rw [← h, List.getElem?_set_self (by omega)]
    simp; right; omega
  · rw [List.getElem?_set_ne h]
    constructor
    · exact .inl
    · rintro (h2 | h2)
      · exact h2
      · exfalso; apply h; rw [h2]
def cf (t : List Bool) : Nat := t.count false
theorem cf_set (t : List Bool) : ∀ (i : Nat), i < t.length → t.getD i false = false → cf (t.set i true) + 1 = cf t := by
  unfold cf
  induction t with
  | nil => intro i h; simp at h
  | cons x t ih =>
    intro i h hf
    cases i with
    | zero => simp at hf; subst hf; simp
    | succ i =>
      have := ih i (by simpa using h) (by simpa using hf)
      simp only [List.set_cons_succ, List.count_cons]
      omega
theorem cf_mono (t : List Bool) : ∀ (s : List Bool), t.length = s.length → (∀ i, t.getD i false = true → s.getD i false = true) → cf s ≤ cf t := by
  unfold cf
  induction t with
  | nil => intro s h _; have : s = [] := List.length_eq_zero_iff.1 h.symm; subst this; simp
  | cons x t ih =>
    intro s h hm
    cases s with
    | nil => simp at h
    | cons y s =>
      have h1 := ih s (by simpa using h) (fun i => by have := hm (i + 1); simpa using this)
      have h2 := hm 0
      simp only [List.getD_cons_zero] at h2
      simp only [List.count_cons]
      cases x <;> cases y <;> simp_all <;> omega

/-- What is new from t to t'. -/
structure DfsNew (E : Int → Int → Prop) (n : Nat) (t t' : List Bool) (new : List Int) : Prop where
  len : t'.length = t.length
  mark : ∀ y : Int, 0 ≤ y → y < (n : Int) → (on t' y ↔ on t y ∨ y ∈ new)
  rng : ∀ x ∈ new, 0 ≤ x ∧ x < (n : Int)
  fresh : ∀ x ∈ new, ¬ on t x
  nodup : new.Nodup
  closed : ∀ x ∈ new, ∀ y, E x y → on t' y
  back : ∀ x ∈ new, ∀ y ∈ new, E x y → Bef new y x ∨ FP E new y x
theorem DfsNew.nil (E : Int → Int → Prop) (n : Nat) (t : List Bool) : DfsNew E n t t [] :=
  ⟨rfl, (fun y _ _ => by simp), (fun x (h : x ∈ []) => nomatch h), (fun x (h : x ∈ []) => nomatch h), List.nodup_nil, (fun x (h : x ∈ []) => nomatch h), (fun x (h : x ∈ []) => nomatch h)⟩
theorem DfsNew.join {E : Int → Int → Prop} {n : Nat} (hE : ∀ x y, E x y → 0 ≤ y ∧ y < n) {t s u : List Bool} {l m : List Int} (h : DfsNew E n t s l) (k : DfsNew E n s u m) : DfsNew E n t u (l ++ m) := by
  have hsu : ∀ y, 0 ≤ y → y < (n : Int) → on s y → on u y := fun y h0 h1 hy => (k.mark y h0 h1).2 (.inl hy)
  refine ⟨k.len.trans h.len, fun y h0 h1 => ?_, fun x hx => ?_, fun x hx => ?_, ?_, fun x hx y he => ?_, fun x hx y hy he => ?_⟩
  · rw [k.mark y h0 h1, h.mark y h0 h1, List.mem_append, or_assoc]
  · rcases List.mem_append.1 hx with hx | hx
    · exact h.rng x hx
    · exact k.rng x hx
  · rcases List.mem_append.1 hx with hx | hx
    · exact h.fresh x hx
    · have hr := k.rng x hx
      exact fun hy => k.fresh x hx ((h.mark x hr.1 hr.2).2 (.inl hy))
  · rw [List.nodup_append]
    refine ⟨h.nodup, k.nodup, fun x hx y hy e => ?_⟩
    subst e
    have hr := h.rng x hx
    exact k.fresh x hy ((h.mark x hr.1 hr.2).2 (.inr hx))
  · have hr := hE x y he
    rcases List.mem_append.1 hx with hx | hx
    · exact hsu y hr.1 hr.2 (h.closed x hx y he)
    · exact k.closed x hx y he
  · rcases List.mem_append.1 hx with hx | hx <;> rcases List.mem_append.1 hy with hy | hy
    · exact (h.back x hx y hy he).imp (fun b => b.left m) (fun f => f.mono (fun a b hb => hb.left m))
    · exact absurd (h.closed x hx y he) (k.fresh y hy)
    · exact .inl (Bef.cross hy hx)
    · exact (k.back x hx y hy he).imp (fun b => b.right l) (fun f => f.mono (fun a b hb => hb.right l))

def RE (rows : List (List Int)) (x y : Int) : Prop := 0 ≤ x ∧ y ∈ rows.getD x.toNat []
theorem RE_in {rows : List (List Int)} {n : Nat} (hrows : ∀ row ∈ rows, ∀ b ∈ row, 0 ≤ b ∧ b < (n : Int)) (x y : Int) (h : RE rows x y) : 0 ≤ y ∧ y < (n : Int) := by
  obtain ⟨_, h⟩ := h
  rcases Nat.lt_or_ge x.toNat rows.length with hl | hl
  · rw [List.getD_eq_getElem?_getD, List.getElem?_eq_getElem hl] at h
    exact hrows _ (List.getElem_mem hl) y h
  · rw [List.getD_eq_getElem?_getD, List.getElem?_eq_none hl] at h
    cases h
def oStep (rows : List (List Int)) (k : Nat) (s : List Bool × List Int) (b : Int) : Option (List Bool × List Int) :=
  if s.1.getD b.toNat false = true then some s else overL rows k b s
theorem oL_eq (rows : List (List Int)) (k : Nat) (a : Int) (s : List Bool × List Int) :
    overL rows (k + 1) a s = ((rows.getD a.toNat []).foldlM (oStep rows k) (s.1.set a.toNat true, s.2)).map fun s => (s.1, s.2 ++ [a]) := rfl

theorem dfs (rows : List (List Int)) (n : Nat) (hrows : ∀ row ∈ rows, ∀ b ∈ row, 0 ≤ b ∧ b < (n : Int)) : ∀ (k : Nat) (a : Int) (t : List Bool) (o : List Int), t.length = n → 0 ≤ a → a < n → ¬ on t a → cf t ≤ k →
    ∃ t' new, overL rows k a (t, o) = some (t', o ++ (new ++ [a])) ∧ DfsNew (RE rows) n t t' (new ++ [a]) ∧ ∀ x ∈ new ++ [a], FP (RE rows) (new ++ [a]) a x := by
  have hE := RE_in hrows
  intro k
  induction k with
  | zero =>
    intro a t o hl h0 h1 hn hc
    have h2 := cf_set t a.toNat (by omega) (by unfold on at hn; simpa using hn)
    omega
  | succ k ih =>
    have key : ∀ (l : List Int) (t : List Bool) (o : List Int), (∀ b ∈ l, 0 ≤ b ∧ b < (n : Int)) → t.length = n → cf t ≤ k →
        ∃ t' new, l.foldlM (oStep rows k) (t, o) = some (t', o ++ new) ∧ DfsNew (RE rows) n t t' new ∧ (∀ b ∈ l, on t' b) ∧ ∀ x ∈ new, ∃ b, b ∈ l ∧ b ∈ new ∧ FP (RE rows) new b x := by
      intro l
      induction l with
      | nil => intro t o _ hl _; exact ⟨t, [], by simp [pure], DfsNew.nil _ _ _, (fun b (hb : b ∈ []) => by cases hb), (fun x (hx : x ∈ []) => by cases hx)⟩
      | cons b l ihl =>
        intro t o hb hl hc
        have hbr := hb b List.mem_cons_self
        by_cases ht : on t b
        · obtain ⟨t', new, h1, h2, h3, h4⟩ := ihl t o (fun x hx => hb x (List.mem_cons_of_mem _ hx)) hl hc
          refine ⟨t', new, ?_, h2, fun x hx => ?_, fun x hx => ?_⟩
          · rw [List.foldlM_cons, show oStep rows k (t, o) b = some (t, o) from by unfold oStep; exact if_pos ht]
            exact h1
          · rcases List.mem_cons.1 hx with rfl | hx
            · exact (h2.mark x hbr.1 hbr.2).2 (.inl ht)
            · exact h3 x hx
          · obtain ⟨c, hc1, hc2, hc3⟩ := h4 x hx
            exact ⟨c, List.mem_cons_of_mem _ hc1, hc2, hc3⟩
        · obtain ⟨t1, new1, g1, g2, g3⟩ := ih b t o hl hbr.1 hbr.2 ht hc
          have hl1 : t1.length = n := g2.len.trans hl
          have hc1 : cf t1 ≤ k := by
            refine Nat.le_trans (cf_mono t t1 g2.len.symm (fun i hi => ?_)) hc
            have hin : i < n := by
              rcases Nat.lt_or_ge i t.length with h | h
              · omega
              · rw [List.getD_eq_getElem?_getD, List.getElem?_eq_none h] at hi; cases hi
            have := (g2.mark (i : Int) (by omega) (by omega)).2 (.inl (by unfold on; simpa using hi))
            unfold on at this
            simpa using this
          obtain ⟨t', new, h1, h2, h3, h4⟩ := ihl t1 (o ++ (new1 ++ [b])) (fun x hx => hb x (List.mem_cons_of_mem _ hx)) hl1 hc1
          refine ⟨t', (new1 ++ [b]) ++ new, ?_, g2.join hE h2, fun x hx => ?_, fun x hx => ?_⟩
          · rw [List.foldlM_cons, show oStep rows k (t, o) b = some (t1, o ++ (new1 ++ [b])) from by unfold oStep; exact (if_neg ht).trans g1]
            show List.foldlM (oStep rows k) (t1, o ++ (new1 ++ [b])) l = _
            rw [h1, List.append_assoc o]
          · rcases List.mem_cons.1 hx with rfl | hx
            · exact (h2.mark x hbr.1 hbr.2).2 (.inl ((g2.mark x hbr.1 hbr.2).2 (.inr (by simp))))
            · exact h3 x hx
          · rcases List.mem_append.1 hx with hx | hx
            · exact ⟨b, List.mem_cons_self, by simp, (g3 x hx).mono (fun _ _ hb => hb.left _)⟩
            · obtain ⟨c, hc1, hc2, hc3⟩ := h4 x hx
              exact ⟨c, List.mem_cons_of_mem _ hc1, List.mem_append_right _ hc2, hc3.mono (fun _ _ hb => hb.right _)⟩
    intro a t o hl h0 h1 hn hc
    have h2 := cf_set t a.toNat (by omega) (by unfold on at hn; simpa using hn)
    have hrow : ∀ b ∈ rows.getD a.toNat [], 0 ≤ b ∧ b < (n : Int) := fun b hb => hE a b ⟨h0, hb⟩
    obtain ⟨t', new, g1, g2, g3, g4⟩ := key (rows.getD a.toNat []) (t.set a.toNat true) o hrow (by simpa using hl) (by omega)
    have hset : ∀ y, 0 ≤ y → (on (t.set a.toNat true) y ↔ on t y ∨ y = a) := fun y hy => on_set ⟨h0, by omega⟩ hy
    have hroot : ∀ x ∈ new ++ [a], FP (RE rows) (new ++ [a]) a x := by
      intro x hx
      rcases List.mem_append.1 hx with hx | hx
      · obtain ⟨b, hb1, hb2, hb3⟩ := g4 x hx
        exact (FP.step .refl ⟨h0, hb1⟩ (Bef.cross hb2 (by simp))).trans (hb3.mono (fun _ _ hb => hb.left _))
      · rw [List.mem_singleton.1 hx]; exact .refl
    refine ⟨t', new, ?_, ⟨?_, fun y hy0 hy1 => ?_, fun x hx => ?_, fun x hx => ?_, ?_, fun x hx y he => ?_, fun x hx y hy he => ?_⟩, hroot⟩
    · rw [oL_eq, g1]
      simp
    · rw [g2.len]; simp
    · rw [g2.mark y hy0 hy1, hset y hy0, List.mem_append, List.mem_singleton]
      constructor
      · rintro ((h | h) | h)
        · exact .inl h
        · exact .inr (.inr h)
        · exact .inr (.inl h)
      · rintro (h | h | h)
        · exact .inl (.inl h)
        · exact .inr h
        · exact .inl (.inr h)
    · rcases List.mem_append.1 hx with hx | hx
      · exact g2.rng x hx
      · rw [List.mem_singleton.1 hx]; exact ⟨h0, h1⟩
    · rcases List.mem_append.1 hx with hx | hx
      · exact fun hy => g2.fresh x hx ((hset x (g2.rng x hx).1).2 (.inl hy))
      · rw [List.mem_singleton.1 hx]; exact hn
    · rw [List.nodup_append]
      refine ⟨g2.nodup, by simp, fun x hx y hy e => ?_⟩
      rw [List.mem_singleton.1 hy] at e
      exact g2.fresh x hx ((hset x (g2.rng x hx).1).2 (.inr e))
    · rcases List.mem_append.1 hx with hx | hx
      · exact g2.closed x hx y he
      · rw [List.mem_singleton.1 hx] at he
        exact g3 y he.2
    · rcases List.mem_append.1 hx with hx | hx
      · rcases List.mem_append.1 hy with hy | hy
        · exact (g2.back x hx y hy he).imp (fun b => b.left _) (fun f => f.mono (fun _ _ hb => hb.left _))
        · rw [List.mem_singleton.1 hy]
          exact .inr (hroot x (List.mem_append_left _ hx))
      · rw [List.mem_singleton.1 hx] at he ⊢
        rcases List.mem_append.1 hy with hy | hy
        · exact .inl (Bef.cross hy (by simp))
        · rw [List.mem_singleton.1 hy]; exact .inr .refl
/-- The block at a place. -/
def at_ (o : List Int) (i : Nat) : Int := o.getD i 0
/-- From place j on to place i, by edges that go on. -/
inductive FW (E : Int → Int → Prop) (o : List Int) (j : Nat) : Nat → Prop
  | refl : FW E o j j
  | step {z x : Nat} : FW E o j z → E (at_ o z) (at_ o x) → z < x → x < o.length → FW E o j x
structure Ordd (E : Int → Int → Prop) (n : Nat) (o : List Int) : Prop where
  nodup : o.Nodup
  rng : ∀ x ∈ o, 0 ≤ x ∧ x < (n : Int)
  pos : 0 < o.length
  head : at_ o 0 = 0
  closed : ∀ x ∈ o, ∀ y, E x y → y ∈ o
  fwd : ∀ i, 0 < i → i < o.length → ∃ j, j < i ∧ E (at_ o j) (at_ o i)
  back : ∀ i j, i < o.length → j < o.length → E (at_ o i) (at_ o j) → i < j ∨ FW E o j i
theorem at_mem {o : List Int} {i : Nat} (h : i < o.length) : at_ o i ∈ o := by
  unfold at_
  rw [List.getD_eq_getElem?_getD, List.getElem?_eq_getElem h]
  exact List.getElem_mem h
theorem at_inj {o : List Int} (hn : o.Nodup) {i j : Nat} (hi : i < o.length) (hj : j < o.length) (h : at_ o i = at_ o j) : i = j := by
  unfold at_ at h
  rw [List.getD_eq_getElem?_getD, List.getElem?_eq_getElem hi, List.getD_eq_getElem?_getD, List.getElem?_eq_getElem hj] at h
  have hp := List.pairwise_iff_getElem.1 hn
  rcases Nat.lt_trichotomy i j with hlt | hlt | hlt
  · exact absurd h (hp i j hi hj hlt)
  · exact hlt
  · exact absurd h.symm (hp j i hj hi hlt)
theorem mem_at {o : List Int} {x : Int} (h : x ∈ o) : ∃ i, i < o.length ∧ at_ o i = x := by
  obtain ⟨i, hi, rfl⟩ := List.getElem_of_mem h
  exact ⟨i, hi, by unfold at_; rw [List.getD_eq_getElem?_getD, List.getElem?_eq_getElem hi]; rfl⟩
theorem bef_place {L : List Int} (hn : L.Nodup) {i j : Nat} (hi : i < L.reverse.length) (hj : j < L.reverse.length) (h : Bef L (at_ L.reverse i) (at_ L.reverse j)) : j < i := by
  obtain ⟨l1, l2, rfl, h1, h2⟩ := h
  have hr : (l1 ++ l2).reverse.Nodup := (List.reverse_perm _).nodup_iff.2 hn
  have e : (l1 ++ l2).reverse = l2.reverse ++ l1.reverse := List.reverse_append
  obtain ⟨j', hj', ej⟩ := mem_at (List.mem_reverse.2 h2)
  obtain ⟨i', hi', ei⟩ := mem_at (List.mem_reverse.2 h1)
  have ej2 : at_ (l1 ++ l2).reverse j' = at_ (l1 ++ l2).reverse j := by
    rw [← ej, e]
    unfold at_
    rw [List.getD_eq_getElem?_getD, List.getElem?_append_left hj', ← List.getD_eq_getElem?_getD]
  have ei2 : at_ (l1 ++ l2).reverse (l2.reverse.length + i') = at_ (l1 ++ l2).reverse i := by
    rw [← ei, e]
    unfold at_
    rw [List.getD_eq_getElem?_getD, List.getElem?_append_right (by omega), Nat.add_sub_cancel_left, ← List.getD_eq_getElem?_getD]
  have h3 := at_inj hr (by rw [e, List.length_append]; omega) hj ej2
  have h4 := at_inj hr (by rw [e, List.length_append]; omega) hi ei2
  omega
theorem fp_fw {E : Int → Int → Prop} {L : List Int} (hn : L.Nodup) (hm : ∀ y x, Bef L y x → y ∈ L ∧ x ∈ L) {y x : Int} (h : FP E L y x) : ∀ j i, j < L.reverse.length → i < L.reverse.length → at_ L.reverse j = y → at_ L.reverse i = x → FW E L.reverse j i := by
  have hr : L.reverse.Nodup := (List.reverse_perm _).nodup_iff.2 hn
  induction h with
  | refl =>
    intro j i hj hi ej ei
    obtain rfl := at_inj hr hj hi (ej.trans ei.symm)
    exact .refl
  | @step z x _ he hb ih =>
    intro j i hj hi ej ei
    obtain ⟨k, hk, ek⟩ := mem_at (List.mem_reverse.2 (hm _ _ hb).2)
    refine .step (ih j k hj hk ej ek) (by rw [ek, ei]; exact he) ?_ hi
    exact bef_place hn hi hk (by rw [ek, ei]; exact hb)
theorem bef_mem {L : List Int} {y x : Int} (h : Bef L y x) : y ∈ L ∧ x ∈ L := by
  obtain ⟨l1, l2, rfl, h1, h2⟩ := h
  exact ⟨by simp [h1], by simp [h2]⟩
/-- The order that a walk from block 0 leaves. -/
theorem order_of (rows : List (List Int)) (n : Nat) (hn0 : 0 < n) (hrows : ∀ row ∈ rows, ∀ b ∈ row, 0 ≤ b ∧ b < (n : Int)) (k : Nat) (hk : n ≤ k) :
    ∃ t o, overL rows k 0 (List.replicate n false, []) = some (t, o) ∧ Ordd (RE rows) n o.reverse := by
  obtain ⟨t, new, h1, h2, h3⟩ := dfs rows n hrows k 0 (List.replicate n false) [] (by simp) (by omega) (by omega) (by unfold on; simp [List.getD_eq_getElem?_getD, List.getElem?_replicate, hn0]) (by unfold cf; simp; omega)
  have hr : (new ++ [0]).reverse.Nodup := (List.reverse_perm _).nodup_iff.2 h2.nodup
  refine ⟨t, new ++ [0], by rw [h1]; rfl, hr, fun x hx => h2.rng x (List.mem_reverse.1 hx), by simp, by simp [at_], fun x hx y he => ?_, fun i h0 hi => ?_, fun i j hi hj he => ?_⟩
  · have hy := RE_in hrows x y he
    have h4 := (h2.mark y hy.1 hy.2).1 (h2.closed x (List.mem_reverse.1 hx) y he)
    refine List.mem_reverse.2 (h4.resolve_left (fun h => ?_))
    unfold on at h
    rw [List.getD_eq_getElem?_getD, List.getElem?_replicate] at h
    split at h <;> cases h
  · have hx := at_mem hi
    have h4 := h3 _ (List.mem_reverse.1 hx)
    obtain ⟨y, hy⟩ : ∃ y, at_ (new ++ [0]).reverse i = y := ⟨_, rfl⟩
    rw [hy] at h4 ⊢
    cases h4 with
    | refl =>
      exfalso
      have h6 : at_ (new ++ [0]).reverse i = at_ (new ++ [0]).reverse 0 := by
        rw [hy]
        simp [at_]
      have := at_inj hr hi (by simp) h6
      omega
    | @step z x _ he hb =>
      obtain ⟨j, hj, ej⟩ := mem_at (List.mem_reverse.2 (bef_mem hb).2)
      exact ⟨j, bef_place h2.nodup hi hj (by rw [ej, hy]; exact hb), by rw [ej]; exact he⟩
  · rcases h2.back _ (List.mem_reverse.1 (at_mem hi)) _ (List.mem_reverse.1 (at_mem hj)) he with hb | hf
    · exact .inl (bef_place h2.nodup hj hi hb)
    · exact .inr (fp_fw h2.nodup (fun _ _ h => bef_mem h) hf j i hj hi rfl rfl)
end Go.Proofs.Ytnmeomdjhjgnfaa.X
end
section
set_option linter.unusedVariables false
namespace Go.Proofs.Ytnmeomdjhjgnfaa.X

/-- z stands on u's chain. -/
inductive An (par : Nat → Nat) (z : Nat) : Nat → Prop
  | refl : An par z z
  | up {u : Nat} : 0 < u → An par z (par u) → An par z u
/-- Parents stand ahead. -/
def Dn (par : Nat → Nat) : Prop := ∀ u, 0 < u → par u < u
theorem An.le {par : Nat → Nat} (hd : Dn par) {z u : Nat} (h : An par z u) : z ≤ u := by
  induction h with
  | refl => exact Nat.le_refl _
  | up h0 _ ih => have := hd _ h0; omega
theorem An.trans {par : Nat → Nat} {z w u : Nat} (h : An par z w) (k : An par w u) : An par z u := by
  induction k with
  | refl => exact h
  | up h0 _ ih => exact .up h0 ih
theorem An.inv {par : Nat → Nat} {z u : Nat} (h : An par z u) : z = u ∨ (0 < u ∧ An par z (par u)) := by
  cases h with
  | refl => exact .inl rfl
  | up h0 h => exact .inr ⟨h0, h⟩
theorem An.linear {par : Nat → Nat} (hd : Dn par) {z w u : Nat} (h : An par z u) (k : An par w u) (hle : z ≤ w) : An par z w := by
  induction k with
  | refl => exact h
  | @up u h0 k ih =>
    rcases h.inv with rfl | ⟨_, h⟩
    · have h1 := k.le hd
      have h2 := hd _ h0
      omega
    · exact ih h
theorem An.root {par : Nat → Nat} (hd : Dn par) : ∀ (n u : Nat), u ≤ n → An par 0 u
  | 0, u, h => by obtain rfl : u = 0 := by omega
                  exact .refl
  | n + 1, u, h => by
    rcases Nat.eq_zero_or_pos u with rfl | h0
    · exact .refl
    · exact .up h0 (An.root hd n (par u) (by have := hd u h0; omega))
theorem An.of_zero {par : Nat → Nat} (hd : Dn par) {z : Nat} (h : An par z 0) : z = 0 := by have := h.le hd; omega

/-- The nearest one of two chains. -/
def com (par : Nat → Nat) : Nat → Nat → Nat → Nat
  | 0, a, _ => a
  | k + 1, a, b => if b < a then com par k (par a) b else if a < b then com par k a (par b) else a
theorem com_an {par : Nat → Nat} (hd : Dn par) : ∀ (k a b : Nat), a + b < k → ∀ z, An par z (com par k a b) ↔ An par z a ∧ An par z b
  | 0, _, _, h, _ => by omega
  | k + 1, a, b, h, z => by
    rw [com]
    by_cases h1 : b < a
    · have h2 := hd a (by omega)
      rw [if_pos h1, com_an hd k (par a) b (by omega) z]
      constructor
      · exact fun ⟨x, y⟩ => ⟨.up (by omega) x, y⟩
      · rintro ⟨x, y⟩
        rcases x.inv with rfl | ⟨_, x⟩
        · have := y.le hd; omega
        · exact ⟨x, y⟩
    · rw [if_neg h1]
      by_cases h3 : a < b
      · have h2 := hd b (by omega)
        rw [if_pos h3, com_an hd k a (par b) (by omega) z]
        constructor
        · exact fun ⟨x, y⟩ => ⟨x, .up (by omega) y⟩
        · rintro ⟨x, y⟩
          rcases y.inv with rfl | ⟨_, y⟩
          · have := x.le hd; omega
          · exact ⟨x, y⟩
      · rw [if_neg h3]
        obtain rfl : a = b := by omega
        exact ⟨fun x => ⟨x, x⟩, fun x => x.1⟩
theorem com_dom {par : Nat → Nat} (hd : Dn par) {Dm : Nat → Nat → Prop} (hle : ∀ d u, Dm d u → d ≤ u) (d : Nat) : ∀ (k a b : Nat), (∀ u, 0 < u → u ≤ max a b → Dm d u → d ≠ u → Dm d (par u)) → Dm d a → Dm d b → Dm d (com par k a b)
  | 0, _, _, _, ha, _ => ha
  | k + 1, a, b, hB, ha, hb => by
    rw [com]
    by_cases h1 : b < a
    · rw [if_pos h1]
      have h2 := hd a (by omega)
      refine com_dom hd hle d k (par a) b (fun u h0 hu => hB u h0 (by omega)) (hB a (by omega) (by omega) ha (fun e => ?_)) hb
      have := hle d b hb
      omega
    · rw [if_neg h1]
      by_cases h3 : a < b
      · rw [if_pos h3]
        have h2 := hd b (by omega)
        refine com_dom hd hle d k a (par b) (fun u h0 hu => hB u h0 (by omega)) ha (hB b (by omega) (by omega) hb (fun e => ?_))
        have := hle d a ha
        omega
      · rw [if_neg h3]; exact ha
/-- The nearest one of several: of p and those behind it. -/
def nca (par : Nat → Nat) (K p : Nat) (ps : List Nat) : Nat := ps.foldl (com par K) p
theorem com_le {par : Nat → Nat} (hd : Dn par) (K a b : Nat) (h : a + b < K) : com par K a b ≤ a ∧ com par K a b ≤ b := by
  have := (com_an hd K a b h (com par K a b)).1 .refl
  exact ⟨this.1.le hd, this.2.le hd⟩
theorem nca_an {par : Nat → Nat} (hd : Dn par) (m : Nat) : ∀ (ps : List Nat) (p : Nat), p < m → (∀ q ∈ ps, q < m) → ∀ z, An par z (nca par (2 * m) p ps) ↔ An par z p ∧ ∀ q ∈ ps, An par z q
  | [], p, _, _, z => by simp [nca]
  | q :: ps, p, hp, hq, z => by
    have h1 := hq q List.mem_cons_self
    have h2 := com_le hd (2 * m) p q (by omega)
    have ih := nca_an hd m ps (com par (2 * m) p q) (by omega) (fun x hx => hq x (List.mem_cons_of_mem _ hx)) z
    unfold nca at ih ⊢
    rw [List.foldl_cons, ih, com_an hd (2 * m) p q (by omega) z]
    constructor
    · rintro ⟨⟨x, y⟩, h⟩
      refine ⟨x, fun w hw => ?_⟩
      rcases List.mem_cons.1 hw with rfl | hw
      · exact y
      · exact h w hw
    · rintro ⟨x, h⟩
      exact ⟨⟨x, h q List.mem_cons_self⟩, fun w hw => h w (List.mem_cons_of_mem _ hw)⟩
theorem nca_dom {par : Nat → Nat} (hd : Dn par) {Dm : Nat → Nat → Prop} (hle : ∀ d u, Dm d u → d ≤ u) (m i d : Nat) (hi : i ≤ m) (hB : ∀ u, 0 < u → u < i → Dm d u → d ≠ u → Dm d (par u)) : ∀ (ps : List Nat) (p : Nat), p < i → (∀ q ∈ ps, q < i) → Dm d p → (∀ q ∈ ps, Dm d q) → Dm d (nca par (2 * m) p ps)
  | [], p, _, _, h, _ => h
  | q :: ps, p, hp, hq, h, hs => by
    have h1 := hq q List.mem_cons_self
    have h2 := com_le hd (2 * m) p q (by omega)
    have h3 := com_dom hd hle d (2 * m) p q (fun u h0 hu => hB u h0 (by omega)) h (hs q List.mem_cons_self)
    exact nca_dom hd hle m i d hi hB ps (com par (2 * m) p q) (by omega) (fun x hx => hq x (List.mem_cons_of_mem _ hx)) h3 (fun x hx => hs x (List.mem_cons_of_mem _ hx))

/-! ### one parent is turned -/
def upd (par : Nat → Nat) (b v : Nat) : Nat → Nat := fun u => if u = b then v else par u
theorem upd_dn {par : Nat → Nat} (hd : Dn par) {b v : Nat} (hv : v < b) : Dn (upd par b v) := by
  intro u h0
  unfold upd
  split
  · omega
  · exact hd u h0
theorem an_upd_lt {par : Nat → Nat} (hd : Dn par) {b v z : Nat} (hv : v < b) {u : Nat} (hu : u < b) : An (upd par b v) z u ↔ An par z u := by
  constructor
  · intro h
    induction h with
    | refl => exact .refl
    | @up u h0 _ ih =>
      have e : upd par b v u = par u := by unfold upd; rw [if_neg (by omega)]
      rw [e] at ih
      exact .up h0 (ih (by have := hd u h0; omega))
  · intro h
    induction h with
    | refl => exact .refl
    | @up u h0 _ ih =>
      have e : upd par b v u = par u := by unfold upd; rw [if_neg (by omega)]
      exact .up h0 (by rw [e]; exact ih (by have := hd u h0; omega))
theorem an_upd_off {par : Nat → Nat} {b v z u : Nat} (hu : ¬ An par b u) : An (upd par b v) z u ↔ An par z u := by
  constructor
  · intro h
    induction h with
    | refl => exact .refl
    | @up u h0 _ ih =>
      have hb : u ≠ b := fun e => hu (e ▸ .refl)
      have e : upd par b v u = par u := by unfold upd; rw [if_neg hb]
      rw [e] at ih
      exact .up h0 (ih (fun h => hu (.up h0 h)))
  · intro h
    induction h with
    | refl => exact .refl
    | @up u h0 _ ih =>
      have hb : u ≠ b := fun e => hu (e ▸ .refl)
      have e : upd par b v u = par u := by unfold upd; rw [if_neg hb]
      exact .up h0 (by rw [e]; exact ih (fun h => hu (.up h0 h)))
theorem an_upd_at {par : Nat → Nat} (hd : Dn par) {b v z : Nat} (h0 : 0 < b) (hv : v < b) : An (upd par b v) z b ↔ z = b ∨ An par z v := by
  have e : upd par b v b = v := by unfold upd; rw [if_pos rfl]
  constructor
  · intro h
    rcases h.inv with h | ⟨_, h⟩
    · exact .inl h
    · rw [e] at h; exact .inr ((an_upd_lt hd hv hv).1 h)
  · rintro (rfl | h)
    · exact .refl
    · exact .up h0 (by rw [e]; exact (an_upd_lt hd hv hv).2 h)
theorem an_upd_on {par : Nat → Nat} (hd : Dn par) {b v z u : Nat} (h0 : 0 < b) (hv : v < b) (hu : An par b u) : An (upd par b v) z u ↔ (b ≤ z ∧ An par z u) ∨ An par z v := by
  induction hu with
  | refl =>
    rw [an_upd_at hd h0 hv]
    constructor
    · rintro (rfl | h)
      · exact .inl ⟨Nat.le_refl _, .refl⟩
      · exact .inr h
    · rintro (⟨h1, h2⟩ | h)
      · exact .inl (by have := h2.le hd; omega)
      · exact .inr h
  | @up u hu0 hb ih =>
    have hbu : b < u := by have := hb.le hd; have := hd u hu0; omega
    have e : upd par b v u = par u := by unfold upd; rw [if_neg (by omega)]
    constructor
    · intro h
      rcases h.inv with rfl | ⟨_, h⟩
      · exact .inl ⟨by omega, .refl⟩
      · rw [e] at h
        rcases ih.1 h with ⟨h1, h2⟩ | h
        · exact .inl ⟨h1, .up hu0 h2⟩
        · exact .inr h
    · rintro (⟨h1, h2⟩ | h)
      · rcases h2.inv with rfl | ⟨_, h2⟩
        · exact .refl
        · exact .up hu0 (by rw [e]; exact ih.2 (.inl ⟨h1, h2⟩))
      · exact .up hu0 (by rw [e]; exact ih.2 (.inr h))
/-- Where the new parent stands on the old one's chain, chains only lose. -/
theorem an_upd_le {par : Nat → Nat} (hd : Dn par) {b v z u : Nat} (h0 : 0 < b) (hv : An par v (par b)) (h : An (upd par b v) z u) : An par z u := by
  have hvb : v < b := by have := hv.le hd; have := hd b h0; omega
  by_cases hu : An par b u
  · rcases (an_upd_on hd h0 hvb hu).1 h with ⟨_, h⟩ | h
    · exact h
    · exact (h.trans hv).trans ((An.up h0 .refl : An par (par b) b).trans hu)
  · exact (an_upd_off hu).1 h
end Go.Proofs.Ytnmeomdjhjgnfaa.X
namespace Go.Proofs.Ytnmeomdjhjgnfaa.X
/-! ### sweeps -/
/-- m blocks by their places in the order; P: the places from which each one comes; Dm: who dominates. -/
structure Gr (m : Nat) (P : Nat → List Nat) (Dm : Nat → Nat → Prop) : Prop where
  inb : ∀ u, u < m → ∀ p ∈ P u, p < m
  fwd : ∀ u, 0 < u → u < m → ∃ s, s ∈ P u ∧ s < u
  dle : ∀ d u, Dm d u → d ≤ u
  dstep : ∀ d u, 0 < u → u < m → Dm d u → d ≠ u → ∀ p ∈ P u, Dm d p
/-- What holds while a later sweep goes, the places below i done. -/
structure Swp (m : Nat) (P : Nat → List Nat) (Dm : Nat → Nat → Prop) (i : Nat) (par : Nat → Nat) : Prop where
  dn : Dn par
  dom : ∀ u, 0 < u → u < m → ∀ d, Dm d u → d ≠ u → Dm d (par u)
  low : ∀ u, 0 < u → u < m → ∀ z, (∀ p ∈ P u, An par z p) → z ≤ par u
  old : ∀ u, 0 < u → u < m → ∃ s, s ∈ P u ∧ s < u ∧ ((u < i → An par (par u) s) ∧ (An par (par u) s ∨ (par u < i ∧ ∀ z, An par z s → z ≤ par u → An par z (par u))))
theorem Swp.step {m : Nat} {P : Nat → List Nat} {Dm : Nat → Nat → Prop} (G : Gr m P Dm) {i : Nat} {par : Nat → Nat} (h : Swp m P Dm i par) (h0 : 0 < i) (hm : i < m) {p : Nat} {ps : List Nat} (hP : P i = p :: ps) :
    nca par (2 * m) p ps ≤ par i ∧ Swp m P Dm (i + 1) (upd par i (nca par (2 * m) p ps)) := by
  obtain ⟨v, hv⟩ : ∃ v, nca par (2 * m) p ps = v := ⟨_, rfl⟩
  have hp : p < m := G.inb i hm p (by rw [hP]; exact List.mem_cons_self)
  have hps : ∀ q ∈ ps, q < m := fun q hq => G.inb i hm q (by rw [hP]; exact List.mem_cons_of_mem _ hq)
  have hvA : ∀ z, An par z v ↔ ∀ q ∈ P i, An par z q := by
    intro z
    rw [← hv, nca_an h.dn m ps p hp hps z, hP]
    simp
  have hvv := (hvA v).1 .refl
  rw [hv]
  have hlow : v ≤ par i := h.low i h0 hm v hvv
  have hvi : v < i := by have := h.dn i h0; omega
  have hvp : An par v (par i) := by
    obtain ⟨s, hs, _, _, ho⟩ := h.old i h0 hm
    rcases ho with ho | ⟨_, ho⟩
    · exact (hvv s hs).linear h.dn ho hlow
    · exact ho v (hvv s hs) hlow
  have hle : ∀ {z u}, An (upd par i v) z u → An par z u := fun hz => an_upd_le h.dn h0 hvp hz
  have e : ∀ u, u ≠ i → upd par i v u = par u := fun u hu => by unfold upd; rw [if_neg hu]
  have ei : upd par i v i = v := by unfold upd; rw [if_pos rfl]
  refine ⟨hlow, upd_dn h.dn hvi, fun u hu0 hum d hd hne => ?_, fun u hu0 hum z hz => ?_, fun u hu0 hum => ?_⟩
  · by_cases hu : u = i
    · subst hu
      rw [ei, ← hv]
      exact nca_dom h.dn G.dle m m d (Nat.le_refl _) (fun u h0 hm hd hne => h.dom u h0 hm d hd hne) ps p hp hps (G.dstep d u h0 hm hd hne p (by rw [hP]; exact List.mem_cons_self)) (fun q hq => G.dstep d u h0 hm hd hne q (by rw [hP]; exact List.mem_cons_of_mem _ hq))
    · rw [e u hu]; exact h.dom u hu0 hum d hd hne
  · by_cases hu : u = i
    · subst hu
      rw [ei]
      exact ((hvA z).2 (fun q hq => hle (hz q hq))).le h.dn
    · rw [e u hu]; exact h.low u hu0 hum z (fun q hq => hle (hz q hq))
  · obtain ⟨s, hs, hsu, ho1, ho2⟩ := h.old u hu0 hum
    rcases Nat.lt_trichotomy u i with hu | hu | hu
    · have h1 : An (upd par i v) (par u) s := (an_upd_lt h.dn hvi (by omega)).2 (ho1 hu)
      rw [e u (by omega)]
      exact ⟨s, hs, hsu, fun _ => h1, .inl h1⟩
    · subst hu
      rw [ei]
      have h1 : An (upd par u v) v s := (an_upd_lt h.dn hvi hsu).2 (hvv s hs)
      exact ⟨s, hs, hsu, fun _ => h1, .inl h1⟩
    · rw [e u (by omega)]
      refine ⟨s, hs, hsu, fun hlt => by omega, ?_⟩
      rcases ho2 with ho | ⟨ho, hq⟩
      · by_cases hb : An par i s
        · by_cases hge : i ≤ par u
          · exact .inl ((an_upd_on h.dn h0 hvi hb).2 (.inl ⟨hge, ho⟩))
          · refine .inr ⟨by omega, fun z hz hzo => ?_⟩
            have hzv : An par z v := by
              rcases (an_upd_on h.dn h0 hvi hb).1 hz with ⟨h1, _⟩ | h1
              · omega
              · exact h1
            have hoi : An par (par u) i := ho.linear h.dn hb (by omega)
            have hop : An par (par u) (par i) := by
              rcases hoi.inv with h1 | ⟨_, h1⟩
              · omega
              · exact h1
            have h1 : An par z (par u) := (hzv.trans hvp).linear h.dn hop hzo
            exact (an_upd_lt h.dn hvi (by omega)).2 h1
        · exact .inl ((an_upd_off hb).2 ho)
      · exact .inr ⟨by omega, fun z hz hzo => (an_upd_lt h.dn hvi ho).2 (hq z (hle hz) hzo)⟩
/-- A sweep's end is the next one's start. -/
theorem Swp.again {m : Nat} {P : Nat → List Nat} {Dm : Nat → Nat → Prop} {par : Nat → Nat} (h : Swp m P Dm m par) : Swp m P Dm 1 par :=
  ⟨h.dn, h.dom, h.low, fun u h0 hm => by
    obtain ⟨s, hs, hsu, h1, _⟩ := h.old u h0 hm
    exact ⟨s, hs, hsu, fun hlt => by omega, .inl (h1 hm)⟩⟩
/-- What holds while the first sweep goes. -/
structure Fst (m : Nat) (P : Nat → List Nat) (Dm : Nat → Nat → Prop) (i : Nat) (par : Nat → Nat) : Prop where
  dn : Dn par
  dom : ∀ u, 0 < u → u < i → ∀ d, Dm d u → d ≠ u → Dm d (par u)
  low : ∀ u, 0 < u → u < i → ∀ z, (∀ p ∈ P u, p < u → An par z p) → z ≤ par u
  old : ∀ u, 0 < u → u < i → ∃ s, s ∈ P u ∧ s < u ∧ An par (par u) s
theorem Fst.start (m : Nat) (P : Nat → List Nat) (Dm : Nat → Nat → Prop) : Fst m P Dm 1 (fun _ => 0) :=
  ⟨fun u h => h, fun u h0 h1 => by omega, fun u h0 h1 => by omega, fun u h0 h1 => by omega⟩
theorem Fst.step {m : Nat} {P : Nat → List Nat} {Dm : Nat → Nat → Prop} (G : Gr m P Dm) {i : Nat} {par : Nat → Nat} (h : Fst m P Dm i par) (h0 : 0 < i) (hm : i < m) {p : Nat} {ps : List Nat} (hP : (P i).filter (fun q => decide (q < i)) = p :: ps) :
    Fst m P Dm (i + 1) (upd par i (nca par (2 * m) p ps)) := by
  obtain ⟨v, hv⟩ : ∃ v, nca par (2 * m) p ps = v := ⟨_, rfl⟩
  have hmem : ∀ q, q ∈ p :: ps ↔ q ∈ P i ∧ q < i := fun q => by rw [← hP, List.mem_filter]; simp
  have hp : p ∈ P i ∧ p < i := (hmem p).1 List.mem_cons_self
  have hps : ∀ q ∈ ps, q ∈ P i ∧ q < i := fun q hq => (hmem q).1 (List.mem_cons_of_mem _ hq)
  have hvA : ∀ z, An par z v ↔ ∀ q ∈ P i, q < i → An par z q := by
    intro z
    rw [← hv, nca_an h.dn m ps p (by omega) (fun q hq => by have := (hps q hq).2; omega) z]
    constructor
    · rintro ⟨h1, h2⟩ q hq hlt
      rcases List.mem_cons.1 ((hmem q).2 ⟨hq, hlt⟩) with rfl | hq
      · exact h1
      · exact h2 q hq
    · exact fun hh => ⟨hh p hp.1 hp.2, fun q hq => hh q (hps q hq).1 (hps q hq).2⟩
  have hvv := (hvA v).1 .refl
  have hvi : v < i := by have := (hvv p hp.1 hp.2).le h.dn; omega
  have e : ∀ u, u ≠ i → upd par i v u = par u := fun u hu => by unfold upd; rw [if_neg hu]
  have ei : upd par i v i = v := by unfold upd; rw [if_pos rfl]
  rw [hv]
  refine ⟨upd_dn h.dn hvi, fun u hu0 hum d hd hne => ?_, fun u hu0 hum z hz => ?_, fun u hu0 hum => ?_⟩
  · by_cases hu : u = i
    · subst hu
      rw [ei, ← hv]
      exact nca_dom h.dn G.dle m u d (by omega) (fun u' h0 hm' hd hne => h.dom u' h0 hm' d hd hne) ps p hp.2 (fun q hq => (hps q hq).2) (G.dstep d u h0 hm hd hne p hp.1) (fun q hq => G.dstep d u h0 hm hd hne q (hps q hq).1)
    · rw [e u hu]; exact h.dom u hu0 (by omega) d hd hne
  · by_cases hu : u = i
    · subst hu
      rw [ei]
      exact ((hvA z).2 (fun q hq hlt => (an_upd_lt h.dn hvi hlt).1 (hz q hq hlt))).le h.dn
    · rw [e u hu]; exact h.low u hu0 (by omega) z (fun q hq hlt => (an_upd_lt h.dn hvi (by omega)).1 (hz q hq hlt))
  · by_cases hu : u = i
    · subst hu
      obtain ⟨s, hs, hsu⟩ := G.fwd u h0 hm
      rw [ei]
      exact ⟨s, hs, hsu, (an_upd_lt h.dn hvi hsu).2 (hvv s hs hsu)⟩
    · obtain ⟨s, hs, hsu, h1⟩ := h.old u hu0 (by omega)
      rw [e u hu]
      exact ⟨s, hs, hsu, (an_upd_lt h.dn hvi (by omega)).2 h1⟩
theorem Fst.swp {m : Nat} {P : Nat → List Nat} {Dm : Nat → Nat → Prop} {par : Nat → Nat} (h : Fst m P Dm m par) : Swp m P Dm 1 par :=
  ⟨h.dn, h.dom, fun u h0 hm z hz => h.low u h0 hm z (fun p hp _ => hz p hp), fun u h0 hm => by
    obtain ⟨s, hs, hsu, h1⟩ := h.old u h0 hm
    exact ⟨s, hs, hsu, fun hlt => by omega, .inl h1⟩⟩
end Go.Proofs.Ytnmeomdjhjgnfaa.X
end
section
set_option linter.unusedSimpArgs false
set_option linter.unusedVariables false
namespace Go.Proofs.Ytnmeomdjhjgnfaa.X
open Go.RowKit Go.Proofs.YtnmeomdjhjgnfaaW.PrintWords Go.Proofs.YtnmeomdjhjgnfaaW.PrintLast

/-- More rounds tell the same. -/
theorem up {α : Type} {f : Nat → Option α} (h : ∀ k, LeO (f k) (f (k + 1))) {k m : Nat} (hm : k ≤ m) {r : α} (hr : f k = some r) : f m = some r := by
  obtain ⟨d, rfl⟩ := Nat.exists_eq_add_of_le hm
  clear hm
  induction d with
  | zero => exact hr
  | succ d ih => exact h (k + d) r ih
theorem w64 {x : Int} (h0 : -9223372036854775808 ≤ x) (h1 : x ≤ 9223372036854775807) : wrap64 x = x := by unfold wrap64; omega

/-! ### an edge -/
def eB (g : List (List Int)) (a b : Int) : Bool := decide (0 ≤ a ∧ a < g.length ∧ 0 ≤ b ∧ b < g.length) && (rd_L1 g a).contains b
theorem edge_l0 (g : List (List Int)) (a b : Int) (ha : 0 ≤ a ∧ a < g.length) (hl : (rd_L1 g a).length ≤ 1000000) : ∀ (d : Nat) (i : Nat), i + d = (rd_L1 g a).length →
    jacquardref02_Edge.l0 (d + 1) g a b i = some (((rd_L1 g a).drop i).contains b) := by
  intro d
  induction d with
  | zero =>
    intro i hi
    rw [jacquardref02_Edge.l0, if_pos ha.1, if_pos ha.2, if_neg (by omega), List.drop_of_length_le (by omega)]
    rfl
  | succ d ih =>
    intro i hi
    have hlt : i < (rd_L1 g a).length := by omega
    have hrd : rd (rd_L1 g a) i = (rd_L1 g a)[i] := by simp [rd, hlt]
    rw [jacquardref02_Edge.l0, if_pos ha.1, if_pos ha.2, if_pos (by omega), if_pos (by omega), hrd, List.drop_eq_getElem_cons hlt]
    by_cases he : (rd_L1 g a)[i] = b
    · rw [if_pos he]; simp [he]
    · rw [if_neg he, w64 (by omega) (by omega), show ((i : Int) + 1) = ((i + 1 : Nat) : Int) from by omega, ih (i + 1) (by omega)]
      have : (b == (rd_L1 g a)[i]) = false := by simpa using fun h : b = _ => he h.symm
      rw [List.contains_cons, this, Bool.false_or]
theorem edge_some (g : List (List Int)) (hg : okG g = true) (a b : Int) {k : Nat} (hk : 1000003 ≤ k) : jacquardref02_Edge.f k g a b = some (eB g a b) := by
  obtain ⟨k, rfl⟩ := Nat.exists_eq_add_of_le hk
  have e : 1000003 + k = (1000002 + k) + 1 := by omega
  unfold jacquardref02_Edge.f
  rw [e]
  have no : ∀ {x : Bool}, x = true → (¬ (0 ≤ a ∧ a < (g.length : Int) ∧ 0 ≤ b ∧ b < (g.length : Int))) → jacquardref02_Edge.j0 (1000002 + k + 1) g a b x = some (eB g a b) := by
    intro x hx hn
    rw [jacquardref02_Edge.j0, if_pos hx]
    unfold eB
    rw [decide_eq_false hn, Bool.false_and]
  by_cases h0 : a < 0
  · rw [if_pos h0]; exact no rfl (by omega)
  · rw [if_neg h0]
    by_cases h1 : a ≥ (g.length : Int)
    · rw [if_pos h1]; exact no rfl (by omega)
    · rw [if_neg h1]
      by_cases h2 : b < 0
      · rw [if_pos h2]; exact no rfl (by omega)
      · rw [if_neg h2]
        by_cases h3 : b ≥ (g.length : Int)
        · exact no (decide_eq_true h3) (by omega)
        · rw [decide_eq_false h3, jacquardref02_Edge.j0, if_neg (by decide)]
          have hl : (rd_L1 g a).length ≤ 1000000 := by
            have : rd_L1 g a = g[a.toNat]'(by omega) := by
              unfold rd_L1
              rw [List.getD_eq_getElem?_getD, List.getElem?_eq_getElem (by omega)]; rfl
            rw [this]
            exact (okG_len hg).2 _ (List.getElem_mem _)
          have h := edge_l0 g a b (by omega) hl (rd_L1 g a).length 0 (by omega)
          have h2 := up (f := fun k => jacquardref02_Edge.l0 k g a b ((0 : Nat) : Int)) (fun k => (jacquardref02_Edge.mono_l k).2 _ _ _ _) (m := 1000002 + k) (by omega) h
          have h3 : jacquardref02_Edge.l0 (1000002 + k) g a b 0 = some (((rd_L1 g a).drop 0).contains b) := h2
          rw [h3]
          unfold eB
          rw [decide_eq_true (by omega), Bool.true_and, List.drop_zero]
theorem eB_iff {g : List (List Int)} {a b : Int} : eB g a b = true ↔ 0 ≤ a ∧ a < g.length ∧ 0 ≤ b ∧ b < g.length ∧ b ∈ rd_L1 g a := by
  unfold eB
  rw [Bool.and_eq_true, decide_eq_true_eq, List.contains_iff_mem]
  constructor
  · rintro ⟨⟨h1, h2, h3, h4⟩, h5⟩; exact ⟨h1, h2, h3, h4, h5⟩
  · rintro ⟨h1, h2, h3, h4, h5⟩; exact ⟨⟨h1, h2, h3, h4⟩, h5⟩
/-! ### the edges' list -/
theorem mem_edgesFrom (rows : List (List Int)) : ∀ (i : Nat) (e : Int × Int), e ∈ edgesFrom i rows ↔ ∃ j : Nat, j < rows.length ∧ e.1 = ((i + j : Nat) : Int) ∧ e.2 ∈ rd_L1 rows j := by
  induction rows with
  | nil => intro i e; simp [edgesFrom]
  | cons r rows ih =>
    intro i e
    simp only [edgesFrom, List.mem_append, List.mem_map, ih, List.length_cons]
    constructor
    · rintro (⟨b, hb, rfl⟩ | ⟨j, hj, h1, h2⟩)
      · exact ⟨0, by omega, by simp, by simpa [rd_L1] using hb⟩
      · refine ⟨j + 1, by omega, by omega, ?_⟩
        simpa [rd_L1] using h2
    · rintro ⟨j, hj, h1, h2⟩
      cases j with
      | zero => exact .inl ⟨e.2, by simpa [rd_L1] using h2, by rw [Prod.ext_iff]; exact ⟨by simpa using h1.symm, rfl⟩⟩
      | succ j => exact .inr ⟨j, by omega, by omega, by simpa [rd_L1] using h2⟩
theorem rd_clean (g : List (List Int)) (j : Nat) (h : j < g.length) : rd_L1 (cleanL g) j = keptL (rd_L1 g j) g.length := by
  simp [rd_L1, cleanL, h]
theorem mem_edgesL (g : List (List Int)) (a b : Int) : (a, b) ∈ edgesL g ↔ eB g a b = true := by
  unfold edgesL
  rw [mem_edgesFrom, eB_iff]
  constructor
  · rintro ⟨j, hj, h1, h2⟩
    rw [cleanL_length] at hj
    rw [rd_clean g j hj, mem_keptL] at h2
    simp only [Nat.zero_add] at h1
    subst h1
    exact ⟨by omega, by omega, h2.2.1, h2.2.2, h2.1⟩
  · rintro ⟨h1, h2, h3, h4, h5⟩
    obtain ⟨j, rfl⟩ := Int.eq_ofNat_of_zero_le h1
    refine ⟨j, by rw [cleanL_length]; omega, by simp, ?_⟩
    rw [rd_clean g j (by omega), mem_keptL]
    exact ⟨h5, h3, h4⟩

/-! ### Preds' rows -/
theorem preds_row (es : List (Int × Int)) : ∀ (rows : List (List Int)) (b : Nat), b < rows.length → (∀ e ∈ es, 0 ≤ e.2) →
    (es.foldl predStep rows).getD b [] = rows.getD b [] ++ (es.filter fun e => e.2 == (b : Int)).map (·.1) := by
  induction es with
  | nil => intro rows b _ _; simp
  | cons e es ih =>
    intro rows b hb he
    rw [List.foldl_cons, ih _ b (by simpa [predStep] using hb) (fun e' h => he e' (List.mem_cons_of_mem _ h))]
    have h0 := he e List.mem_cons_self
    by_cases h : e.2 = b
    · have h2 : e.2.toNat = b := by omega
      simp only [predStep, List.filter_cons, h, beq_self_eq_true, if_true, List.map_cons, Int.toNat_natCast]
      rw [List.getD_eq_getElem?_getD, List.getElem?_set_self (by omega)]
      simp
    · have h2 : e.2.toNat ≠ b := by omega
      have h3 : (e.2 == (b : Int)) = false := by simpa using h
      simp only [predStep, List.filter_cons, h3]
      rw [List.getD_eq_getElem?_getD, List.getElem?_set_ne (by omega), ← List.getD_eq_getElem?_getD]
      simp
theorem rd_preds (g : List (List Int)) (b : Nat) (hb : b < g.length) : rd_L1 (predsL g) b = ((edgesL g).filter fun e => e.2 == (b : Int)).map (·.1) := by
  have := preds_row (edgesL g) (List.replicate g.length []) b (by simpa using hb) (fun e he => ((eB_iff.1 ((mem_edgesL g e.1 e.2).1 he)).2.2.1))
  unfold rd_L1 predsL
  rw [Int.toNat_natCast, this]
  simp [List.getD_eq_getElem?_getD, List.getElem?_replicate, hb]
theorem predsL_len (g : List (List Int)) : (predsL g).length = g.length := by
  have key : ∀ (es : List (Int × Int)) (rows : List (List Int)), (es.foldl predStep rows).length = rows.length := by
    intro es
    induction es with
    | nil => intro rows; rfl
    | cons e es ih => intro rows; rw [List.foldl_cons, ih]; simp [predStep]
  unfold predsL; rw [key]; simp
theorem mem_preds (g : List (List Int)) (a b : Int) (hb : 0 ≤ b ∧ b < g.length) : a ∈ rd_L1 (predsL g) b ↔ eB g a b = true := by
  obtain ⟨j, rfl⟩ := Int.eq_ofNat_of_zero_le hb.1
  rw [rd_preds g j (by omega), List.mem_map, ← mem_edgesL]
  constructor
  · rintro ⟨e, he, rfl⟩
    obtain ⟨h1, h2⟩ := List.mem_filter.1 he
    have h3 : e.2 = (j : Int) := by simpa using h2
    rw [← h3]; exact h1
  · intro h
    exact ⟨(a, (j : Int)), List.mem_filter.2 ⟨h, by simp⟩, rfl⟩
theorem okG_preds (g : List (List Int)) (hn : g.length ≤ 1000) : okG (predsL g) = true := by
  unfold okG
  rw [predsL_len, Bool.and_eq_true, decide_eq_true_eq, List.all_eq_true]
  refine ⟨by omega, fun r hr => decide_eq_true ?_⟩
  have h1 := preds_len (edgesL g) (List.replicate g.length []) 0 (fun r hr => by rw [List.eq_of_mem_replicate hr]; simp) r (.inr hr)
  have h2 := edgesL_length g
  have h3 : g.length * g.length ≤ 1000 * 1000 := Nat.mul_le_mul hn hn
  omega
theorem Preds_some (g : List (List Int)) (hg : okG g = true) : graph_Preds.f g = some (predsL g) := by unfold graph_Preds.f; rw [if_pos hg]

/-! ### a graph of plain numbers -/
structure MadeG (g : List (List Int)) : Prop where
  pos : 1 ≤ g.length
  few : g.length ≤ 10
  rows : ∀ r ∈ g, r.length ≤ 3 ∧ ∀ b ∈ r, 0 ≤ b ∧ b < g.length
theorem MadeG.ok {g : List (List Int)} (h : MadeG g) : okG g = true := by
  unfold okG
  rw [Bool.and_eq_true, decide_eq_true_eq, List.all_eq_true]
  exact ⟨by have := h.few; omega, fun r hr => decide_eq_true (by have := (h.rows r hr).1; omega)⟩
theorem made_l1 (s : List Int) (n : Int) (hs : s.length ≤ 17592186044416) (h1 : 1 ≤ n) (h2 : n ≤ 10) (x4 : List (List Int)) (x5 : Int) (h5 : 0 ≤ x5 ∧ x5 < n) (hx4 : x4.length ≤ 10) (P : List (List Int) → Prop)
    (H : ∀ row : List Int, row.length ≤ 3 → (∀ b ∈ row, 0 ≤ b ∧ b < n) → ∃ k r, jacquardref02_Made.l0 k s n (x4 ++ [row]) (x5 + 1) = some r ∧ P r) :
    ∀ (e : Nat) (x6 : List Int) (x7 : Int), 0 ≤ x7 → x7 + e = 4 → x6.length + 1 ≤ x7 → (∀ b ∈ x6, 0 ≤ b ∧ b < n) → ∃ k r, jacquardref02_Made.l1 k s n x4 x5 x6 x7 = some r ∧ P r := by
  intro e
  induction e with
  | zero =>
    intro x6 x7 h7 he hl hb
    obtain ⟨k, r, hr, hP⟩ := H x6 (by omega) hb
    refine ⟨k + 1, r, ?_, hP⟩
    rw [jacquardref02_Made.l1, if_neg (by omega), if_pos (by omega), w64 (by omega) (by omega)]
    exact hr
  | succ e ih =>
    intro x6 x7 h7 he hl hb
    have e1 : wrap64 (wrap64 (3 * x5) + x7) = 3 * x5 + x7 := by rw [w64 (x := 3 * x5) (by omega) (by omega), w64 (by omega) (by omega)]
    have e2 : wrap64 (n + 3) = n + 3 := w64 (by omega) (by omega)
    have e3 : wrap64 (x7 + 1) = x7 + 1 := w64 (by omega) (by omega)
    by_cases ha : 3 * x5 + x7 < (s.length : Int)
    · have hm1 := Int.tmod_lt_of_pos (rd s (3 * x5 + x7)) (show 0 < n + 3 by omega)
      have hm2 := Int.lt_tmod_of_pos (rd s (3 * x5 + x7)) (show 0 < n + 3 by omega)
      have e4 : wrap64 (Int.tmod (rd s (3 * x5 + x7)) (n + 3) + n) = Int.tmod (rd s (3 * x5 + x7)) (n + 3) + n := w64 (by omega) (by omega)
      have e5 : wrap64 (Int.tmod (rd s (3 * x5 + x7)) (n + 3) + n + 3) = Int.tmod (rd s (3 * x5 + x7)) (n + 3) + n + 3 := w64 (by omega) (by omega)
      have hy0 : 0 ≤ Int.tmod (Int.tmod (rd s (3 * x5 + x7)) (n + 3) + n + 3) (n + 3) := Int.tmod_nonneg _ (by omega)
      by_cases hy : Int.tmod (Int.tmod (rd s (3 * x5 + x7)) (n + 3) + n + 3) (n + 3) < n
      · obtain ⟨k, r, hr, hP⟩ := ih (x6 ++ [Int.tmod (Int.tmod (rd s (3 * x5 + x7)) (n + 3) + n + 3) (n + 3)]) (x7 + 1) (by omega) (by omega) (by rw [List.length_append]; simp; omega) (fun b hb' => by
          rcases List.mem_append.1 hb' with h | h
          · exact hb b h
          · rw [List.mem_singleton.1 h]; exact ⟨hy0, hy⟩)
        refine ⟨k + 1, r, ?_, hP⟩
        rw [jacquardref02_Made.l1, if_pos (by omega), e1, e2, if_pos ha, if_pos (by omega), if_neg (by omega), e4, e5, if_pos hy, if_pos (by omega), e3]
        exact hr
      · obtain ⟨k, r, hr, hP⟩ := ih x6 (x7 + 1) (by omega) (by omega) (by omega) hb
        refine ⟨k + 1, r, ?_, hP⟩
        rw [jacquardref02_Made.l1, if_pos (by omega), e1, e2, if_pos ha, if_pos (by omega), if_neg (by omega), e4, e5, if_neg hy, e3]
        exact hr
    · obtain ⟨k, r, hr, hP⟩ := ih x6 (x7 + 1) (by omega) (by omega) (by omega) hb
      refine ⟨k + 1, r, ?_, hP⟩
      rw [jacquardref02_Made.l1, if_pos (by omega), e1, if_neg ha, e3]
      exact hr
theorem made_l0 (s : List Int) (n : Int) (hs : s.length ≤ 17592186044416) (h1 : 1 ≤ n) (h2 : n ≤ 10) : ∀ (d : Nat) (x4 : List (List Int)) (x5 : Int), x5 + d = n → (x4.length : Int) = x5 → (∀ r ∈ x4, r.length ≤ 3 ∧ ∀ b ∈ r, 0 ≤ b ∧ b < n) →
    ∃ k r, jacquardref02_Made.l0 k s n x4 x5 = some r ∧ (r.length : Int) = n ∧ ∀ row ∈ r, row.length ≤ 3 ∧ ∀ b ∈ row, 0 ≤ b ∧ b < n := by
  intro d
  induction d with
  | zero =>
    intro x4 x5 h h4 hr
    exact ⟨1, x4, by rw [jacquardref02_Made.l0, if_neg (by omega)], by omega, hr⟩
  | succ d ih =>
    intro x4 x5 h h4 hr
    obtain ⟨k, r, hk, hP⟩ := made_l1 s n hs h1 h2 x4 x5 (by omega) (by omega) (fun r => (r.length : Int) = n ∧ ∀ row ∈ r, row.length ≤ 3 ∧ ∀ b ∈ row, 0 ≤ b ∧ b < n) (fun row hl hb =>
      ih (x4 ++ [row]) (x5 + 1) (by omega) (by rw [List.length_append]; simp; omega) (fun r' hr' => by
        rcases List.mem_append.1 hr' with h | h
        · exact hr r' h
        · rw [List.mem_singleton.1 h]; exact ⟨hl, hb⟩)) 3 [] 1 (by omega) (by omega) (by simp) (fun b hb => by cases hb)
    exact ⟨k + 1, r, by rw [jacquardref02_Made.l0, if_pos (by omega)]; exact hk, hP⟩
theorem made_some (s : List Int) (hs : s.length * 8 ≤ 140737488351232) : ∃ k g, jacquardref02_Made.f k s = some g ∧ MadeG g := by
  have key : ∀ n : Int, 1 ≤ n → n ≤ 10 → ∃ k g, jacquardref02_Made.j0 k s n = some g ∧ MadeG g := by
    intro n h1 h2
    obtain ⟨k, r, hk, hl, hr⟩ := made_l0 s n (by omega) h1 h2 n.toNat [] 0 (by omega) rfl (fun r hr => by cases hr)
    exact ⟨k + 1, r, by rw [jacquardref02_Made.j0]; exact hk, ⟨by omega, by omega, fun row h => by rw [hl]; exact hr row h⟩⟩
  by_cases h : (s.length : Int) > 0
  · have hm1 := Int.tmod_lt_of_pos (rd s 0) (show (0 : Int) < 10 by omega)
    have hm2 := Int.lt_tmod_of_pos (rd s 0) (show (0 : Int) < 10 by omega)
    have e4 : wrap64 (Int.tmod (rd s 0) 10 + 10) = Int.tmod (rd s 0) 10 + 10 := w64 (by omega) (by omega)
    have hy0 : 0 ≤ Int.tmod (Int.tmod (rd s 0) 10 + 10) 10 := Int.tmod_nonneg _ (by omega)
    have hy1 := Int.tmod_lt_of_pos (Int.tmod (rd s 0) 10 + 10) (show (0 : Int) < 10 by omega)
    obtain ⟨k, g, hk, hg⟩ := key (wrap64 (1 + Int.tmod (Int.tmod (rd s 0) 10 + 10) 10)) (by rw [w64 (by omega) (by omega)]; omega) (by rw [w64 (by omega) (by omega)]; omega)
    refine ⟨k, g, ?_, hg⟩
    unfold jacquardref02_Made.f
    rw [if_pos h, if_pos (by omega), e4]
    exact hk
  · obtain ⟨k, g, hk, hg⟩ := key 1 (by omega) (by omega)
    refine ⟨k, g, ?_, hg⟩
    unfold jacquardref02_Made.f
    rw [if_neg h]
    exact hk
/-- The numbers of the blocks. -/
structure Nm (o : List Int) (n : Nat) (num : List Int) : Prop where
  len : num.length = n
  on : ∀ i, i < o.length → rd num (at_ o i) = i
  off : ∀ x, 0 ≤ x → x < (n : Int) → x ∉ o → rd num x = -1
/-- What the list of parents holds when the places below i have one. -/
structure Ot (o : List Int) (n i : Nat) (par : Nat → Nat) (out : List Int) : Prop where
  len : out.length = n
  on : ∀ j, 0 < j → j < i → rd out (at_ o j) = at_ o (par j)
  root : rd out 0 = -1
  not : ∀ j, i ≤ j → j < o.length → rd out (at_ o j) = -1
  off : ∀ x, 0 ≤ x → x < (n : Int) → x ∉ o → rd out x = -1

theorem chk_common {o : List Int} {n i : Nat} {par : Nat → Nat} {out num : List Int} (hr : ∀ x ∈ o, 0 ≤ x ∧ x < (n : Int)) (hi : i ≤ o.length) (hN : Nm o n num) (hO : Ot o n i par out) (hd : Dn par) : ∀ (K a b : Nat), a < i → b < i → a + b < K →
    graph_common.f K out num (at_ o a) (at_ o b) = some (at_ o (com par K a b))
  | 0, a, b, _, _, h => by omega
  | K + 1, a, b, ha, hb, h => by
    have h1 := hr _ (at_mem (show a < o.length by omega))
    have h2 := hr _ (at_mem (show b < o.length by omega))
    have hl := hN.len
    have hl2 := hO.len
    rw [graph_common.f, if_pos (by omega), hN.on a (by omega), hN.on b (by omega), com]
    by_cases hba : b < a
    · have h3 := hd a (by omega)
      rw [if_pos (by omega), if_pos (by omega), if_pos hba, hO.on a (by omega) ha]
      exact chk_common hr hi hN hO hd K (par a) b (by omega) hb (by omega)
    · rw [if_neg (by omega), if_neg hba]
      by_cases hab : a < b
      · have h3 := hd b (by omega)
        rw [if_pos (by omega), if_pos (by omega), if_pos hab, hO.on b (by omega) hb]
        exact chk_common hr hi hN hO hd K a (par b) ha (by omega) (by omega)
      · rw [if_neg (by omega), if_neg hab]

/-- Has a block a parent (or is it the first)? -/
def hasP (num out : List Int) (x : Int) : Bool := decide (0 ≤ rd num x) && (decide (x = 0) || decide (0 ≤ rd out x))
def encB (o : List Int) : Option Nat → Int
  | none => -1
  | some p => at_ o p
def stepB (num out : List Int) (par : Nat → Nat) (m : Nat) (best : Option Nat) (x : Int) : Option Nat :=
  if hasP num out x = true then some (match best with | none => (rd num x).toNat | some p => com par (2 * m) p (rd num x).toNat) else best
theorem hasP_iff {E : Int → Int → Prop} {o : List Int} {n i : Nat} {par : Nat → Nat} {out num : List Int} (H : Ordd E n o) (hi0 : 0 < i) (hi : i ≤ o.length) (hN : Nm o n num) (hO : Ot o n i par out) (hd : Dn par) (x : Int) (hx : 0 ≤ x ∧ x < (n : Int)) :
    hasP num out x = true ↔ ∃ j, j < i ∧ x = at_ o j := by
  unfold hasP
  rw [Bool.and_eq_true, Bool.or_eq_true, decide_eq_true_eq, decide_eq_true_eq, decide_eq_true_eq]
  constructor
  · rintro ⟨h1, h2⟩
    by_cases hm : x ∈ o
    · obtain ⟨j, hj, rfl⟩ := mem_at hm
      refine ⟨j, ?_, rfl⟩
      rcases Nat.lt_or_ge j i with h | h
      · exact h
      · exfalso
        rcases h2 with h2 | h2
        · have := at_inj H.nodup hj H.pos (h2.trans H.head.symm)
          omega
        · rw [hO.not j h hj] at h2; omega
    · rw [hN.off x hx.1 hx.2 hm] at h1; omega
  · rintro ⟨j, hj, rfl⟩
    refine ⟨by rw [hN.on j (by omega)]; omega, ?_⟩
    rcases Nat.eq_zero_or_pos j with rfl | h0
    · exact .inl H.head
    · have h3 := hd j h0
      exact .inr (by rw [hO.on j h0 hj]; exact (H.rng _ (at_mem (by omega))).1)
def contL (x3 num out : List Int) (preds : List (List Int)) (chg : Bool) (x12 : Int) (x55 : List Int) (x56 x57 : Int) (k : Nat) (x13 : Int) : Option (List Int) :=
  if 0 ≤ x12 then (if x12 < (out.length : Int) then (if rd out x12 = x13 then (graph_Idom.l3 k x3 num out preds chg x55 x56 (wrap64 (x57 + 1))) else (graph_Idom.l3 k x3 num (out.set (x12 : Int).toNat x13) preds true x55 x56 (wrap64 (x57 + 1)))) else (none)) else (none)
theorem up4 (x3 num out : List Int) (preds : List (List Int)) (chg : Bool) (x12 x13 : Int) (x55 : List Int) (x56 x57 : Int) (row : List Int) (x65 x66 : Int) (r : List Int) {k m : Nat} (hm : k ≤ m) (h : graph_Idom.l4 k x3 num out preds chg x12 x13 x55 x56 x57 row x65 x66 = some r) :
    graph_Idom.l4 m x3 num out preds chg x12 x13 x55 x56 x57 row x65 x66 = some r :=
  up (f := fun k => graph_Idom.l4 k x3 num out preds chg x12 x13 x55 x56 x57 row x65 x66) (fun k => (graph_Idom.mono_l k).2.2.2.2.1 _ _ _ _ _ _ _ _ _ _ _ _ _) hm h
theorem chk_l4 {E : Int → Int → Prop} {o : List Int} {n i : Nat} {par : Nat → Nat} {out num : List Int} (H : Ordd E n o) (hi0 : 0 < i) (hi : i ≤ o.length) (hN : Nm o n num) (hO : Ot o n i par out) (hd : Dn par) (x3 : List Int) (preds : List (List Int)) (chg : Bool) (x12 : Int) (x55 : List Int) (x56 x57 : Int) (row : List Int)
    (hrow : ∀ x ∈ row, 0 ≤ x ∧ x < (n : Int)) (hl : row.length ≤ 1000000) (r : List Int) : ∀ (d i66 : Nat) (best : Option Nat), i66 + d = row.length → (∀ p, best = some p → p < i) →
    (∃ k, contL x3 num out preds chg x12 x55 x56 x57 k (encB o ((row.drop i66).foldl (stepB num out par o.length) best)) = some r) →
    ∃ k, graph_Idom.l4 k x3 num out preds chg x12 (encB o best) x55 x56 x57 row row.length i66 = some r := by
  intro d
  induction d with
  | zero =>
    intro i66 best h66 hb hc
    obtain ⟨k, hk⟩ := hc
    rw [List.drop_of_length_le (by omega)] at hk
    refine ⟨k + 1, ?_⟩
    rw [graph_Idom.l4, if_neg (by omega)]
    exact hk
  | succ d ih =>
    intro i66 best h66 hb hc
    have hlt : i66 < row.length := by omega
    have hx : rd row i66 = row[i66] := by simp [rd, hlt]
    have hxr := hrow (rd row i66) (by rw [hx]; exact List.getElem_mem _)
    rw [List.drop_eq_getElem_cons hlt, List.foldl_cons, ← hx] at hc
    have hw : wrap64 ((i66 : Int) + 1) = ((i66 + 1 : Nat) : Int) := by unfold wrap64; omega
    have hnl := hN.len
    have hol := hO.len
    have hiff := hasP_iff H hi0 hi hN hO hd (rd row i66) hxr
    cases hp : hasP num out (rd row i66) with
    | false =>
      rw [show stepB num out par o.length best (rd row i66) = best from by unfold stepB; rw [hp]; rfl] at hc
      obtain ⟨k, hk⟩ := ih (i66 + 1) best (by omega) hb hc
      refine ⟨k + 1 + 1, ?_⟩
      rw [graph_Idom.l4, if_pos (by omega), if_pos (by omega), if_pos (by omega), if_pos hxr.1, if_pos (by omega)]
      have hj : graph_Idom.j5 (k + 1) x3 num out preds chg x12 (encB o best) (rd row i66) x55 x56 x57 row row.length i66 true = some r := by
        rw [graph_Idom.j5, if_pos rfl, hw]; exact hk
      unfold hasP at hp
      by_cases h1 : rd num (rd row i66) < 0
      · rw [if_pos h1]; exact hj
      · rw [if_neg h1]
        rw [decide_eq_true (by omega), Bool.true_and, Bool.or_eq_false_iff] at hp
        have h2 := of_decide_eq_false hp.1
        have h3 := of_decide_eq_false hp.2
        rw [if_neg h2, if_pos (by omega), decide_eq_true (by omega)]
        exact hj
    | true =>
      obtain ⟨j, hj, ej⟩ := hiff.1 hp
      have hnum : rd num (rd row i66) = j := by rw [ej]; exact hN.on j (by omega)
      have hin : ∃ k, graph_Idom.j5 k x3 num out preds chg x12 (encB o best) (rd row i66) x55 x56 x57 row row.length i66 false = some r := by
        cases best with
        | none =>
          rw [show stepB num out par o.length none (rd row i66) = some j from by unfold stepB; rw [if_pos hp, hnum]; rfl] at hc
          obtain ⟨k, hk⟩ := ih (i66 + 1) (some j) (by omega) (fun p e => by injection e with e; omega) hc
          refine ⟨k + 1, ?_⟩
          rw [graph_Idom.j5, if_neg (by decide), if_pos (show encB o none < 0 from by show (-1 : Int) < 0; omega), hw, ej]
          exact hk
        | some p =>
          rw [show stepB num out par o.length (some p) (rd row i66) = some (com par (2 * o.length) p j) from by unfold stepB; rw [if_pos hp, hnum]; rfl] at hc
          have hpi := hb p rfl
          have hcl := com_le hd (2 * o.length) p j (by omega)
          obtain ⟨k, hk⟩ := ih (i66 + 1) (some (com par (2 * o.length) p j)) (by omega) (fun q e => by injection e with e; omega) hc
          have hpr := H.rng _ (at_mem (show p < o.length by omega))
          refine ⟨(k + 2 * o.length) + 1, ?_⟩
          have hcm := up (f := fun k => graph_common.f k out num (at_ o p) (at_ o j)) (fun k => graph_common.mono _ _ _ _ _) (m := k + 2 * o.length) (by omega) (chk_common (fun x hx => H.rng x hx) hi hN hO hd (2 * o.length) p j hpi hj (by omega))
          rw [graph_Idom.j5, if_neg (by decide), if_neg (show ¬ (encB o (some p) < 0) from by show ¬ (at_ o p < 0); omega), ej]
          show (graph_common.f (k + 2 * o.length) out num (at_ o p) (at_ o j)).bind _ = _
          rw [hcm, Option.bind_some, hw]
          exact up4 _ _ _ _ _ _ _ _ _ _ _ _ _ _ (by omega) hk
      obtain ⟨k, hk⟩ := hin
      refine ⟨k + 1, ?_⟩
      rw [graph_Idom.l4, if_pos (by omega), if_pos (by omega), if_pos (by omega), if_pos hxr.1, if_pos (by omega), if_neg (by omega)]
      by_cases h0 : rd row i66 = 0
      · rw [if_pos h0]; exact hk
      · rw [if_neg h0, if_pos (by omega)]
        unfold hasP at hp
        rw [decide_eq_true (by omega), Bool.true_and, decide_eq_false h0, Bool.false_or, decide_eq_true_eq] at hp
        rw [decide_eq_false (by omega)]
        exact hk
end Go.Proofs.Ytnmeomdjhjgnfaa.X
namespace Go.Proofs.Ytnmeomdjhjgnfaa.X
open Go.RowKit Go.Proofs.YtnmeomdjhjgnfaaW.PrintWords Go.Proofs.YtnmeomdjhjgnfaaW.PrintLast
/-! ### the fold is the nearest one -/
def plN (num : List Int) (x : Int) : Nat := (rd num x).toNat
theorem fold_some (num out : List Int) (par : Nat → Nat) (m : Nat) : ∀ (l : List Int) (p : Nat), l.foldl (stepB num out par m) (some p) = some (nca par (2 * m) p ((l.filter (hasP num out)).map (plN num)))
  | [], p => rfl
  | x :: l, p => by
    rw [List.foldl_cons]
    by_cases h : hasP num out x = true
    · rw [show stepB num out par m (some p) x = some (com par (2 * m) p (plN num x)) from by unfold stepB; rw [if_pos h]; rfl, fold_some num out par m l, List.filter_cons, if_pos h]
      rfl
    · rw [show stepB num out par m (some p) x = some p from by unfold stepB; rw [if_neg h], fold_some num out par m l, List.filter_cons, if_neg h]
theorem fold_none (num out : List Int) (par : Nat → Nat) (m : Nat) : ∀ (l : List Int) (p : Nat) (ps : List Nat), (l.filter (hasP num out)).map (plN num) = p :: ps → l.foldl (stepB num out par m) none = some (nca par (2 * m) p ps)
  | [], p, ps, h => by simp at h
  | x :: l, p, ps, h => by
    rw [List.foldl_cons]
    by_cases hx : hasP num out x = true
    · rw [List.filter_cons, if_pos hx, List.map_cons] at h
      injection h with h1 h2
      rw [show stepB num out par m none x = some (plN num x) from by unfold stepB; rw [if_pos hx]; rfl, fold_some, h1, h2]
    · rw [List.filter_cons, if_neg hx] at h
      rw [show stepB num out par m none x = none from by unfold stepB; rw [if_neg hx]]
      exact fold_none num out par m l p ps h
/-- A parent is written. -/
theorem Ot.put {E : Int → Int → Prop} {o : List Int} {n i k v : Nat} {par : Nat → Nat} {out : List Int} (H : Ordd E n o) (h : Ot o n i par out) (hk0 : 0 < k) (hk : k < o.length) (hki : k ≤ i) (him : i ≤ o.length) (hv : v < o.length) :
    Ot o n (max i (k + 1)) (upd par k v) (out.set (at_ o k).toNat (at_ o v)) := by
  have hr := H.rng _ (at_mem hk)
  have hlen := h.len
  have hne : ∀ x, 0 ≤ x → x ≠ at_ o k → rd (out.set (at_ o k).toNat (at_ o v)) x = rd out x := fun x h0 hn => by
    unfold rd
    rw [List.getD_eq_getElem?_getD, List.getD_eq_getElem?_getD, List.getElem?_set_ne (by omega)]
  have heq : rd (out.set (at_ o k).toNat (at_ o v)) (at_ o k) = at_ o v := by
    unfold rd
    rw [List.getD_eq_getElem?_getD, List.getElem?_set_self (by omega)]
    rfl
  refine ⟨by simp [h.len], fun j h0 hj => ?_, ?_, fun j hj hm => ?_, fun x h0 h1 hx => ?_⟩
  · by_cases e : j = k
    · subst e; rw [heq]; unfold upd; rw [if_pos rfl]
    · rw [hne _ (H.rng _ (at_mem (by omega))).1 (fun hh => e (at_inj H.nodup (by omega) hk hh)), h.on j h0 (by omega)]
      unfold upd; rw [if_neg e]
  · rw [hne 0 (Int.le_refl 0) (fun hh => by have := at_inj H.nodup H.pos hk (H.head.trans hh); omega)]; exact h.root
  · rw [hne _ (H.rng _ (at_mem hm)).1 (fun hh => by have := at_inj H.nodup hm hk hh; omega)]; exact h.not j (by omega) hm
  · rw [hne x h0 (fun hh => hx (hh ▸ at_mem hk))]; exact h.off x h0 h1 hx
end Go.Proofs.Ytnmeomdjhjgnfaa.X
namespace Go.Proofs.Ytnmeomdjhjgnfaa.X
open Go.RowKit Go.Proofs.YtnmeomdjhjgnfaaW.PrintWords Go.Proofs.YtnmeomdjhjgnfaaW.PrintLast
/-! ### sweeps over the lists -/
/-- The places from which a place is come to. -/
def PP (o num : List Int) (preds : List (List Int)) (i : Nat) : List Nat := ((rd_L1 preds (at_ o i)).filter (fun x => decide (x ∈ o))).map (plN num)
theorem filt_map (p : Int → Bool) (q : Int → Bool) (f : Int → Nat) (t : Nat → Bool) : ∀ (l : List Int), (∀ x ∈ l, p x = (q x && t (f x))) → (l.filter p).map f = ((l.filter q).map f).filter t
  | [], _ => rfl
  | x :: l, h => by
    have ih := filt_map p q f t l (fun y hy => h y (List.mem_cons_of_mem _ hy))
    have hx := h x List.mem_cons_self
    rw [List.filter_cons, List.filter_cons]
    cases hq : q x with
    | false =>
      rw [hq, Bool.false_and] at hx
      rw [hx]
      simpa using ih
    | true =>
      rw [hq, Bool.true_and] at hx
      rw [hx]
      cases ht : t (f x) with
      | false => simp [ht, ih]
      | true => simp [ht, ih]
theorem rows_set {E : Int → Int → Prop} {o : List Int} {n i : Nat} {par : Nat → Nat} {out num : List Int} (H : Ordd E n o) (hi0 : 0 < i) (hi : i ≤ o.length) (hN : Nm o n num) (hO : Ot o n i par out) (hd : Dn par) (preds : List (List Int)) (b : Nat) (hrow : ∀ x ∈ rd_L1 preds (at_ o b), 0 ≤ x ∧ x < (n : Int)) :
    ((rd_L1 preds (at_ o b)).filter (hasP num out)).map (plN num) = (PP o num preds b).filter (fun q => decide (q < i)) := by
  unfold PP
  refine filt_map _ _ _ _ _ (fun x hx => ?_)
  rw [Bool.eq_iff_iff, hasP_iff H hi0 hi hN hO hd x (hrow x hx), Bool.and_eq_true, decide_eq_true_eq, decide_eq_true_eq]
  constructor
  · rintro ⟨j, hj, rfl⟩
    refine ⟨at_mem (by omega), ?_⟩
    unfold plN
    rw [hN.on j (by omega)]
    exact hj
  · rintro ⟨hm, hp⟩
    obtain ⟨j, hj, rfl⟩ := mem_at hm
    unfold plN at hp
    rw [hN.on j hj] at hp
    exact ⟨j, hp, rfl⟩
/-- One block's turn: what is written is the nearest one's block. -/
theorem chk_turn {E : Int → Int → Prop} {o : List Int} {n i b : Nat} {par : Nat → Nat} {out num : List Int} (H : Ordd E n o) (hi0 : 0 < i) (hi : i ≤ o.length) (hN : Nm o n num) (hO : Ot o n i par out) (hd : Dn par) (preds : List (List Int)) (hpl : preds.length = n) (hb0 : 0 < b) (hb : b < o.length) (hbi : b ≤ i)
    (hrow : ∀ x ∈ rd_L1 preds (at_ o b), 0 ≤ x ∧ x < (n : Int)) (hl : (rd_L1 preds (at_ o b)).length ≤ 1000000) (hol : o.length ≤ 1000000) (chg : Bool) (r : List Int) (p : Nat) (ps : List Nat) (hP : (PP o num preds b).filter (fun q => decide (q < i)) = p :: ps) (hv : nca par (2 * o.length) p ps < o.length)
    (hc : ∃ k, graph_Idom.l3 k o num (out.set (at_ o b).toNat (at_ o (nca par (2 * o.length) p ps))) preds (chg || decide (rd out (at_ o b) ≠ at_ o (nca par (2 * o.length) p ps))) (o.drop 1) ((o.drop 1).length : Int) ((b : Nat) : Int) = some r) :
    ∃ k, graph_Idom.l3 k o num out preds chg (o.drop 1) ((o.drop 1).length : Int) ((b : Int) - 1) = some r := by
  have hbr := H.rng _ (at_mem hb)
  have hlen := hO.len
  have hrd : rd (o.drop 1) ((b : Int) - 1) = at_ o b := by
    unfold rd at_
    rw [show ((b : Int) - 1).toNat = b - 1 from by omega, List.getD_eq_getElem?_getD, List.getElem?_drop, List.getD_eq_getElem?_getD, show 1 + (b - 1) = b from by omega]
  have hdl : (o.drop 1).length = o.length - 1 := List.length_drop
  have hw : wrap64 ((b : Int) - 1 + 1) = (b : Int) := by unfold wrap64; omega
  have hfold := fold_none num out par o.length (rd_L1 preds (at_ o b)) p ps (by rw [rows_set H hi0 hi hN hO hd preds b hrow]; exact hP)
  obtain ⟨k, hk⟩ := hc
  obtain ⟨k2, hk2⟩ := chk_l4 H hi0 hi hN hO hd o preds chg (at_ o b) (o.drop 1) ((o.drop 1).length : Int) ((b : Int) - 1) (rd_L1 preds (at_ o b)) hrow hl r (rd_L1 preds (at_ o b)).length 0 none (by omega) (fun p e => by cases e) ⟨k, by
    rw [List.drop_zero, hfold]
    unfold contL
    rw [if_pos hbr.1, if_pos (by omega), hw]
    show (if rd out (at_ o b) = at_ o (nca par (2 * o.length) p ps) then _ else _) = _
    by_cases e : rd out (at_ o b) = at_ o (nca par (2 * o.length) p ps)
    · rw [if_pos e]
      rw [decide_eq_false (fun h => h e), Bool.or_false] at hk
      have hset : out.set (at_ o b).toNat (at_ o (nca par (2 * o.length) p ps)) = out := by
        rw [← e]
        unfold rd
        rw [List.getD_eq_getElem?_getD, List.getElem?_eq_getElem (by omega)]
        exact List.set_getElem_self _
      rw [hset] at hk
      exact hk
    · rw [if_neg e]
      rw [decide_eq_true e, Bool.or_true] at hk
      exact hk⟩
  refine ⟨k2 + 1, ?_⟩
  rw [graph_Idom.l3, if_pos (by omega), if_pos (by omega), if_pos (by omega), hrd, if_pos hbr.1, if_pos (by omega)]
  exact hk2
end Go.Proofs.Ytnmeomdjhjgnfaa.X
namespace Go.Proofs.Ytnmeomdjhjgnfaa.X
open Go.RowKit Go.Proofs.YtnmeomdjhjgnfaaW.PrintWords Go.Proofs.YtnmeomdjhjgnfaaW.PrintLast
/-- The sum of the parents. -/
def sumP (par : Nat → Nat) : Nat → Nat
  | 0 => 0
  | m + 1 => sumP par m + par m
theorem sumP_upd (par : Nat → Nat) (b v : Nat) (hv : v ≤ par b) : ∀ m, sumP (upd par b v) m + (if b < m then par b - v else 0) = sumP par m
  | 0 => by simp [sumP]
  | m + 1 => by
    have ih := sumP_upd par b v hv m
    simp only [sumP]
    by_cases h : b = m
    · subst h
      have e : upd par b v b = v := by unfold upd; rw [if_pos rfl]
      rw [if_neg (Nat.lt_irrefl b)] at ih
      rw [if_pos (Nat.lt_succ_self b), e]
      omega
    · have e : upd par b v m = par m := by unfold upd; rw [if_neg (fun x => h x.symm)]
      rw [e]
      by_cases h2 : b < m
      · rw [if_pos h2] at ih; rw [if_pos (by omega)]; omega
      · rw [if_neg h2] at ih; rw [if_neg (by omega)]; omega
def FixAt (P : Nat → List Nat) (m : Nat) (par : Nat → Nat) (u : Nat) : Prop := ∃ p ps, P u = p :: ps ∧ nca par (2 * m) p ps = par u
theorem upd_self (par : Nat → Nat) (b : Nat) : upd par b (par b) = par := by
  funext u; unfold upd; split
  · rename_i h; rw [h]
  · rfl
theorem nonempty_cons {l : List Nat} {s : Nat} (h : s ∈ l) : ∃ p ps, l = p :: ps := by
  cases l with
  | nil => cases h
  | cons p ps => exact ⟨p, ps, rfl⟩
theorem filter_all (l : List Nat) (m : Nat) (h : ∀ q ∈ l, q < m) : l.filter (fun q => decide (q < m)) = l :=
  List.filter_eq_self.2 (fun q hq => decide_eq_true (h q hq))
section
variable {E : Int → Int → Prop} {o : List Int} {n : Nat} {num : List Int} {preds : List (List Int)} {Dm : Nat → Nat → Prop}
/-- A later sweep. -/
theorem chk_sweep (H : Ordd E n o) (hN : Nm o n num) (hpl : preds.length = n) (G : Gr o.length (PP o num preds) Dm) (hrow : ∀ b, b < o.length → ∀ x ∈ rd_L1 preds (at_ o b), 0 ≤ x ∧ x < (n : Int)) (hl : ∀ b, b < o.length → (rd_L1 preds (at_ o b)).length ≤ 1000000) (hol : o.length ≤ 1000000) (Q : List Int → Prop) (s0 : Nat) :
    ∀ (d b : Nat) (par : Nat → Nat) (out : List Int) (chg : Bool), b + d = o.length → 0 < b → Swp o.length (PP o num preds) Dm b par → Ot o n o.length par out → sumP par o.length ≤ s0 → (chg = true → sumP par o.length < s0) → (chg = false → ∀ u, 0 < u → u < b → FixAt (PP o num preds) o.length par u) →
    (∀ par' out' chg', Swp o.length (PP o num preds) Dm o.length par' → Ot o n o.length par' out' → (chg' = true → sumP par' o.length < s0) → (chg' = false → ∀ u, 0 < u → u < o.length → FixAt (PP o num preds) o.length par' u) → ∃ k r, graph_Idom.l2 k o num out' preds chg' = some r ∧ Q r) →
    ∃ k r, graph_Idom.l3 k o num out preds chg (o.drop 1) ((o.drop 1).length : Int) ((b : Int) - 1) = some r ∧ Q r := by
  intro d
  induction d with
  | zero =>
    intro b par out chg hb h0 hS hO hs1 hs2 hf hend
    obtain rfl : b = o.length := by omega
    obtain ⟨k, r, hk, hq⟩ := hend par out chg hS hO hs2 hf
    have hdl : (o.drop 1).length = o.length - 1 := List.length_drop
    refine ⟨k + 1, r, ?_, hq⟩
    rw [graph_Idom.l3, if_neg (by omega)]
    exact hk
  | succ d ih =>
    intro b par out chg hb h0 hS hO hs1 hs2 hf hend
    have hbm : b < o.length := by omega
    obtain ⟨s, hs, _⟩ := G.fwd b h0 hbm
    obtain ⟨p, ps, hP⟩ := nonempty_cons hs
    obtain ⟨hle, hS'⟩ := hS.step G h0 hbm hP
    have hdn := hS.dn b h0
    have hput := Ot.put H hO h0 hbm (by omega) (Nat.le_refl _) (show nca par (2 * o.length) p ps < o.length by omega)
    rw [show max o.length (b + 1) = o.length from by omega] at hput
    have hsum := sumP_upd par b (nca par (2 * o.length) p ps) hle o.length
    rw [if_pos hbm] at hsum
    have hout : rd out (at_ o b) = at_ o (par b) := hO.on b h0 hbm
    have hiff : rd out (at_ o b) ≠ at_ o (nca par (2 * o.length) p ps) ↔ nca par (2 * o.length) p ps ≠ par b := by
      rw [hout]
      constructor
      · exact fun h e => h (by rw [e])
      · exact fun h e => h (at_inj H.nodup (by omega) (by omega) e).symm
    obtain ⟨kr, r, hkr, hq⟩ := ih (b + 1) (upd par b (nca par (2 * o.length) p ps)) (out.set (at_ o b).toNat (at_ o (nca par (2 * o.length) p ps))) (chg || decide (rd out (at_ o b) ≠ at_ o (nca par (2 * o.length) p ps))) (by omega) (by omega) hS' hput (by omega) (fun hc => by
        rcases Bool.or_eq_true_iff.1 hc with h | h
        · have := hs2 h; omega
        · have := hiff.1 (of_decide_eq_true h); omega) (fun hc u hu0 hu => by
        obtain ⟨h1, h2⟩ := Bool.or_eq_false_iff.1 hc
        have h3 : nca par (2 * o.length) p ps = par b := Classical.byContradiction fun hn => of_decide_eq_false h2 (hiff.2 hn)
        rw [h3, upd_self]
        rcases Nat.lt_or_ge u b with h4 | h4
        · exact hf h1 u hu0 h4
        · obtain rfl : u = b := by omega
          exact ⟨p, ps, hP, h3⟩) hend
    have key := chk_turn H (i := o.length) H.pos (Nat.le_refl _) hN hO hS.dn preds hpl h0 hbm (by omega) (hrow b hbm) (hl b hbm) hol chg r p ps (by rw [filter_all _ _ (fun q hq => G.inb b hbm q hq)]; exact hP) (by omega) ⟨kr, by rw [show (((b + 1 : Nat) : Int) - 1) = (b : Int) from by omega] at hkr; exact hkr⟩
    exact ⟨key.choose, r, key.choose_spec, hq⟩
/-- The first sweep. -/
theorem chk_first (H : Ordd E n o) (hN : Nm o n num) (hpl : preds.length = n) (G : Gr o.length (PP o num preds) Dm) (hrow : ∀ b, b < o.length → ∀ x ∈ rd_L1 preds (at_ o b), 0 ≤ x ∧ x < (n : Int)) (hl : ∀ b, b < o.length → (rd_L1 preds (at_ o b)).length ≤ 1000000) (hol : o.length ≤ 1000000) (Q : List Int → Prop) :
    ∀ (d b : Nat) (par : Nat → Nat) (out : List Int) (chg : Bool), b + d = o.length → 0 < b → (1 < b → chg = true) → Fst o.length (PP o num preds) Dm b par → Ot o n b par out →
    (∀ par' out' chg', Fst o.length (PP o num preds) Dm o.length par' → Ot o n o.length par' out' → (1 < o.length → chg' = true) → ∃ k r, graph_Idom.l2 k o num out' preds chg' = some r ∧ Q r) →
    ∃ k r, graph_Idom.l3 k o num out preds chg (o.drop 1) ((o.drop 1).length : Int) ((b : Int) - 1) = some r ∧ Q r := by
  intro d
  induction d with
  | zero =>
    intro b par out chg hb h0 hc hS hO hend
    obtain rfl : b = o.length := by omega
    obtain ⟨k, r, hk, hq⟩ := hend par out chg hS hO hc
    have hdl : (o.drop 1).length = o.length - 1 := List.length_drop
    refine ⟨k + 1, r, ?_, hq⟩
    rw [graph_Idom.l3, if_neg (by omega)]
    exact hk
  | succ d ih =>
    intro b par out chg hb h0 hc hS hO hend
    have hbm : b < o.length := by omega
    obtain ⟨s, hs, hsb⟩ := G.fwd b h0 hbm
    obtain ⟨p, ps, hP⟩ := nonempty_cons (show s ∈ (PP o num preds b).filter (fun q => decide (q < b)) from List.mem_filter.2 ⟨hs, decide_eq_true hsb⟩)
    have hS' := hS.step G h0 hbm hP
    have hpb : ∀ q ∈ p :: ps, q < b := fun q hq => by rw [← hP] at hq; exact of_decide_eq_true (List.mem_filter.1 hq).2
    have hp := hpb p List.mem_cons_self
    have hvp : nca par (2 * o.length) p ps ≤ p := (((nca_an hS.dn o.length ps p (by omega) (fun q hq => by have := hpb q (List.mem_cons_of_mem _ hq); omega) _).1 .refl).1).le hS.dn
    have hput := Ot.put H hO h0 hbm (Nat.le_refl _) (by omega) (show nca par (2 * o.length) p ps < o.length by omega)
    rw [show max b (b + 1) = b + 1 from by omega] at hput
    have hout : rd out (at_ o b) = -1 := hO.not b (Nat.le_refl _) hbm
    have hv0 := (H.rng _ (at_mem (show nca par (2 * o.length) p ps < o.length by omega))).1
    obtain ⟨kr, r, hkr, hq⟩ := ih (b + 1) (upd par b (nca par (2 * o.length) p ps)) (out.set (at_ o b).toNat (at_ o (nca par (2 * o.length) p ps))) (chg || decide (rd out (at_ o b) ≠ at_ o (nca par (2 * o.length) p ps))) (by omega) (by omega) (fun _ => by rw [decide_eq_true (by omega), Bool.or_true]) hS' hput hend
    have key := chk_turn H h0 (by omega) hN hO hS.dn preds hpl h0 hbm (Nat.le_refl _) (hrow b hbm) (hl b hbm) hol chg r p ps hP (by omega) ⟨kr, by rw [show (((b + 1 : Nat) : Int) - 1) = (b : Int) from by omega] at hkr; exact hkr⟩
    exact ⟨key.choose, r, key.choose_spec, hq⟩
end
end Go.Proofs.Ytnmeomdjhjgnfaa.X
namespace Go.Proofs.Ytnmeomdjhjgnfaa.X
open Go.RowKit Go.Proofs.YtnmeomdjhjgnfaaW.PrintWords Go.Proofs.YtnmeomdjhjgnfaaW.PrintLast
section
variable {E : Int → Int → Prop} {o : List Int} {n : Nat} {num : List Int} {preds : List (List Int)} {Dm : Nat → Nat → Prop}
theorem l2_true (H : Ordd E n o) (hol : o.length ≤ 1000000) (out : List Int) (r : List Int) (h : ∃ k, graph_Idom.l3 k o num out preds false (o.drop 1) ((o.drop 1).length : Int) (((1 : Nat) : Int) - 1) = some r) : ∃ k, graph_Idom.l2 k o num out preds true = some r := by
  obtain ⟨k, hk⟩ := h
  have hp := H.pos
  have hmn : mn 1 (o.length : Int) = 1 := by unfold mn; split <;> omega
  refine ⟨k + 1, ?_⟩
  rw [graph_Idom.l2, if_pos rfl, hmn, if_pos (by omega), if_pos (by omega)]
  exact hk
/-- What the loops end in. -/
def Rest (o : List Int) (n : Nat) (num : List Int) (preds : List (List Int)) (Dm : Nat → Nat → Prop) (r : List Int) : Prop :=
  ∃ par, Swp o.length (PP o num preds) Dm 1 par ∧ Ot o n o.length par r ∧ ∀ u, 0 < u → u < o.length → FixAt (PP o num preds) o.length par u
/-- The later sweeps come to rest. -/
theorem chk_rest (H : Ordd E n o) (hN : Nm o n num) (hpl : preds.length = n) (G : Gr o.length (PP o num preds) Dm) (hrow : ∀ b, b < o.length → ∀ x ∈ rd_L1 preds (at_ o b), 0 ≤ x ∧ x < (n : Int)) (hl : ∀ b, b < o.length → (rd_L1 preds (at_ o b)).length ≤ 1000000) (hol : o.length ≤ 1000000) :
    ∀ (s : Nat) (par : Nat → Nat) (out : List Int), sumP par o.length < s → Swp o.length (PP o num preds) Dm 1 par → Ot o n o.length par out →
    ∃ k r, graph_Idom.l2 k o num out preds true = some r ∧ Rest o n num preds Dm r := by
  intro s
  induction s with
  | zero => intro par out h; omega
  | succ s ih =>
    intro par out hs hS hO
    have hp := H.pos
    obtain ⟨k, r, hk, hq⟩ := chk_sweep H hN hpl G hrow hl hol (Rest o n num preds Dm) (sumP par o.length) (o.length - 1) 1 par out false (by omega) (by omega) hS hO (Nat.le_refl _) (fun h => by cases h) (fun _ u h0 h1 => by omega) (fun par' out' chg' hS' hO' hlt hf => by
      cases chg' with
      | true => exact ih par' out' (by have := hlt rfl; omega) hS'.again hO'
      | false => exact ⟨1, out', by rw [graph_Idom.l2, if_neg (by decide)], par', hS'.again, hO', hf rfl⟩)
    obtain ⟨k2, hk2⟩ := l2_true H hol out r ⟨k, hk⟩
    exact ⟨k2, r, hk2, hq⟩
/-- From the lists as they are made. -/
theorem chk_all (H : Ordd E n o) (hN : Nm o n num) (hpl : preds.length = n) (G : Gr o.length (PP o num preds) Dm) (hrow : ∀ b, b < o.length → ∀ x ∈ rd_L1 preds (at_ o b), 0 ≤ x ∧ x < (n : Int)) (hl : ∀ b, b < o.length → (rd_L1 preds (at_ o b)).length ≤ 1000000) (hol : o.length ≤ 1000000)
    (hO : Ot o n 1 (fun _ => 0) (List.replicate n (-1))) : ∃ k r, graph_Idom.l2 k o num (List.replicate n (-1)) preds true = some r ∧ Rest o n num preds Dm r := by
  have hp := H.pos
  obtain ⟨k, r, hk, hq⟩ := chk_first H hN hpl G hrow hl hol (Rest o n num preds Dm) (o.length - 1) 1 (fun _ => 0) (List.replicate n (-1)) false (by omega) (by omega) (fun h => by omega) (Fst.start _ _ _) hO (fun par' out' chg' hS' hO' hc => by
    cases chg' with
    | true => exact chk_rest H hN hpl G hrow hl hol (sumP par' o.length + 1) par' out' (by omega) hS'.swp hO'
    | false =>
      have h1 : ¬ 1 < o.length := fun h => by cases hc h
      exact ⟨1, out', by rw [graph_Idom.l2, if_neg (by decide)], par', hS'.swp, hO', fun u h0 hu => by omega⟩)
  obtain ⟨k2, hk2⟩ := l2_true H hol _ r ⟨k, hk⟩
  exact ⟨k2, r, hk2, hq⟩
end
/-- Come to from block 0 without z. -/
inductive RAv (E : Int → Int → Prop) (z : Int) : Int → Prop
  | start : z ≠ 0 → RAv E z 0
  | step {x y : Int} : RAv E z x → E x y → y ≠ z → RAv E z y
def Eg (g : List (List Int)) (x y : Int) : Prop := eB g x y = true
theorem RE_clean (g : List (List Int)) (x y : Int) : RE (cleanL g) x y ↔ Eg g x y := by
  unfold RE Eg
  rw [eB_iff]
  constructor
  · rintro ⟨h0, h⟩
    obtain ⟨j, rfl⟩ := Int.eq_ofNat_of_zero_le h0
    rcases Nat.lt_or_ge j g.length with hj | hj
    · have h2 : y ∈ rd_L1 (cleanL g) j := h
      rw [rd_clean g j hj, mem_keptL] at h2
      exact ⟨by omega, by omega, h2.2.1, h2.2.2, h2.1⟩
    · rw [List.getD_eq_getElem?_getD, List.getElem?_eq_none (by rw [cleanL_length]; omega)] at h
      cases h
  · rintro ⟨h1, h2, h3, h4, h5⟩
    obtain ⟨j, rfl⟩ := Int.eq_ofNat_of_zero_le h1
    refine ⟨h1, ?_⟩
    show y ∈ rd_L1 (cleanL g) j
    rw [rd_clean g j (by omega), mem_keptL]
    exact ⟨h5, h3, h4⟩
section
variable {E : Int → Int → Prop} {o : List Int} {n : Nat} {num : List Int} {preds : List (List Int)}
/-- Dominance, by places. -/
def DmP (E : Int → Int → Prop) (o : List Int) (d u : Nat) : Prop := d < o.length ∧ u < o.length ∧ (d = u ∨ ¬ RAv E (at_ o d) (at_ o u))
theorem ra_fwd (H : Ordd E n o) (d : Nat) (hd : d < o.length) : ∀ (k u : Nat), u ≤ k → u < d → RAv E (at_ o d) (at_ o u) := by
  intro k
  induction k with
  | zero =>
    intro u hu hud
    obtain rfl : u = 0 := by omega
    rw [H.head]
    exact .start (fun h => by have := at_inj H.nodup hd H.pos (h.trans H.head.symm); omega)
  | succ k ih =>
    intro u hu hud
    rcases Nat.eq_zero_or_pos u with rfl | h0
    · exact ih 0 (by omega) hud
    · obtain ⟨j, hj, he⟩ := H.fwd u h0 (by omega)
      exact .step (ih j (by omega) (by omega)) he (fun h => by have := at_inj H.nodup (by omega) hd h; omega)
theorem plN_at (hN : Nm o n num) {j : Nat} (hj : j < o.length) : plN num (at_ o j) = j := by
  unfold plN; rw [hN.on j hj]; rfl
theorem mem_PP (H : Ordd E n o) (hN : Nm o n num) (hpr : ∀ u, u < o.length → ∀ x, x ∈ rd_L1 preds (at_ o u) ↔ E x (at_ o u)) (u : Nat) (hu : u < o.length) (p : Nat) : p ∈ PP o num preds u ↔ p < o.length ∧ E (at_ o p) (at_ o u) := by
  unfold PP
  rw [List.mem_map]
  constructor
  · rintro ⟨x, hx, rfl⟩
    obtain ⟨h1, h2⟩ := List.mem_filter.1 hx
    obtain ⟨j, hj, rfl⟩ := mem_at (of_decide_eq_true h2)
    rw [plN_at hN hj]
    exact ⟨hj, (hpr u hu _).1 h1⟩
  · rintro ⟨hp, he⟩
    exact ⟨at_ o p, List.mem_filter.2 ⟨(hpr u hu _).2 he, decide_eq_true (at_mem hp)⟩, plN_at hN hp⟩
theorem gr_of (H : Ordd E n o) (hN : Nm o n num) (hpr : ∀ u, u < o.length → ∀ x, x ∈ rd_L1 preds (at_ o u) ↔ E x (at_ o u)) : Gr o.length (PP o num preds) (DmP E o) where
  inb := fun u hu p hp => ((mem_PP H hN hpr u hu p).1 hp).1
  fwd := fun u h0 hu => by
    obtain ⟨j, hj, he⟩ := H.fwd u h0 hu
    exact ⟨j, (mem_PP H hN hpr u hu j).2 ⟨by omega, he⟩, hj⟩
  dle := fun d u ⟨hd, hu, h⟩ => by
    rcases h with h | h
    · omega
    · rcases Nat.lt_or_ge u d with hlt | hlt
      · exact absurd (ra_fwd H d hd u u (Nat.le_refl _) hlt) h
      · exact hlt
  dstep := fun d u h0 hu ⟨hd, _, h⟩ hne p hp => by
    obtain ⟨hpm, he⟩ := (mem_PP H hN hpr u hu p).1 hp
    refine ⟨hd, hpm, ?_⟩
    by_cases hdp : d = p
    · exact .inl hdp
    · refine .inr (fun hr => ?_)
      exact h.resolve_left hne (.step hr he (fun e => hne (at_inj H.nodup hd hu e.symm)))
/-- At rest the chains are who dominates. -/
theorem rest_dom (H : Ordd E n o) (hN : Nm o n num) (hpr : ∀ u, u < o.length → ∀ x, x ∈ rd_L1 preds (at_ o u) ↔ E x (at_ o u)) (hE : ∀ x y, E x y → x ∈ o → y ∈ o) {r : List Int} (h : Rest o n num preds (DmP E o) r) :
    ∃ par, Dn par ∧ Ot o n o.length par r ∧ ∀ u, u < o.length → ∀ d, An par d u ↔ DmP E o d u := by
  obtain ⟨par, hS, hO, hf⟩ := h
  have G := gr_of H hN hpr
  refine ⟨par, hS.dn, hO, fun u hu d => ⟨fun ha => ?_, fun hd => ?_⟩⟩
  · have hle := ha.le hS.dn
    refine ⟨by omega, hu, ?_⟩
    by_cases hdu : d = u
    · exact .inl hdu
    · refine .inr (fun hr => ?_)
      have key : ∀ x, RAv E (at_ o d) x → x ∈ o ∧ ∀ w, w < o.length → x = at_ o w → ¬ An par d w := by
        intro x hx
        induction hx with
        | start h0 =>
          refine ⟨by rw [← H.head]; exact at_mem H.pos, fun w hw hxw ha => ?_⟩
          have := at_inj H.nodup H.pos hw (H.head.trans hxw)
          subst this
          have := ha.of_zero hS.dn
          subst this
          exact h0 H.head
        | @step x y hx he hne ih =>
          obtain ⟨hxo, ih⟩ := ih
          refine ⟨H.closed x hxo y he, fun w hw hyw ha => ?_⟩
          obtain ⟨j, hj, rfl⟩ := mem_at hxo
          have hnj := ih j hj rfl
          rcases ha.inv with hdw | ⟨hw0, ha⟩
          · subst hdw; exact hne hyw
          · obtain ⟨p, ps, hP, hv⟩ := hf w hw0 hw
            subst hyw
            have hjm : j ∈ PP o num preds w := (mem_PP H hN hpr w hw j).2 ⟨hj, he⟩
            rw [← hv, nca_an hS.dn o.length ps p (G.inb w hw p (by rw [hP]; exact List.mem_cons_self)) (fun q hq => G.inb w hw q (by rw [hP]; exact List.mem_cons_of_mem _ hq))] at ha
            rw [hP] at hjm
            rcases List.mem_cons.1 hjm with rfl | hjm
            · exact hnj ha.1
            · exact hnj (ha.2 j hjm)
      exact (key _ hr).2 u hu rfl ha
  · have key : ∀ (k u : Nat), u ≤ k → u < o.length → ∀ d, DmP E o d u → An par d u := by
      intro k
      induction k with
      | zero =>
        intro u hk hu d hd
        have := G.dle d u hd
        obtain rfl : d = u := by omega
        exact .refl
      | succ k ih =>
        intro u hk hu d hd
        by_cases hdu : d = u
        · subst hdu; exact .refl
        · have h1 := G.dle d u hd
          have h2 := hS.dn u (by omega)
          exact .up (by omega) (ih (par u) (by omega) (by omega) d (hS.dom u (by omega) hu d hd hdu))
    exact key u u (Nat.le_refl _) hu d hd
end
theorem order_some (g : List (List Int)) (hok : okG g = true) (hn : 0 < g.length) (k : Nat) (hk : g.length ≤ k) : ∃ o, graph_Order.f k g = some o ∧ Ordd (Eg g) g.length o := by
  obtain ⟨t, o, h1, h2⟩ := order_of (cleanL g) g.length hn (cleanL_in g) k hk
  have e : RE (cleanL g) = Eg g := funext fun x => funext fun y => propext (RE_clean g x y)
  rw [e] at h2
  refine ⟨o.reverse, ?_, h2⟩
  unfold graph_Order.f
  rw [if_pos hok, if_neg (by omega), h1]
  rfl
theorem ordd_len {E : Int → Int → Prop} {n : Nat} {o : List Int} (H : Ordd E n o) : o.length ≤ n := by
  have key : ∀ (m : Nat) (l : List Int), l.Nodup → (∀ x ∈ l, 0 ≤ x ∧ x < (m : Int)) → l.length ≤ m := by
    intro m
    induction m with
    | zero =>
      intro l _ h
      cases l with
      | nil => simp
      | cons x l => have := h x List.mem_cons_self; omega
    | succ m ih =>
      intro l hn h
      have h1 := ih (l.filter (fun x => decide (x ≠ (m : Int)))) (hn.filter _) (fun x hx => by
        obtain ⟨h2, h3⟩ := List.mem_filter.1 hx
        have h4 := h x h2
        have h5 := of_decide_eq_true h3
        omega)
      have h2 : l.length ≤ (l.filter (fun x => decide (x ≠ (m : Int)))).length + 1 := by
        clear ih h1 h
        induction l with
        | nil => simp
        | cons x l ih =>
          rw [List.nodup_cons] at hn
          rw [List.filter_cons]
          by_cases hx : x = (m : Int)
          · rw [if_neg (by simp [hx])]
            have : l.filter (fun x => decide (x ≠ (m : Int))) = l := List.filter_eq_self.2 (fun y hy => by
              refine decide_eq_true (fun e => hn.1 ?_)
              rw [hx, ← e]; exact hy)
            rw [this]; simp
          · rw [if_pos (decide_eq_true hx)]
            have := ih hn.2
            simp only [List.length_cons]; omega
      omega
  exact key n o H.nodup H.rng
/-- Numbers are given. -/
theorem idom_l1 (g : List (List Int)) (hok : okG g = true) {E : Int → Int → Prop} {o : List Int} (H : Ordd E g.length o) (out r : List Int) (Hc : ∀ num, Nm o g.length num → ∃ k, graph_Idom.l2 k o num out (predsL g) true = some r) :
    ∀ (d i : Nat) (num : List Int), i + d = o.length → num.length = g.length → (∀ j, j < i → rd num (at_ o j) = j) → (∀ x, 0 ≤ x → x < (g.length : Int) → (∀ j, j < i → x ≠ at_ o j) → rd num x = -1) →
    ∃ k, graph_Idom.l1 k g o num out o o.length i = some r := by
  have hol := ordd_len H
  have hg := (okG_len hok).1
  intro d
  induction d with
  | zero =>
    intro i num hi hl h1 h2
    obtain ⟨k, hk⟩ := Hc num ⟨hl, fun j hj => h1 j (by omega), fun x h0 hx hm => h2 x h0 hx (fun j hj e => hm (e ▸ at_mem (by omega)))⟩
    refine ⟨k + 1, ?_⟩
    rw [graph_Idom.l1, if_neg (by omega), Preds_some g hok, Option.bind_some]
    exact hk
  | succ d ih =>
    intro i num hi hl h1 h2
    have hlt : i < o.length := by omega
    have hr := H.rng _ (at_mem hlt)
    have hrd : rd o i = at_ o i := rfl
    have hset : ∀ x, 0 ≤ x → x ≠ at_ o i → rd (num.set (at_ o i).toNat (i : Int)) x = rd num x := fun x h0 hn => by
      unfold rd
      rw [List.getD_eq_getElem?_getD, List.getD_eq_getElem?_getD, List.getElem?_set_ne (by omega)]
    have hself : rd (num.set (at_ o i).toNat (i : Int)) (at_ o i) = i := by
      unfold rd
      rw [List.getD_eq_getElem?_getD, List.getElem?_set_self (by omega)]
      rfl
    obtain ⟨k, hk⟩ := ih (i + 1) (num.set (at_ o i).toNat (i : Int)) (by omega) (by simpa using hl) (fun j hj => by
      by_cases e : j = i
      · subst e; exact hself
      · rw [hset _ (H.rng _ (at_mem (by omega))).1 (fun hh => e (at_inj H.nodup (by omega) hlt hh))]
        exact h1 j (by omega)) (fun x h0 hx hne => by
      rw [hset x h0 (hne i (by omega))]
      exact h2 x h0 hx (fun j hj => hne j (by omega)))
    refine ⟨k + 1, ?_⟩
    rw [graph_Idom.l1, if_pos (by omega), if_pos (by omega), if_pos (by omega), hrd, if_pos hr.1, if_pos (by omega), w64 (by omega) (by omega)]
    exact hk
theorem idom_l0 (g : List (List Int)) (hok : okG g = true) (o r : List Int) (Hc : ∃ k, graph_Idom.l1 k g o (List.replicate g.length (-1)) (List.replicate g.length (-1)) o o.length 0 = some r) :
    ∀ (d i : Nat) (x4 x5 : List Int), i + d = g.length → x4 = List.replicate i (-1) ++ List.replicate d 0 → x5 = List.replicate i (-1) ++ List.replicate d 0 → ∃ k, graph_Idom.l0 k g o x4 x5 g.length i = some r := by
  have hg := (okG_len hok).1
  intro d
  induction d with
  | zero =>
    intro i x4 x5 hi h4 h5
    obtain ⟨k, hk⟩ := Hc
    refine ⟨k + 1, ?_⟩
    rw [graph_Idom.l0, if_neg (by omega), h4, h5, List.replicate_zero, List.append_nil, show i = g.length from by omega]
    exact hk
  | succ d ih =>
    intro i x4 x5 hi h4 h5
    have hs : ∀ x : List Int, x = List.replicate i (-1) ++ List.replicate (d + 1) 0 → x.set i (-1) = List.replicate (i + 1) (-1) ++ List.replicate d 0 := by
      intro x hx
      rw [hx, List.set_append_right _ _ (by simp), List.length_replicate, Nat.sub_self, List.replicate_succ, List.set_cons_zero, List.replicate_succ', List.append_assoc]
      rfl
    obtain ⟨k, hk⟩ := ih (i + 1) (x4.set i (-1)) (x5.set i (-1)) (by omega) (hs x4 h4) (hs x5 h5)
    refine ⟨k + 1, ?_⟩
    have hl4 : x4.length = g.length := by rw [h4]; simp; omega
    have hl5 : x5.length = g.length := by rw [h5]; simp; omega
    rw [graph_Idom.l0, if_pos (by omega), if_pos (by omega), if_pos (by omega), if_pos (by omega), w64 (by omega) (by omega), Int.toNat_natCast]
    exact hk
/-- What graph.Idom tells. -/
structure IdomR (g : List (List Int)) (o r : List Int) (par : Nat → Nat) : Prop where
  ord : Ordd (Eg g) g.length o
  dn : Dn par
  lst : Ot o g.length o.length par r
  dom : ∀ u, u < o.length → ∀ d, An par d u ↔ DmP (Eg g) o d u
theorem idom_some (g : List (List Int)) (hok : okG g = true) (hn : 0 < g.length) (hn2 : g.length ≤ 1000) (o : List Int) (ho : ∃ k, graph_Order.f k g = some o) (H : Ordd (Eg g) g.length o) : ∃ k r par, graph_Idom.f k g = some r ∧ IdomR g o r par := by
  have hol := ordd_len H
  have hpr : ∀ u, u < o.length → ∀ x, x ∈ rd_L1 (predsL g) (at_ o u) ↔ Eg g x (at_ o u) := fun u hu x => mem_preds g x (at_ o u) (H.rng _ (at_mem hu))
  have hpl := predsL_len g
  have hrow : ∀ b, b < o.length → ∀ x ∈ rd_L1 (predsL g) (at_ o b), 0 ≤ x ∧ x < (g.length : Int) := fun b hb x hx => by
    have := eB_iff.1 ((hpr b hb x).1 hx)
    exact ⟨this.1, this.2.1⟩
  have hlen : ∀ b, b < o.length → (rd_L1 (predsL g) (at_ o b)).length ≤ 1000000 := fun b hb => by
    have hr := H.rng _ (at_mem hb)
    have e : rd_L1 (predsL g) (at_ o b) = (predsL g)[(at_ o b).toNat]'(by omega) := by
      unfold rd_L1
      rw [List.getD_eq_getElem?_getD, List.getElem?_eq_getElem (by omega)]
      rfl
    rw [e]
    exact (okG_len (okG_preds g hn2)).2 _ (List.getElem_mem _)
  have hO : Ot o g.length 1 (fun _ => 0) (List.replicate g.length (-1)) := by
    have hrep : ∀ x, 0 ≤ x → x < (g.length : Int) → rd (List.replicate g.length (-1)) x = -1 := fun x h0 h1 => by
      unfold rd
      rw [List.getD_eq_getElem?_getD, List.getElem?_replicate, if_pos (by omega)]
      rfl
    exact ⟨by simp, fun j h0 h1 => by omega, hrep 0 (Int.le_refl 0) (by omega), fun j _ hj => hrep _ (H.rng _ (at_mem hj)).1 (H.rng _ (at_mem hj)).2, fun x h0 h1 _ => hrep x h0 h1⟩
  -- the numbers that are given: one list
  have hnum : ∃ num, Nm o g.length num := by
    refine ⟨(List.range g.length).map (fun (x : Nat) => if (x : Int) ∈ o then ((o.idxOf (x : Int) : Nat) : Int) else -1), by simp, fun i hi => ?_, fun x h0 h1 hm => ?_⟩
    · have hr := H.rng _ (at_mem hi)
      unfold rd
      rw [List.getD_eq_getElem?_getD, List.getElem?_map, List.getElem?_range (by omega)]
      have e : (((at_ o i).toNat : Nat) : Int) = at_ o i := by omega
      simp only [Option.map_some, Option.getD_some, e, if_pos (at_mem hi)]
      have h1 : o.idxOf (at_ o i) < o.length := List.idxOf_lt_length_of_mem (at_mem hi)
      have hix : ∀ x ∈ o, at_ o (o.idxOf x) = x := fun x hx => by
        have h1 : o.idxOf x < o.length := List.idxOf_lt_length_of_mem hx
        unfold at_
        rw [List.getD_eq_getElem?_getD, List.getElem?_eq_getElem h1]
        exact List.getElem_idxOf h1
      have h2 := hix _ (at_mem hi)
      have := at_inj H.nodup h1 hi h2
      omega
    · unfold rd
      rw [List.getD_eq_getElem?_getD, List.getElem?_map, List.getElem?_range (by omega)]
      have e : ((x.toNat : Nat) : Int) = x := by omega
      simp only [Option.map_some, Option.getD_some, e, if_neg hm]
  have huniq : ∀ a b, Nm o g.length a → Nm o g.length b → a = b := by
    intro a b ha hb
    refine List.ext_getElem (ha.len.trans hb.len.symm) (fun i h1 h2 => ?_)
    have hg1 : ∀ l : List Int, (h : i < l.length) → rd l (i : Int) = l[i] := fun l h => by simp [rd, h]
    rw [← hg1 a h1, ← hg1 b h2]
    have hlt : i < g.length := by have := ha.len; omega
    by_cases hm : ((i : Nat) : Int) ∈ o
    · obtain ⟨j, hj, e⟩ := mem_at hm
      rw [← e, ha.on j hj, hb.on j hj]
    · rw [ha.off _ (by omega) (by omega) hm, hb.off _ (by omega) (by omega) hm]
  obtain ⟨num, hN⟩ := hnum
  have G := gr_of H hN hpr
  obtain ⟨k, r, hk, hR⟩ := chk_all H hN hpl G hrow hlen (by omega) hO
  obtain ⟨par, hd, hOt, hdom⟩ := rest_dom H hN hpr (fun x y he hx => H.closed x hx y he) hR
  obtain ⟨k1, hk1⟩ := idom_l1 g hok H (List.replicate g.length (-1)) r (fun num' hN' => by rw [huniq num' num hN' hN]; exact ⟨k, hk⟩) o.length 0 (List.replicate g.length (-1)) (by omega) (by simp) (fun j hj => by omega) (fun x h0 h1 _ => by
    unfold rd
    rw [List.getD_eq_getElem?_getD, List.getElem?_replicate, if_pos (by omega)]
    rfl)
  obtain ⟨k0, hk0⟩ := idom_l0 g hok o r ⟨k1, hk1⟩ g.length 0 (List.replicate g.length 0) (List.replicate g.length 0) (by omega) (by simp) (by simp)
  obtain ⟨k3, hk3⟩ := ho
  refine ⟨k3 + k0, r, par, ?_, ⟨H, hd, hOt, hdom⟩⟩
  have e1 := up (f := fun k => graph_Order.f k g) (fun k => graph_Order.mono _ _) (m := k3 + k0) (by omega) hk3
  have e2 := up (f := fun k => graph_Idom.l0 k g o (List.replicate g.length 0) (List.replicate g.length 0) g.length ((0 : Nat) : Int)) (fun k => (graph_Idom.mono_l k).1 _ _ _ _ _ _) (m := k3 + k0) (by omega) hk0
  unfold graph_Idom.f
  rw [e1, Option.bind_some, if_pos (by omega), if_pos (by omega), Int.toNat_natCast]
  exact e2
/-- Come to from block 0. -/
def Rch (E : Int → Int → Prop) (x : Int) : Prop := RAv E (-1) x
/-- a dominates b. -/
def Dmb (E : Int → Int → Prop) (a b : Int) : Prop := Rch E a ∧ Rch E b ∧ (a = b ∨ ¬ RAv E a b)
theorem reach_iff {E : Int → Int → Prop} {n : Nat} {o : List Int} (H : Ordd E n o) (x : Int) : x ∈ o ↔ Rch E x := by
  constructor
  · intro hx
    have key : ∀ (k i : Nat), i ≤ k → i < o.length → Rch E (at_ o i) := by
      intro k
      induction k with
      | zero =>
        intro i hi hl
        obtain rfl : i = 0 := by omega
        rw [H.head]
        exact .start (by omega)
      | succ k ih =>
        intro i hi hl
        rcases Nat.eq_zero_or_pos i with rfl | h0
        · exact ih 0 (by omega) hl
        · obtain ⟨j, hj, he⟩ := H.fwd i h0 hl
          have := (H.rng _ (at_mem hl)).1
          exact .step (ih j (by omega) (by omega)) he (by omega)
    obtain ⟨i, hi, rfl⟩ := mem_at hx
    exact key i i (Nat.le_refl _) hi
  · intro h
    induction h with
    | start => rw [← H.head]; exact at_mem H.pos
    | step _ he _ ih => exact H.closed _ ih _ he
theorem Rch.step {E : Int → Int → Prop} {x y : Int} (hE : ∀ x y, E x y → 0 ≤ y) (h : Rch E x) (he : E x y) : Rch E y := RAv.step h he (by have := hE _ _ he; omega)
theorem Eg_in {g : List (List Int)} {x y : Int} (h : Eg g x y) : 0 ≤ x ∧ x < g.length ∧ 0 ≤ y ∧ y < g.length := by
  have := eB_iff.1 h
  exact ⟨this.1, this.2.1, this.2.2.1, this.2.2.2.1⟩
theorem Eg_nn (g : List (List Int)) (x y : Int) (h : Eg g x y) : 0 ≤ y := (Eg_in h).2.2.1
theorem Rch.rng {g : List (List Int)} (hn : 0 < g.length) {x : Int} (h : Rch (Eg g) x) : 0 ≤ x ∧ x < g.length := by
  cases h with
  | start => omega
  | step _ he _ => have := Eg_in he; omega
theorem RAv.rng {g : List (List Int)} (hn : 0 < g.length) {z x : Int} (h : RAv (Eg g) z x) : 0 ≤ x ∧ x < g.length := by
  cases h with
  | start => omega
  | step _ he _ => have := Eg_in he; omega
section
variable {g : List (List Int)} {o r : List Int} {par : Nat → Nat}
theorem isB_iff (R : IdomR g o r par) (x : Int) : isB r x = true ↔ 0 ≤ x ∧ x < g.length := by
  unfold isB
  rw [R.lst.len, Bool.and_eq_true, decide_eq_true_eq, decide_eq_true_eq]
theorem loop_in (R : IdomR g o r par) (a : Int) (ha : 0 ≤ a) : ∀ (k u : Nat), u < k → u < o.length → (domLoop r a k (at_ o u) = true ↔ ∃ d, d < o.length ∧ a = at_ o d ∧ An par d u) := by
  intro k
  induction k with
  | zero => intro u h; omega
  | succ k ih =>
    intro u hk hu
    rw [domLoop]
    by_cases h : a = at_ o u
    · rw [if_pos h]
      exact ⟨fun _ => ⟨u, hu, h, .refl⟩, fun _ => rfl⟩
    · rw [if_neg h, if_pos ((isB_iff R _).2 (R.ord.rng _ (at_mem hu)))]
      rcases Nat.eq_zero_or_pos u with rfl | h0
      · rw [R.ord.head, R.lst.root]
        constructor
        · intro hh
          cases k with
          | zero => cases hh
          | succ k =>
            rw [domLoop, if_neg (by omega), if_neg (by rw [isB_iff R]; omega)] at hh
            cases hh
        · rintro ⟨d, hd, rfl, hA⟩
          have := hA.of_zero R.dn
          subst this
          exact absurd rfl h
      · have h2 := R.dn u h0
        rw [R.lst.on u h0 hu, ih (par u) (by omega) (by omega)]
        constructor
        · rintro ⟨d, hd, rfl, hA⟩
          exact ⟨d, hd, rfl, .up h0 hA⟩
        · rintro ⟨d, hd, rfl, hA⟩
          rcases hA.inv with rfl | ⟨_, hA⟩
          · exact absurd rfl h
          · exact ⟨d, hd, rfl, hA⟩
theorem loop_off (R : IdomR g o r par) (a b : Int) (ha : 0 ≤ a) (hb : 0 ≤ b ∧ b < g.length) (hm : b ∉ o) (k : Nat) : domLoop r a (k + 1) b = true ↔ a = b := by
  rw [domLoop]
  by_cases h : a = b
  · rw [if_pos h]; exact ⟨fun _ => h, fun _ => rfl⟩
  · rw [if_neg h, if_pos ((isB_iff R _).2 hb), R.lst.off b hb.1 hb.2 hm]
    refine ⟨fun hh => ?_, fun hh => absurd hh h⟩
    cases k with
    | zero => cases hh
    | succ k =>
      rw [domLoop, if_neg (by omega), if_neg (by rw [isB_iff R]; omega)] at hh
      cases hh
/-- What graph.Dominates tells by graph.Idom's list. -/
theorem domL_iff (R : IdomR g o r par) (a b : Int) : domL r a b = true ↔ (0 ≤ a ∧ a < g.length) ∧ (0 ≤ b ∧ b < g.length) ∧ (a = b ∨ Dmb (Eg g) a b) := by
  unfold domL
  rw [Bool.and_eq_true, Bool.and_eq_true, isB_iff R, isB_iff R, and_congr_right_iff]
  intro ha
  rw [and_congr_right_iff]
  intro hb
  by_cases hm : b ∈ o
  · obtain ⟨u, hu, rfl⟩ := mem_at hm
    have hol := ordd_len R.ord
    rw [loop_in R a ha.1 _ u (by rw [R.lst.len]; omega) hu]
    constructor
    · rintro ⟨d, hd, rfl, hA⟩
      refine .inr ⟨(reach_iff R.ord _).1 (at_mem hd), (reach_iff R.ord _).1 hm, ?_⟩
      rcases ((R.dom u hu d).1 hA).2.2 with h | h
      · exact .inl (by rw [h])
      · exact .inr h
    · rintro (rfl | ⟨h1, h2, h3⟩)
      · exact ⟨u, hu, rfl, .refl⟩
      · obtain ⟨d, hd, rfl⟩ := mem_at ((reach_iff R.ord _).2 h1)
        refine ⟨d, hd, rfl, (R.dom u hu d).2 ⟨hd, hu, ?_⟩⟩
        rcases h3 with h | h
        · exact .inl (at_inj R.ord.nodup hd hu h)
        · exact .inr h
  · rw [loop_off R a b ha.1 hb hm]
    constructor
    · exact .inl
    · rintro (h | ⟨_, h2, _⟩)
      · exact h
      · exact absurd ((reach_iff R.ord b).2 h2) hm
/-- Which edges go back. -/
theorem backL_iff (R : IdomR g o r par) (a b : Int) (ha : 0 ≤ a ∧ a < g.length) (hb : 0 ≤ b ∧ b < g.length) : backL r a b = true ↔ Dmb (Eg g) b a := by
  unfold backL
  rw [Bool.and_eq_true, Bool.or_eq_true, beq_iff_eq, decide_eq_true_eq, domL_iff R]
  have hr : (a = 0 ∨ 0 ≤ rd r a) ↔ Rch (Eg g) a := by
    rw [← reach_iff R.ord]
    constructor
    · rintro (rfl | h)
      · rw [← R.ord.head]; exact at_mem R.ord.pos
      · by_cases hm : a ∈ o
        · exact hm
        · rw [R.lst.off a ha.1 ha.2 hm] at h; omega
    · intro hm
      obtain ⟨u, hu, rfl⟩ := mem_at hm
      rcases Nat.eq_zero_or_pos u with rfl | h0
      · exact .inl R.ord.head
      · refine .inr ?_
        rw [R.lst.on u h0 hu]
        exact (R.ord.rng _ (at_mem (by have := R.dn u h0; omega))).1
  rw [hr]
  constructor
  · rintro ⟨h1, _, _, rfl | h⟩
    · exact ⟨h1, h1, .inl rfl⟩
    · exact h
  · intro h
    exact ⟨h.2.1, hb, ha, .inr h⟩
theorem dmb_an (R : IdomR g o r par) (a b : Int) : Dmb (Eg g) a b ↔ ∃ d u, d < o.length ∧ u < o.length ∧ a = at_ o d ∧ b = at_ o u ∧ An par d u := by
  constructor
  · rintro ⟨h1, h2, h3⟩
    obtain ⟨d, hd, rfl⟩ := mem_at ((reach_iff R.ord _).2 h1)
    obtain ⟨u, hu, rfl⟩ := mem_at ((reach_iff R.ord _).2 h2)
    refine ⟨d, u, hd, hu, rfl, rfl, (R.dom u hu d).2 ⟨hd, hu, h3.imp (fun h => at_inj R.ord.nodup hd hu h) id⟩⟩
  · rintro ⟨d, u, hd, hu, rfl, rfl, hA⟩
    exact ⟨(reach_iff R.ord _).1 (at_mem hd), (reach_iff R.ord _).1 (at_mem hu), ((R.dom u hu d).1 hA).2.2.imp (fun h => by rw [h]) id⟩
theorem dmb_places (R : IdomR g o r par) {d u : Nat} (hd : d < o.length) (hu : u < o.length) : Dmb (Eg g) (at_ o d) (at_ o u) ↔ An par d u := by
  rw [dmb_an R]
  constructor
  · rintro ⟨d', u', hd', hu', e1, e2, hA⟩
    rw [at_inj R.ord.nodup hd hd' e1, at_inj R.ord.nodup hu hu' e2]; exact hA
  · exact fun hA => ⟨d, u, hd, hu, rfl, rfl, hA⟩
theorem dmb_anti (R : IdomR g o r par) {a b : Int} (h : Dmb (Eg g) a b) (k : Dmb (Eg g) b a) : a = b := by
  obtain ⟨d, u, hd, hu, rfl, rfl, hA⟩ := (dmb_an R a b).1 h
  have hB := (dmb_places R hu hd).1 k
  have := hA.le R.dn
  have := hB.le R.dn
  rw [show d = u from by omega]
end
/-- Some rounds suffice, and what comes out is Q. -/
def Ends {α : Type} (f : Nat → Option α) (Q : α → Prop) : Prop := ∃ k r, f k = some r ∧ Q r
theorem Ends.mono {α : Type} {f : Nat → Option α} {Q R : α → Prop} (h : Ends f Q) (hqr : ∀ r, Q r → R r) : Ends f R := by
  obtain ⟨k, r, hk, hq⟩ := h
  exact ⟨k, r, hk, hqr r hq⟩
theorem Ends.step {α : Type} {f g : Nat → Option α} {Q : α → Prop} (h : Ends g Q) (e : ∀ k, f (k + 1) = g k) : Ends f Q := by
  obtain ⟨k, r, hk, hq⟩ := h
  exact ⟨k + 1, r, (e k).trans hk, hq⟩
theorem Ends.same {α : Type} {f g : Nat → Option α} {Q : α → Prop} (h : Ends g Q) (e : ∀ k, f k = g k) : Ends f Q := by
  obtain ⟨k, r, hk, hq⟩ := h
  exact ⟨k, r, (e k).trans hk, hq⟩
/-- From some rounds on. -/
theorem Ends.late {α : Type} {f g : Nat → Option α} {Q : α → Prop} (m : Nat) (hg : ∀ k, LeO (g k) (g (k + 1))) (h : Ends g Q) (e : ∀ k, m ≤ k → f (k + 1) = g k) : Ends f Q := by
  obtain ⟨k, r, hk, hq⟩ := h
  exact ⟨k + m + 1, r, (e (k + m) (by omega)).trans (up hg (by omega) hk), hq⟩
theorem Ends.bind {α β : Type} {f : Nat → Option α} {g : Nat → α → Option β} {P : α → Prop} {Q : β → Prop} (hf : ∀ k, LeO (f k) (f (k + 1))) (hg : ∀ a k, LeO (g k a) (g (k + 1) a)) (h : Ends f P) (h2 : ∀ a, P a → Ends (fun k => g k a) Q) : Ends (fun k => (f k).bind (g k)) Q := by
  obtain ⟨k, a, hk, hp⟩ := h
  obtain ⟨m, r, hm, hq⟩ := h2 a hp
  refine ⟨k + m, r, ?_, hq⟩
  show (f (k + m)).bind (g (k + m)) = some r
  rw [up hf (m := k + m) (by omega) hk, Option.bind_some]
  exact up (f := fun k => g k a) (hg a) (by omega) hm

/-- The numbers from i on, d of them, that P holds of. -/
def upto (P : Int → Bool) : Nat → Int → List Int
  | 0, _ => []
  | d + 1, i => if P i = true then i :: upto P d (i + 1) else upto P d (i + 1)
theorem mem_upto (P : Int → Bool) : ∀ (d : Nat) (i x : Int), x ∈ upto P d i ↔ (i ≤ x ∧ x < i + d) ∧ P x = true
  | 0, i, x => by simp [upto]; omega
  | d + 1, i, x => by
    rw [upto]
    by_cases h : P i = true
    · rw [if_pos h, List.mem_cons, mem_upto P d (i + 1) x]
      constructor
      · rintro (rfl | ⟨h1, h2⟩)
        · exact ⟨by omega, h⟩
        · exact ⟨by omega, h2⟩
      · rintro ⟨h1, h2⟩
        by_cases e : x = i
        · exact .inl e
        · exact .inr ⟨by omega, h2⟩
    · rw [if_neg h, mem_upto P d (i + 1) x]
      constructor
      · rintro ⟨h1, h2⟩; exact ⟨by omega, h2⟩
      · rintro ⟨h1, h2⟩
        by_cases e : x = i
        · subst e; exact absurd h2 h
        · exact ⟨by omega, h2⟩
theorem upto_sorted (P : Int → Bool) : ∀ (d : Nat) (i : Int), (upto P d i).Pairwise (· < ·)
  | 0, _ => List.Pairwise.nil
  | d + 1, i => by
    rw [upto]
    split
    · exact List.pairwise_cons.2 ⟨fun x hx => by have := ((mem_upto P d (i + 1) x).1 hx).1; omega, upto_sorted P d (i + 1)⟩
    · exact upto_sorted P d (i + 1)
/-- Rising rows of the same numbers are the same. -/
theorem sorted_eq {l m : List Int} (hl : l.Pairwise (· < ·)) (hm : m.Pairwise (· < ·)) (h : ∀ x, x ∈ l ↔ x ∈ m) : l = m := by
  refine List.Perm.eq_of_pairwise (le := (· < ·)) (fun a b _ _ h1 h2 => by omega) hl hm ?_
  exact (List.perm_ext_iff_of_nodup (hl.imp (fun h e => by omega)) (hm.imp (fun h e => by omega))).2 h
theorem upto_len (P : Int → Bool) : ∀ (d : Nat) (i : Int), (upto P d i).length ≤ d
  | 0, _ => by simp [upto]
  | d + 1, i => by
    have ih := upto_len P d (i + 1)
    rw [upto]
    split
    · simp; omega
    · omega
theorem upto_congr {P Q : Int → Bool} : ∀ (d : Nat) (i : Int), (∀ x, i ≤ x → x < i + d → P x = Q x) → upto P d i = upto Q d i
  | 0, _, _ => rfl
  | d + 1, i, h => by
    rw [upto, upto, h i (by omega) (by omega), upto_congr d (i + 1) (fun x h1 h2 => h x (by omega) (by omega))]
theorem upto_range (P : Int → Bool) : ∀ (d i : Nat), upto P d i = ((List.range' i d).map (fun (b : Nat) => (b : Int))).filter P
  | 0, _ => rfl
  | d + 1, i => by
    have ih := upto_range P d (i + 1)
    rw [upto, List.range'_succ, List.map_cons, List.filter_cons, ← ih]
    rfl
theorem keptL_upto (row : List Int) (n : Nat) : keptL row n = upto (fun b => row.contains b) n 0 := by
  have := upto_range (fun b => row.contains b) n 0
  rw [← List.range_eq_range'] at this
  unfold keptL
  rw [Int.toNat_natCast]
  exact this.symm

def nextL (g : List (List Int)) (a : Int) : List Int := upto (eB g a) g.length 0
theorem mem_nextL (g : List (List Int)) (a b : Int) : b ∈ nextL g a ↔ Eg g a b := by
  unfold nextL
  rw [mem_upto]
  constructor
  · exact fun h => h.2
  · intro h
    have := Eg_in h
    exact ⟨by omega, h⟩
theorem next_l0 (g : List (List Int)) (hg : okG g = true) (a : Int) : ∀ (d : Nat) (x5 : List Int) (x6 : Int) (k : Nat), 0 ≤ x6 → x6 + d = g.length → (x5.length : Int) ≤ x6 → d + 1000003 ≤ k → jacquardref02_next.l0 (k + 1) g a x5 x6 = some (x5 ++ upto (eB g a) d x6) := by
  have hl := (okG_len hg).1
  intro d
  induction d with
  | zero =>
    intro x5 x6 k h0 hd h5 hk
    rw [jacquardref02_next.l0, if_neg (by omega)]
    simp [upto]
  | succ d ih =>
    intro x5 x6 k h0 hd h5 hk
    obtain ⟨k, rfl⟩ : ∃ m, k = m + 1 := ⟨k - 1, by omega⟩
    rw [jacquardref02_next.l0, if_pos (by omega), edge_some g hg _ _ (by omega), Option.bind_some, w64 (by omega) (by omega), upto]
    by_cases h : eB g a x6 = true
    · rw [if_pos h, if_pos h, if_pos (by omega), ih (x5 ++ [x6]) (x6 + 1) k (by omega) (by omega) (by rw [List.length_append]; simp; omega) (by omega)]
      simp
    · rw [if_neg h, if_neg h, ih x5 (x6 + 1) k (by omega) (by omega) (by omega) (by omega)]
theorem next_some (g : List (List Int)) (hg : okG g = true) (a : Int) {k : Nat} (hk : 2000005 ≤ k) : jacquardref02_next.f k g a = some (nextL g a) := by
  have hl := (okG_len hg).1
  obtain ⟨k, rfl⟩ : ∃ m, k = m + 1 := ⟨k - 1, by omega⟩
  unfold jacquardref02_next.f
  rw [next_l0 g hg a g.length [] 0 k (by omega) (by omega) (by simp) (by omega)]
  rfl

/-! ### Without -/
theorem cf_le (t : List Bool) : cf t ≤ t.length := List.count_le_length
theorem cf_eq : ∀ (t s : List Bool), t.length = s.length → (∀ i, t.getD i false = true → s.getD i false = true) → cf t ≤ cf s → t = s := by
  unfold cf
  intro t
  induction t with
  | nil => intro s h _ _; exact (List.length_eq_zero_iff.1 h.symm).symm
  | cons x t ih =>
    intro s h hm hc
    cases s with
    | nil => simp at h
    | cons y s =>
      have hm2 : ∀ i, t.getD i false = true → s.getD i false = true := fun i => by have := hm (i + 1); simpa using this
      have h1 := cf_mono t s (by simpa using h) hm2
      have h2 := hm 0
      unfold cf at h1
      simp only [List.getD_cons_zero] at h2
      simp only [List.count_cons] at hc
      have e : x = y := by cases x <;> cases y <;> simp_all <;> omega
      subst e
      rw [ih s (by simpa using h) hm2 (by simpa using hc)]
theorem on_rd {t : List Bool} {y : Int} : rdOf false t y = true ↔ on t y := Iff.rfl
theorem on_setv {t : List Bool} {a y : Int} {v : Bool} (ha : 0 ≤ a ∧ a < t.length) (hy : 0 ≤ y) : on (t.set a.toNat v) y ↔ (y ≠ a ∧ on t y) ∨ (y = a ∧ v = true) := by
  unfold on
  rw [List.getD_eq_getElem?_getD, List.getD_eq_getElem?_getD]
  by_cases h : a.toNat = y.toNat
  · have e : y = a := by omega
    subst e
    rw [List.getElem?_set_self (by omega)]
    simp
  · have e : y ≠ a := fun e => h (by rw [e])
    rw [List.getElem?_set_ne h]
    simp [e]
section
variable {g : List (List Int)} {z : Int} {Q : List Bool → Prop}
theorem wo_l2 (x6 x7 : Int) (l : List Int) (hl : ∀ y ∈ l, 0 ≤ y ∧ y < (g.length : Int)) (hll : l.length ≤ 1000000) : ∀ (d : Nat) (x9 : Nat) (out : List Bool), x9 + d = l.length → out.length = g.length →
    (∀ out' : List Bool, out'.length = g.length → (∀ x, 0 ≤ x → (on out' x ↔ on out x ∨ (x ∈ l.drop x9 ∧ x ≠ z))) → Ends (fun k => jacquardref02_Without.l1 k g z out' x6 (wrap64 (x7 + 1))) Q) →
    Ends (fun k => jacquardref02_Without.l2 k g z out x6 x7 l x9) Q := by
  intro d
  induction d with
  | zero =>
    intro x9 out hd ho hc
    refine (hc out ho (fun x hx => by rw [List.drop_of_length_le (by omega)]; simp)).step (fun k => ?_)
    rw [jacquardref02_Without.l2, if_neg (by omega)]
  | succ d ih =>
    intro x9 out hd ho hc
    have hlt : x9 < l.length := by omega
    have hrd : rd l x9 = l[x9] := by simp [rd, hlt]
    have hy := hl (rd l x9) (by rw [hrd]; exact List.getElem_mem _)
    have hw : wrap64 ((x9 : Int) + 1) = ((x9 + 1 : Nat) : Int) := by rw [w64 (by omega) (by omega)]; omega
    have hdrop : l.drop x9 = rd l x9 :: l.drop (x9 + 1) := by rw [hrd]; exact List.drop_eq_getElem_cons hlt
    by_cases hon : on out (rd l x9)
    · refine (ih (x9 + 1) (out.set (rd l x9).toNat true) (by omega) (by simpa using ho) (fun out' ho' hx => hc out' ho' (fun x h0 => ?_))).step (fun k => ?_)
      · rw [hx x h0, hdrop, on_set (by omega) h0, List.mem_cons]
        constructor
        · rintro ((h | h) | h)
          · exact .inl h
          · subst h; exact .inl hon
          · exact .inr ⟨.inr h.1, h.2⟩
        · rintro (h | ⟨h1 | h1, h2⟩)
          · exact .inl (.inl h)
          · exact .inl (.inr h1)
          · exact .inr ⟨h1, h2⟩
      · rw [jacquardref02_Without.l2, if_pos (by omega), if_pos (by omega), if_pos hy.1, if_pos (by omega), if_pos (on_rd.2 hon), hw]
    · refine (ih (x9 + 1) (out.set (rd l x9).toNat ((rd l x9) != z)) (by omega) (by simpa using ho) (fun out' ho' hx => hc out' ho' (fun x h0 => ?_))).step (fun k => ?_)
      · rw [hx x h0, hdrop, on_setv (by omega) h0, List.mem_cons, bne_iff_ne]
        constructor
        · rintro ((h | h) | h)
          · exact .inl h.2
          · exact .inr ⟨.inl h.1, by rw [h.1]; exact h.2⟩
          · exact .inr ⟨.inr h.1, h.2⟩
        · rintro (h | ⟨h1 | h1, h2⟩)
          · exact .inl (.inl ⟨fun e => hon (e ▸ h), h⟩)
          · exact .inl (.inr ⟨h1, by rw [← h1]; exact h2⟩)
          · exact .inr ⟨h1, h2⟩
      · rw [jacquardref02_Without.l2, if_pos (by omega), if_pos (by omega), if_pos hy.1, if_pos (by omega), if_neg (fun h => hon (on_rd.1 h)), hw]
theorem nextL_in (g : List (List Int)) (a : Int) : ∀ y ∈ nextL g a, 0 ≤ y ∧ y < (g.length : Int) := fun y hy => by
  have := Eg_in ((mem_nextL g a y).1 hy)
  exact ⟨this.2.2.1, this.2.2.2⟩
theorem wo_l1 (hg : okG g = true) (x6 : Int) : ∀ (d : Nat) (x7 : Int) (out : List Bool), 0 ≤ x7 → x7 + d = g.length → out.length = g.length → (∀ x, 0 ≤ x → on out x → RAv (Eg g) z x) →
    (∀ out' : List Bool, out'.length = g.length → (∀ x, 0 ≤ x → on out' x → RAv (Eg g) z x) → (∀ x, 0 ≤ x → on out x → on out' x) → (∀ a, x7 ≤ a → on out a → ∀ b, Eg g a b → b ≠ z → on out' b) → Ends (fun k => jacquardref02_Without.l0 k g z out' (wrap64 (x6 + 1))) Q) →
    Ends (fun k => jacquardref02_Without.l1 k g z out x6 x7) Q := by
  have hn := (okG_len hg).1
  intro d
  induction d with
  | zero =>
    intro x7 out h0 hd ho hs hc
    refine (hc out ho hs (fun x _ h => h) (fun a ha hon b he _ => ?_)).step (fun k => ?_)
    · have := Eg_in he
      omega
    · rw [jacquardref02_Without.l1, if_neg (by omega)]
  | succ d ih =>
    intro x7 out h0 hd ho hs hc
    have hw : wrap64 (x7 + 1) = x7 + 1 := w64 (by omega) (by omega)
    by_cases hon : on out x7
    · have h2 := wo_l2 (g := g) (z := z) (Q := Q) x6 x7 (nextL g x7) (nextL_in g x7) (by have := upto_len (eB g x7) g.length 0; unfold nextL; omega) (nextL g x7).length 0 out (by omega) ho (fun out1 ho1 hx1 => by
        rw [hw]
        have hx1' : ∀ x, 0 ≤ x → (on out1 x ↔ on out x ∨ (Eg g x7 x ∧ x ≠ z)) := fun x hx => by rw [hx1 x hx, List.drop_zero, mem_nextL]
        refine ih (x7 + 1) out1 (by omega) (by omega) ho1 (fun x hx h => ?_) (fun out' ho' hs' hm' hcl' => hc out' ho' hs' (fun x hx h => hm' x hx ((hx1' x hx).2 (.inl h))) (fun a ha hona b he hb => ?_))
        · rcases (hx1' x hx).1 h with h | ⟨h1, h2⟩
          · exact hs x hx h
          · exact .step (hs x7 h0 hon) h1 h2
        · have hr := Eg_in he
          by_cases e : a = x7
          · subst e
            exact hm' b hr.2.2.1 ((hx1' b hr.2.2.1).2 (.inr ⟨he, hb⟩))
          · exact hcl' a (by omega) ((hx1' a (by omega)).2 (.inl hona)) b he hb)
      refine Ends.late 2000005 (fun k => (jacquardref02_Without.mono_l k).2.2.2 _ _ _ _ _ _ _) h2 (fun k hk => ?_)
      rw [jacquardref02_Without.l1, if_pos (by omega), if_pos h0, if_pos (by omega), if_pos (on_rd.2 hon), next_some g hg x7 hk]
      rfl
    · refine (ih (x7 + 1) out (by omega) (by omega) ho hs (fun out' ho' hs' hm' hcl' => hc out' ho' hs' hm' (fun a ha hona => hcl' a (by
        by_cases e : a = x7
        · subst e; exact absurd hona hon
        · omega) hona))).step (fun k => ?_)
      rw [jacquardref02_Without.l1, if_pos (by omega), if_pos h0, if_pos (by omega), if_neg (fun h => hon (on_rd.1 h)), hw]
theorem getD_on {t : List Bool} {i : Nat} : t.getD i false = true ↔ on t (i : Int) := by unfold on; rw [Int.toNat_natCast]
theorem wo_l0 (hg : okG g = true) (hn : 0 < g.length) (hz : z ≠ 0) : ∀ (d : Nat) (x6 : Int) (out : List Bool), 0 ≤ x6 → x6 + d = g.length → out.length = g.length → on out 0 → (∀ x, 0 ≤ x → on out x → RAv (Eg g) z x) →
    ((∀ x, RAv (Eg g) z x → on out x) ∨ cf out ≤ d) → Ends (fun k => jacquardref02_Without.l0 k g z out x6) (fun r => r.length = g.length ∧ ∀ x, 0 ≤ x → (on r x ↔ RAv (Eg g) z x)) := by
  have hl := (okG_len hg).1
  intro d
  induction d with
  | zero =>
    intro x6 out h0 hd ho hon hs hm
    refine ⟨1, out, by show jacquardref02_Without.l0 (0 + 1) g z out x6 = _; rw [jacquardref02_Without.l0, if_neg (by omega)], ho, fun x hx => ⟨hs x hx, fun h => ?_⟩⟩
    rcases hm with hm | hm
    · exact hm x h
    · have hr : 0 ≤ x ∧ x < g.length := by
        cases h with
        | start => omega
        | step _ he _ => have := Eg_in he; omega
      by_cases hx : on out x
      · exact hx
      · have := cf_set out x.toNat (by omega) (by unfold on at hx; simpa using hx)
        omega
  | succ d ih =>
    intro x6 out h0 hd ho hon hs hm
    refine (wo_l1 hg x6 g.length 0 out (by omega) (by omega) ho hs (fun out' ho' hs' hm' hcl' => ?_)).step (fun k => by rw [jacquardref02_Without.l0, if_pos (by omega)])
    rw [w64 (by omega) (by omega)]
    refine ih (x6 + 1) out' (by omega) (by omega) ho' (hm' 0 (by omega) hon) hs' ?_
    have hmm : ∀ i, out.getD i false = true → out'.getD i false = true := fun i h => getD_on.2 (hm' _ (by omega) (getD_on.1 h))
    rcases hm with hm | hm
    · refine .inl (fun x hx => hm' x ?_ (hm x hx))
      cases hx with
      | start => omega
      | step _ he _ => have := Eg_in he; omega
    · by_cases hc : cf out ≤ cf out'
      · have e := cf_eq out out' (ho.trans ho'.symm) hmm hc
        subst e
        refine .inl (fun x hx => ?_)
        induction hx with
        | start => exact hon
        | step hx he hb ihx =>
          have := Eg_in he
          exact hcl' _ this.1 ihx _ he hb
      · exact .inr (by omega)
end
/-- What the reference's Without tells. -/
def WoR (g : List (List Int)) (z : Int) (r : List Bool) : Prop := r.length = g.length ∧ ∀ x, 0 ≤ x → (on r x ↔ RAv (Eg g) z x)
theorem wo_some (g : List (List Int)) (hg : okG g = true) (hn : 0 < g.length) (z : Int) : Ends (fun k => jacquardref02_Without.f k g z) (WoR g z) := by
  have hl := (okG_len hg).1
  by_cases hz : z = 0
  · subst hz
    refine ⟨1, List.replicate g.length false, ?_, by simp, fun x hx => ⟨fun h => ?_, fun h => ?_⟩⟩
    · show jacquardref02_Without.f (0 + 1) g 0 = _
      unfold jacquardref02_Without.f
      rw [if_pos (by omega), if_pos (by omega), Option.bind_some, if_neg (by omega), jacquardref02_Without.j0, if_pos (by rfl), Int.toNat_natCast]
    · unfold on at h
      rw [List.getD_eq_getElem?_getD, List.getElem?_replicate] at h
      split at h <;> cases h
    · have : ∀ y, RAv (Eg g) 0 y → False := by
        intro y hy
        induction hy with
        | start h => exact h rfl
        | step _ _ _ ih => exact ih
      exact (this x h).elim
  · have hrep : (List.replicate g.length false).length = g.length := by simp
    have h := wo_l0 (g := g) (z := z) hg hn hz g.length 0 ((List.replicate g.length false).set (0 : Int).toNat true) (by omega) (by omega) (by simp) ((on_set (by omega) (by omega)).2 (.inr rfl)) (fun x hx h => by
      rw [on_set (by omega) hx] at h
      rcases h with h | h
      · unfold on at h
        rw [List.getD_eq_getElem?_getD, List.getElem?_replicate] at h
        split at h <;> cases h
      · subst h; exact .start hz) (.inr (by
        have := cf_set (List.replicate g.length false) 0 (by omega) (by rw [List.getD_eq_getElem?_getD, List.getElem?_replicate]; split <;> rfl)
        have h2 : cf (List.replicate g.length false) ≤ g.length := by have := List.count_le_length (a := false) (l := List.replicate g.length false); unfold cf; omega
        show cf ((List.replicate g.length false).set 0 true) ≤ g.length
        omega))
    refine h.step (fun k => ?_)
    have hb : (z == 0) = false := by simpa using hz
    unfold jacquardref02_Without.f
    rw [if_pos (by omega), if_pos (by omega), Option.bind_some, if_neg (by omega), hb, jacquardref02_Without.j0, if_neg (by decide), Int.toNat_natCast, if_pos (by rw [hrep]; omega)]
theorem WoR.rd {g : List (List Int)} {z : Int} {r : List Bool} (h : WoR g z r) (x : Int) (hx : 0 ≤ x) : rdOf false r x = true ↔ RAv (Eg g) z x := h.2 x hx
/-- A row of the table. -/
def TbRow (g : List (List Int)) (a : Int) (row : List Bool) : Prop := row.length = g.length ∧ ∀ b, 0 ≤ b → b < (g.length : Int) → (on row b ↔ Dmb (Eg g) a b)
/-- What the reference's Table tells. -/
structure TbR (g : List (List Int)) (t : List (List Bool)) : Prop where
  len : t.length = g.length
  row : ∀ a, 0 ≤ a → a < (g.length : Int) → TbRow g a (rd_L6 t a)
theorem TbR.rd {g : List (List Int)} {t : List (List Bool)} (h : TbR g t) (a b : Int) (ha : 0 ≤ a ∧ a < (g.length : Int)) (hb : 0 ≤ b ∧ b < (g.length : Int)) : rdOf false (rd_L6 t a) b = true ↔ Dmb (Eg g) a b := (h.row a ha.1 ha.2).2 b hb.1 hb.2
theorem tb_l1 {g : List (List Int)} (hg : okG g = true) {Q : List (List Bool) → Prop} (all rest : List Bool) (hall : WoR g (-1) all) (x4 : List (List Bool)) (a : Int) (ha : 0 ≤ a ∧ a < (g.length : Int)) (hrest : WoR g a rest) (hx4 : x4.length ≤ 1000000)
    (hc : ∀ row, TbRow g a row → Ends (fun k => jacquardref02_Table.l0 k g all (x4 ++ [row]) (wrap64 (a + 1))) Q) : ∀ (d : Nat) (x8 : Int) (row : List Bool), 0 ≤ x8 → x8 + d = g.length → row.length = g.length → (∀ b, 0 ≤ b → b < x8 → (on row b ↔ Dmb (Eg g) a b)) →
    Ends (fun k => jacquardref02_Table.l1 k g all x4 a row rest x8) Q := by
  have hn := (okG_len hg).1
  have hal := hall.1
  have hrl := hrest.1
  intro d
  induction d with
  | zero =>
    intro x8 row h0 hd hl hr
    refine (hc row ⟨hl, fun b h1 h2 => hr b h1 (by omega)⟩).step (fun k => ?_)
    rw [jacquardref02_Table.l1, if_neg (by omega), if_pos (by omega)]
  | succ d ih =>
    intro x8 row h0 hd hl hr
    have hw : wrap64 (x8 + 1) = x8 + 1 := w64 (by omega) (by omega)
    have set : ∀ v : Bool, (v = true ↔ Dmb (Eg g) a x8) → Ends (fun k => jacquardref02_Table.l1 k g all x4 a (row.set x8.toNat v) rest (x8 + 1)) Q := fun v hv =>
      ih (x8 + 1) (row.set x8.toNat v) (by omega) (by omega) (by simpa using hl) (fun b h1 h2 => by
        rw [on_setv (by omega) h1]
        by_cases e : b = x8
        · subst e; simp [hv]
        · rw [← hr b h1 (by omega)]; simp [e])
    by_cases h1 : rdOf false all a = true
    · have ra := (hall.rd a ha.1).1 h1
      by_cases h2 : rdOf false all x8 = true
      · have rb := (hall.rd x8 h0).1 h2
        by_cases h3 : a = x8
        · refine (set true ⟨fun _ => ⟨ra, rb, .inl h3⟩, fun _ => rfl⟩).step (fun k => ?_)
          rw [jacquardref02_Table.l1, if_pos (by omega), if_pos ha.1, if_pos (by omega), if_pos h1, if_pos h0, if_pos (by omega), if_pos h2, if_pos h3, if_pos (by omega), hw]
        · refine (set (!(rdOf false rest x8)) ?_).step (fun k => ?_)
          · rw [Bool.not_eq_true', ← Bool.not_eq_true, hrest.rd x8 h0]
            exact ⟨fun h => ⟨ra, rb, .inr h⟩, fun h => h.2.2.resolve_left h3⟩
          · rw [jacquardref02_Table.l1, if_pos (by omega), if_pos ha.1, if_pos (by omega), if_pos h1, if_pos h0, if_pos (by omega), if_pos h2, if_neg h3, if_pos (by omega), if_pos (by omega), hw]
      · refine (set false ⟨fun h => (nomatch h), fun h => absurd ((hall.rd x8 h0).2 h.2.1) h2⟩).step (fun k => ?_)
        rw [jacquardref02_Table.l1, if_pos (by omega), if_pos ha.1, if_pos (by omega), if_pos h1, if_pos h0, if_pos (by omega), if_neg h2, if_pos (by omega), hw]
    · refine (set false ⟨fun h => (nomatch h), fun h => absurd ((hall.rd a ha.1).2 h.1) h1⟩).step (fun k => ?_)
      rw [jacquardref02_Table.l1, if_pos (by omega), if_pos ha.1, if_pos (by omega), if_neg h1, if_pos h0, if_pos (by omega), hw]
theorem L6_snoc (x4 : List (List Bool)) (row : List Bool) (a : Int) (h0 : 0 ≤ a) (h1 : a < x4.length + 1) : rd_L6 (x4 ++ [row]) a = if a = x4.length then row else rd_L6 x4 a := by
  unfold rd_L6
  rw [List.getD_eq_getElem?_getD, List.getD_eq_getElem?_getD]
  by_cases h : a = x4.length
  · rw [if_pos h, List.getElem?_append_right (by omega), show a.toNat - x4.length = 0 from by omega]
    rfl
  · rw [if_neg h, List.getElem?_append_left (by omega)]
theorem tb_l0 {g : List (List Int)} (hg : okG g = true) (hn : 0 < g.length) (all : List Bool) (hall : WoR g (-1) all) : ∀ (d : Nat) (x4 : List (List Bool)) (x5 : Int), x5 + d = g.length → (x4.length : Int) = x5 → (∀ a, 0 ≤ a → a < x5 → TbRow g a (rd_L6 x4 a)) →
    Ends (fun k => jacquardref02_Table.l0 k g all x4 x5) (TbR g) := by
  have hl := (okG_len hg).1
  intro d
  induction d with
  | zero =>
    intro x4 x5 hd h4 hr
    exact ⟨1, x4, by show jacquardref02_Table.l0 (0 + 1) g all x4 x5 = _; rw [jacquardref02_Table.l0, if_neg (by omega)], ⟨by omega, fun a h0 h1 => hr a h0 (by omega)⟩⟩
  | succ d ih =>
    intro x4 x5 hd h4 hr
    have hw : wrap64 (x5 + 1) = x5 + 1 := w64 (by omega) (by omega)
    have h := Ends.bind (f := fun k => jacquardref02_Without.f k g x5) (g := fun k t => jacquardref02_Table.l1 k g all x4 x5 (List.replicate ((g.length : Int) : Int).toNat false) t 0) (Q := TbR g) (fun k => jacquardref02_Without.mono _ _ k) (fun a k => (jacquardref02_Table.mono_l k).2 _ _ _ _ _ _ _) (wo_some g hg hn x5) (fun rest hrest =>
      tb_l1 hg all rest hall x4 x5 ⟨by omega, by omega⟩ hrest (by omega) (fun row hrow => by
        rw [hw]
        refine ih (x4 ++ [row]) (x5 + 1) (by omega) (by rw [List.length_append]; simp; omega) (fun a h0 h1 => ?_)
        rw [L6_snoc x4 row a h0 (by omega)]
        by_cases e : a = x4.length
        · rw [if_pos e, e, h4]; exact hrow
        · rw [if_neg e]; exact hr a h0 (by omega)) g.length 0 _ (by omega) (by omega) (by simp) (fun b h0 h1 => by omega))
    refine h.step (fun k => ?_)
    rw [jacquardref02_Table.l0, if_pos (by omega), if_pos (by omega), if_pos (by omega)]
theorem table_some (g : List (List Int)) (hg : okG g = true) (hn : 0 < g.length) : Ends (fun k => jacquardref02_Table.f k g) (TbR g) :=
  Ends.bind (f := fun k => jacquardref02_Without.f k g (-1)) (g := fun k t => jacquardref02_Table.l0 k g t ([] : List (List Bool)) 0) (fun k => jacquardref02_Without.mono _ _ k) (fun a k => (jacquardref02_Table.mono_l k).1 _ _ _ _) (wo_some g hg hn (-1)) (fun all hall =>
    tb_l0 hg hn all hall g.length [] 0 (by omega) rfl (fun a h0 h1 => by omega))
/-- Edges stand in order. -/
theorem edges_sorted : ∀ (rows : List (List Int)) (i : Nat), (∀ r ∈ rows, r.Pairwise (· < ·)) → (edgesFrom i rows).Pairwise (fun e f => e.1 < f.1 ∨ (e.1 = f.1 ∧ e.2 < f.2))
  | [], _, _ => List.Pairwise.nil
  | r :: rows, i, h => by
    rw [edgesFrom, List.pairwise_append]
    refine ⟨?_, edges_sorted rows (i + 1) (fun r hr => h r (List.mem_cons_of_mem _ hr)), fun e he f hf => ?_⟩
    · rw [List.pairwise_map]
      exact (h r List.mem_cons_self).imp (fun hlt => .inr ⟨rfl, hlt⟩)
    · obtain ⟨b, _, rfl⟩ := List.mem_map.1 he
      obtain ⟨j, _, h1, _⟩ := (mem_edgesFrom rows (i + 1) f).1 hf
      refine .inl ?_
      show (i : Int) < f.1
      omega
theorem clean_sorted (g : List (List Int)) : ∀ r ∈ cleanL g, r.Pairwise (· < ·) := by
  intro r hr
  obtain ⟨row, _, rfl⟩ := List.mem_map.1 hr
  rw [keptL_upto]
  exact upto_sorted _ _ _
theorem preds_upto (g : List (List Int)) (b : Int) (hb : 0 ≤ b ∧ b < (g.length : Int)) : rd_L1 (predsL g) b = upto (fun a => eB g a b) g.length 0 := by
  obtain ⟨j, rfl⟩ := Int.eq_ofNat_of_zero_le hb.1
  refine sorted_eq ?_ (upto_sorted _ _ _) (fun x => ?_)
  · rw [rd_preds g j (by omega), List.pairwise_map]
    refine List.Pairwise.imp_of_mem ?_ ((edges_sorted (cleanL g) 0 (clean_sorted g)).filter _)
    intro e f he hf h
    have h1 : e.2 = (j : Int) := by simpa using (List.mem_filter.1 he).2
    have h2 : f.2 = (j : Int) := by simpa using (List.mem_filter.1 hf).2
    omega
  · rw [mem_preds g x _ hb, mem_upto]
    constructor
    · intro h
      have := Eg_in h
      exact ⟨by omega, h⟩
    · exact fun h => h.2
/-- An edge goes back to h. -/
def HdP (g : List (List Int)) (h : Int) : Prop := ∃ b, Eg g b h ∧ Dmb (Eg g) h b
theorem mem_headL {g : List (List Int)} {o r : List Int} {par : Nat → Nat} (R : IdomR g o r par) (h : Int) : h ∈ headL g r ↔ HdP g h := by
  unfold headL
  rw [mem_keptL, List.mem_map]
  constructor
  · rintro ⟨⟨e, he, rfl⟩, _⟩
    obtain ⟨h1, h2⟩ := List.mem_filter.1 he
    have h3 := (mem_edgesL g e.1 e.2).1 h1
    have h4 := Eg_in h3
    exact ⟨e.1, h3, (backL_iff R e.1 e.2 ⟨h4.1, h4.2.1⟩ ⟨h4.2.2.1, h4.2.2.2⟩).1 h2⟩
  · rintro ⟨b, h1, h2⟩
    have h4 := Eg_in h1
    exact ⟨⟨(b, h), List.mem_filter.2 ⟨(mem_edgesL g b h).2 h1, (backL_iff R b h ⟨h4.1, h4.2.1⟩ ⟨h4.2.2.1, h4.2.2.2⟩).2 h2⟩, rfl⟩, h4.2.2.1, h4.2.2.2⟩
theorem headL_upto (g : List (List Int)) (d : List Int) : headL g d = upto (fun h => (headL g d).contains h) g.length 0 := by
  refine sorted_eq ?_ (upto_sorted _ _ _) (fun x => ?_)
  · unfold headL; rw [keptL_upto]; exact upto_sorted _ _ _
  · rw [mem_upto, List.contains_iff_mem]
    constructor
    · intro h
      have := (mem_keptL _ _ _).1 (show x ∈ keptL _ _ from h)
      exact ⟨by omega, h⟩
    · exact fun h => h.2
/-- An edge that does not go back. -/
def NB (g : List (List Int)) (a b : Int) : Prop := Eg g a b ∧ ¬ Dmb (Eg g) b a
/-! ### numbers by places -/
theorem numR_not : ∀ (l : List Int) (x : Int), x ∉ l → numR l x = 0
  | [], _, _ => rfl
  | b :: t, x, h => by
    rw [numR, if_neg (fun e => h (by rw [e]; exact List.mem_cons_self)), numR_not t x (fun hx => h (List.mem_cons_of_mem _ hx))]
theorem numR_at : ∀ (l : List Int), l.Nodup → ∀ (i : Nat) (hi : i < l.length), numR l l[i] = (l.length - i : Nat)
  | [], _, i, hi => absurd hi (Nat.not_lt_zero _)
  | b :: t, hn, i, hi => by
    rw [List.nodup_cons] at hn
    cases i with
    | zero => rw [numR]; simp
    | succ i =>
      have hi' : i < t.length := by simpa using hi
      have ih := numR_at t hn.2 i hi'
      rw [numR, List.getElem_cons_succ, if_neg (fun e => hn.1 (by rw [e]; exact List.getElem_mem _)), ih]
      simp
theorem numL_at {o : List Int} (hn : o.Nodup) {i : Nat} (hi : i < o.length) : numL o (at_ o i) = i + 1 := by
  have hr : o.reverse.Nodup := (List.reverse_perm _).nodup_iff.2 hn
  have hi2 : o.length - 1 - i < o.reverse.length := by rw [List.length_reverse]; omega
  have h := numR_at o.reverse hr (o.length - 1 - i) hi2
  have e : o.reverse[o.length - 1 - i]'hi2 = at_ o i := by
    rw [List.getElem_reverse]
    unfold at_
    rw [List.getD_eq_getElem?_getD, List.getElem?_eq_getElem hi]
    have : o.length - 1 - (o.length - 1 - i) = i := by omega
    simp [this]
  rw [e] at h
  unfold numL
  rw [h, List.length_reverse]
  omega
theorem numL_not {o : List Int} {x : Int} (h : x ∉ o) : numL o x = 0 := numR_not _ _ (fun hx => h (List.mem_reverse.1 hx))
section
variable {g : List (List Int)} {o r : List Int} {par : Nat → Nat}
/-- What graph.Reducible tells: edges that do not go back go on. -/
theorem redL_iff (R : IdomR g o r par) : redL g r o = true ↔ ∀ i j, i < o.length → j < o.length → NB g (at_ o i) (at_ o j) → i < j := by
  unfold redL
  rw [List.all_eq_true]
  constructor
  · intro h i j hi hj ⟨he, hd⟩
    have hr := Eg_in he
    have h1 := h (at_ o i, at_ o j) ((mem_edgesL g _ _).2 he)
    have hb : backL r (at_ o i) (at_ o j) = false := by
      rw [← Bool.not_eq_true, backL_iff R _ _ ⟨hr.1, hr.2.1⟩ ⟨hr.2.2.1, hr.2.2.2⟩]; exact hd
    simp only [hb, numL_at R.ord.nodup hi, numL_at R.ord.nodup hj, Bool.not_false, Bool.and_true, Bool.not_eq_true', Bool.and_eq_false_iff, decide_eq_false_iff_not] at h1
    omega
  · intro h e he
    have he' := (mem_edgesL g e.1 e.2).1 he
    have hr := Eg_in he'
    by_cases h0 : e.1 ∈ o
    · have h2 := R.ord.closed _ h0 _ he'
      obtain ⟨i, hi, e1⟩ := mem_at h0
      obtain ⟨j, hj, e2⟩ := mem_at h2
      by_cases hb : backL r e.1 e.2 = true
      · rw [hb]; simp
      · have hNB : NB g (at_ o i) (at_ o j) := by
          rw [e1, e2]
          exact ⟨he', fun hd => hb ((backL_iff R _ _ ⟨hr.1, hr.2.1⟩ ⟨hr.2.2.1, hr.2.2.2⟩).2 hd)⟩
        have hlt := h i j hi hj hNB
        have : decide (numL o e.2 ≤ numL o e.1) = false := by
          rw [← e1, ← e2, numL_at R.ord.nodup hi, numL_at R.ord.nodup hj]
          exact decide_eq_false (by omega)
        rw [this]; simp
    · rw [numL_not h0]; simp
/-- A set each of which has an edge that does not go back from one of it. -/
def Sup (g : List (List Int)) (C : Int → Prop) : Prop := ∀ y, C y → ∃ z, C z ∧ NB g z y
theorem fw_sup (R : IdomR g o r par) (j : Nat) (hj : j < o.length) : ∀ x, FW (Eg g) o j x → ∃ C : Int → Prop, C (at_ o j) ∧ C (at_ o x) ∧ (∀ y, C y → y ∈ o) ∧ ∀ y, C y → y = at_ o j ∨ ∃ z, C z ∧ NB g z y := by
  intro x h
  induction h with
  | refl => exact ⟨fun y => y = at_ o j, rfl, rfl, fun y hy => hy ▸ at_mem hj, fun y hy => .inl hy⟩
  | @step z x _ he hlt hx ih =>
    obtain ⟨C, h1, h2, h3, h4⟩ := ih
    refine ⟨fun y => C y ∨ y = at_ o x, .inl h1, .inr rfl, fun y hy => ?_, fun y hy => ?_⟩
    · rcases hy with hy | hy
      · exact h3 y hy
      · rw [hy]; exact at_mem hx
    · rcases hy with hy | hy
      · rcases h4 y hy with h5 | ⟨w, hw, hn⟩
        · exact .inl h5
        · exact .inr ⟨w, .inl hw, hn⟩
      · subst hy
        refine .inr ⟨at_ o z, .inl h2, he, fun hd => ?_⟩
        have := ((dmb_places R hx (by omega)).1 hd).le R.dn
        omega
/-- Where an edge that does not go back does not go on, such a set is there. -/
theorem red_sup (R : IdomR g o r par) (h : ¬ redL g r o = true) : ∃ C : Int → Prop, Sup g C ∧ (∀ y, C y → y ∈ o) ∧ ∃ y, C y := by
  rw [redL_iff R] at h
  have : ∃ i j, i < o.length ∧ j < o.length ∧ NB g (at_ o i) (at_ o j) ∧ ¬ i < j := by
    refine Classical.byContradiction (fun hn => h (fun i j hi hj hN => ?_))
    exact Classical.byContradiction (fun hlt => hn ⟨i, j, hi, hj, hN, hlt⟩)
  obtain ⟨i, j, hi, hj, hN, hlt⟩ := this
  have hf := (R.ord.back i j hi hj hN.1).resolve_left hlt
  obtain ⟨C, h1, h2, h3, h4⟩ := fw_sup R j hj i hf
  refine ⟨C, fun y hy => ?_, h3, _, h1⟩
  rcases h4 y hy with h5 | h5
  · exact ⟨_, h2, h5 ▸ hN⟩
  · exact h5
end
/-- An edge goes back to h from b. -/
def BS (g : List (List Int)) (h b : Int) : Prop := Eg g b h ∧ Dmb (Eg g) h b
/-- h's loop, with what is not reached. -/
inductive Bd (g : List (List Int)) (h : Int) : Int → Prop
  | head : Bd g h h
  | src {b : Int} : BS g h b → Bd g h b
  | step {x y : Int} : Bd g h y → y ≠ h → Eg g x y → Bd g h x
/-! ### graph.Body -/
theorem nodup_len (m : Nat) (l : List Int) (hn : l.Nodup) (h : ∀ x ∈ l, 0 ≤ x ∧ x < (m : Int)) : l.length ≤ m := by
  have h1 : l ⊆ upto (fun _ => true) m 0 := fun x hx => by
    have := h x hx
    exact (mem_upto _ _ _ _).2 ⟨by omega, rfl⟩
  have h2 := hn.length_le_of_subset h1
  have h3 := upto_len (fun _ => true) m 0
  omega
section
variable {g : List (List Int)} {h : Int}
structure BdI (g : List (List Int)) (h : Int) (o s : List Int) : Prop where
  head : h ∈ s
  snd : ∀ x ∈ s, Bd g h x
  ond : ∀ x ∈ o, Bd g h x ∧ 0 ≤ x ∧ x < (g.length : Int)
  closed : ∀ y ∈ s, y ≠ h → ∀ x, Eg g x y → x ∈ s ∨ x ∈ o
  src : ∀ b, BS g h b → b ∈ s ∨ b ∈ o
  nodup : s.Nodup
  rng : ∀ x ∈ s, 0 ≤ x ∧ x < (g.length : Int)
theorem body_loop (hn : g.length ≤ 1000) : ∀ (m : Nat) (o s : List Int), m ≤ 100000000 → BdI g h o s → (g.length + 1 - s.length) * (g.length + 1) + o.length ≤ m → ∃ s', bodyLoop (predsL g) (m + 1) o s = some s' ∧ ∀ x, x ∈ s' ↔ Bd g h x := by
  have hpl := predsL_len g
  intro m
  induction m with
  | zero =>
    intro o s hm0 I hm
    have hsl := nodup_len _ s I.nodup I.rng
    obtain ⟨A, hA⟩ : ∃ A, g.length + 1 - s.length = A + 1 := ⟨g.length - s.length, by omega⟩
    rw [hA, Nat.add_mul] at hm
    omega
  | succ m ih =>
    intro o s hm0 I hm
    have hsl := nodup_len _ s I.nodup I.rng
    rw [bodyLoop]
    rcases List.eq_nil_or_concat o with rfl | ⟨o', a, rfl⟩
    · refine ⟨s, rfl, fun x => ⟨I.snd x, fun hB => ?_⟩⟩
      induction hB with
      | head => exact I.head
      | src hB => exact (I.src _ hB).resolve_right (fun h => by cases h)
      | step _ hne he ihb => exact (I.closed _ ihb hne _ he).resolve_right (fun h => by cases h)
    · rw [List.concat_eq_append] at I hm ⊢
      have hlast : (o' ++ [a]).getLast? = some a := by simp
      have hdl : (o' ++ [a]).dropLast = o' := by simp
      have hoa := I.ond a (by simp)
      rw [hlast, hdl]
      simp only []
      rw [List.length_append, List.length_singleton] at hm
      by_cases hc : s.contains a = true
      · rw [if_pos hc]
        rw [List.contains_iff_mem] at hc
        refine ih o' s (by omega) ⟨I.head, I.snd, fun x hx => I.ond x (by simp [hx]), fun y hy hne x he => ?_, fun b hb => ?_, I.nodup, I.rng⟩ (by omega)
        · rcases I.closed y hy hne x he with h1 | h1
          · exact .inl h1
          · rcases List.mem_append.1 h1 with h1 | h1
            · exact .inr h1
            · rw [List.mem_singleton.1 h1]; exact .inl hc
        · rcases I.src b hb with h1 | h1
          · exact .inl h1
          · rcases List.mem_append.1 h1 with h1 | h1
            · exact .inr h1
            · rw [List.mem_singleton.1 h1]; exact .inl hc
      · rw [if_neg hc]
        have hna : a ∉ s := fun h => hc (List.contains_iff_mem.2 h)
        have hrow : (predsL g).getD a.toNat [] = upto (fun x => eB g x a) g.length 0 := preds_upto g a hoa.2
        have hrl := upto_len (fun x => eB g x a) g.length 0
        have hmr : ∀ x, x ∈ upto (fun x => eB g x a) g.length 0 ↔ Eg g x a := fun x => by
          rw [mem_upto]
          exact ⟨fun h => h.2, fun h => by have := Eg_in h; exact ⟨by omega, h⟩⟩
        have hah : a ≠ h := fun e => hna (e ▸ I.head)
        have hs1 : (a :: s).Nodup := List.nodup_cons.2 ⟨hna, I.nodup⟩
        have hs2 : ∀ x ∈ a :: s, 0 ≤ x ∧ x < (g.length : Int) := fun x hx => by
          rcases List.mem_cons.1 hx with rfl | hx
          · exact hoa.2
          · exact I.rng x hx
        have hsl1 := nodup_len _ _ hs1 hs2
        rw [List.length_cons] at hsl1
        rw [hrow, if_pos ⟨hoa.2.1, by omega, by rw [List.length_append]; omega, by omega⟩]
        obtain ⟨A, hA⟩ : ∃ A, g.length + 1 - s.length = A + 1 := ⟨g.length - s.length, by omega⟩
        rw [hA, Nat.add_mul] at hm
        refine ih _ (a :: s) (by omega) ⟨List.mem_cons_of_mem _ I.head, fun x hx => ?_, fun x hx => ?_, fun y hy hne x he => ?_, fun b hb => ?_, hs1, hs2⟩ ?_
        · rcases List.mem_cons.1 hx with rfl | hx
          · exact hoa.1
          · exact I.snd x hx
        · rcases List.mem_append.1 hx with hx | hx
          · exact I.ond x (by simp [hx])
          · have he := (hmr x).1 hx
            have := Eg_in he
            exact ⟨.step hoa.1 hah he, this.1, this.2.1⟩
        · rcases List.mem_cons.1 hy with rfl | hy
          · exact .inr (List.mem_append_right _ ((hmr x).2 he))
          · rcases I.closed y hy hne x he with h1 | h1
            · exact .inl (List.mem_cons_of_mem _ h1)
            · rcases List.mem_append.1 h1 with h1 | h1
              · exact .inr (List.mem_append_left _ h1)
              · rw [List.mem_singleton.1 h1]; exact .inl List.mem_cons_self
        · rcases I.src b hb with h1 | h1
          · exact .inl (List.mem_cons_of_mem _ h1)
          · rcases List.mem_append.1 h1 with h1 | h1
            · exact .inr (List.mem_append_left _ h1)
            · rw [List.mem_singleton.1 h1]; exact .inl List.mem_cons_self
        · rw [List.length_append, List.length_cons, show g.length + 1 - (s.length + 1) = A from by omega]
          omega
variable {o r : List Int} {par : Nat → Nat}
theorem mem_openL (R : IdomR g o r par) (b : Int) : b ∈ openL g r h ↔ BS g h b := by
  unfold openL
  rw [List.mem_map]
  constructor
  · rintro ⟨e, he, rfl⟩
    obtain ⟨h1, h2⟩ := List.mem_filter.1 he
    rw [Bool.and_eq_true, beq_iff_eq] at h2
    have h3 := (mem_edgesL g e.1 e.2).1 h1
    have h4 := Eg_in h3
    have h5 := (backL_iff R e.1 e.2 ⟨h4.1, h4.2.1⟩ ⟨h4.2.2.1, h4.2.2.2⟩).1 h2.2
    rw [h2.1] at h3 h5
    exact ⟨h3, h5⟩
  · rintro ⟨h1, h2⟩
    have h4 := Eg_in h1
    exact ⟨(b, h), List.mem_filter.2 ⟨(mem_edgesL g b h).2 h1, by rw [Bool.and_eq_true]; exact ⟨by simp, (backL_iff R b h ⟨h4.1, h4.2.1⟩ ⟨h4.2.2.1, h4.2.2.2⟩).2 h2⟩⟩, rfl⟩
/-- What graph.Body tells: the blocks of the loop that are reached, rising. -/
theorem body_some (hg : okG g = true) (hn : 0 < g.length) (hn2 : g.length ≤ 1000) (R : IdomR g o r par) {k0 : Nat} (ho : graph_Order.f k0 g = some o) (hr : graph_Idom.f k0 g = some r) (hh : -1 ≤ h ∧ h ≤ (g.length : Int)) (P : Int → Bool) (hP : ∀ x, 0 ≤ x → x < (g.length : Int) → (P x = true ↔ Rch (Eg g) x ∧ Bd g h x)) :
    ∃ k s, graph_Body.f k g h = some s ∧ ((∃ b, BS g h b) → s = upto P g.length 0) ∧ ((¬ ∃ b, BS g h b) → s = []) := by
  have hol := ordd_len R.ord
  have hel := edgesL_length g
  have hmul : g.length * g.length ≤ 1000 * 1000 := Nat.mul_le_mul hn2 hn2
  have hrl := R.lst.len
  have cond : r.length = g.length ∧ (edgesL g).length ≤ 100000000 ∧ o.length ≤ 1000000 ∧ (∀ b ∈ o, 0 ≤ b ∧ b < (g.length : Int)) ∧ -1 ≤ h ∧ h ≤ (g.length : Int) := ⟨hrl, by omega, by omega, R.ord.rng, hh.1, hh.2⟩
  by_cases hop : openL g r h = []
  · have hno : ¬ ∃ b, BS g h b := fun ⟨b, hb⟩ => by
      have := (mem_openL R b).2 hb
      rw [hop] at this
      cases this
    refine ⟨k0, [], ?_, fun h => absurd h hno, fun _ => rfl⟩
    unfold graph_Body.f
    rw [if_pos hg, hr, Option.bind_some, ho, Option.bind_some, if_pos cond, if_pos hop]
  · have hex : ∃ b, BS g h b := by
      rcases hc : openL g r h with _ | ⟨b, l⟩
      · exact absurd hc hop
      · exact ⟨b, (mem_openL R b).1 (by rw [hc]; exact List.mem_cons_self)⟩
    obtain ⟨b0, hb0⟩ := hex
    have hr0 := Eg_in hb0.1
    have hopl : (openL g r h).length ≤ 1000 * 1000 := by
      unfold openL
      rw [List.length_map]
      have := List.length_filter_le (fun e : Int × Int => e.2 == h && backL r e.1 e.2) (edgesL g)
      omega
    have hm2 : (g.length + 1 - [h].length) * (g.length + 1) ≤ 1000 * 1001 := Nat.mul_le_mul (by simp; omega) (by omega)
    obtain ⟨s', h1, h2⟩ := body_loop (g := g) (h := h) hn2 100000000 (openL g r h) [h] (Nat.le_refl _) ⟨by simp, fun x hx => by rw [List.mem_singleton.1 hx]; exact .head, fun x hx => by
        have hB := (mem_openL R x).1 hx
        have := Eg_in hB.1
        exact ⟨.src hB, this.1, this.2.1⟩, fun y hy hne => absurd (List.mem_singleton.1 hy) hne, fun b hb => .inr ((mem_openL R b).2 hb), by simp, fun x hx => by rw [List.mem_singleton.1 hx]; exact ⟨hr0.2.2.1, hr0.2.2.2⟩⟩ (by omega)
    refine ⟨k0 + 100000001, isort (o.filter fun b => s'.contains b), ?_, fun _ => ?_, fun hno => absurd ⟨b0, hb0⟩ hno⟩
    · have e1 := up (f := fun k => graph_Idom.f k g) (fun k => graph_Idom.mono g k) (m := k0 + 100000001) (by omega) hr
      have e2 := up (f := fun k => graph_Order.f k g) (fun k => graph_Order.mono k g) (m := k0 + 100000001) (by omega) ho
      have e3 := up (f := fun k => bodyLoop (predsL g) k (openL g r h) [h]) (fun k => bodyLoop_mono _ k _ _) (m := k0 + 100000001) (by omega) h1
      unfold graph_Body.f
      rw [if_pos hg, e1, Option.bind_some, e2, Option.bind_some, if_pos cond, if_neg hop, e3]
      rfl
    · have hperm := isort_perm (o.filter fun b => s'.contains b)
      have hnd : (isort (o.filter fun b => s'.contains b)).Nodup := hperm.nodup_iff.2 (R.ord.nodup.filter _)
      refine sorted_eq ?_ (upto_sorted _ _ _) (fun x => ?_)
      · refine List.Pairwise.imp_of_mem ?_ ((isort_sorted _).and hnd)
        intro a b _ _ hab
        have := hab.1
        have := hab.2
        omega
      · rw [hperm.mem_iff, List.mem_filter, List.contains_iff_mem, h2, mem_upto, reach_iff R.ord]
        constructor
        · rintro ⟨h3, h4⟩
          have := RAv.rng hn h3
          exact ⟨by omega, (hP x this.1 this.2).2 ⟨h3, h4⟩⟩
        · rintro ⟨h3, h4⟩
          exact (hP x h3.1 (by omega)).1 h4
end
section
variable {g : List (List Int)} {o r : List Int} {par : Nat → Nat}
theorem headers_some (hg : okG g = true) (hn2 : g.length ≤ 1000) (R : IdomR g o r par) {k : Nat} (hr : graph_Idom.f k g = some r) : graph_Headers.f k g = some (headL g r) := by
  have hel := edgesL_length g
  have hmul : g.length * g.length ≤ 1000 * 1000 := Nat.mul_le_mul hn2 hn2
  unfold graph_Headers.f
  rw [if_pos hg, hr, Option.bind_some, if_pos ⟨R.lst.len, by omega⟩]
theorem reducible_some (hg : okG g = true) (hn2 : g.length ≤ 1000) (R : IdomR g o r par) {k : Nat} (ho : graph_Order.f k g = some o) (hr : graph_Idom.f k g = some r) : graph_Reducible.f k g = some (redL g r o) := by
  have hol := ordd_len R.ord
  unfold graph_Reducible.f
  rw [if_pos hg, hr, Option.bind_some, ho, Option.bind_some, if_pos ⟨R.lst.len, by omega, R.ord.rng⟩]
end
theorem nums_l0 (l : List Int) (hl : l.length ≤ 1000000) : ∀ (d i : Nat), i + d = l.length → jacquardref02_Nums.l0 (d + 1) l l i = some true := by
  intro d
  induction d with
  | zero => intro i h; rw [jacquardref02_Nums.l0, if_neg (by omega)]
  | succ d ih =>
    intro i h
    rw [jacquardref02_Nums.l0, if_pos (by omega), if_pos (by omega), if_pos (by omega), if_pos rfl, w64 (by omega) (by omega)]
    exact ih (i + 1) (by omega)
theorem nums_same (l : List Int) (hl : l.length ≤ 1000000) {k : Nat} (hk : 1000001 ≤ k) : jacquardref02_Nums.f k l l = some true := by
  unfold jacquardref02_Nums.f
  rw [if_pos rfl]
  exact up (f := fun k => jacquardref02_Nums.l0 k l l 0) (fun k => jacquardref02_Nums.mono_l k _ _ _) (show l.length + 1 ≤ k by omega) (nums_l0 l hl l.length 0 (by omega))
theorem rows_l0 (l : List (List Int)) (hok : okG l = true) : ∀ (d i K : Nat), i + d = l.length → d + 1000002 ≤ K → jacquardref02_Rows.l0 K l l i = some true := by
  have hl := (okG_len hok).1
  intro d
  induction d with
  | zero =>
    intro i K h hK
    obtain ⟨K1, rfl⟩ : ∃ m, K = m + 1 := ⟨K - 1, by omega⟩
    rw [jacquardref02_Rows.l0, if_neg (by omega)]
  | succ d ih =>
    intro i K h hK
    obtain ⟨K1, rfl⟩ : ∃ m, K = m + 1 := ⟨K - 1, by omega⟩
    have hlt : i < l.length := by omega
    have e : rd_L1 l (i : Int) = l[i] := by simp [rd_L1, hlt]
    rw [jacquardref02_Rows.l0, if_pos (by omega), if_pos (by omega), if_pos (by omega), nums_same _ (by rw [e]; exact (okG_len hok).2 _ (List.getElem_mem _)) (by omega), Option.bind_some, if_pos rfl, w64 (by omega) (by omega)]
    exact ih (i + 1) K1 (by omega) (by omega)
theorem rows_same (l : List (List Int)) (hok : okG l = true) {k : Nat} (hk : 2000003 ≤ k) : jacquardref02_Rows.f k l l = some true := by
  have hl := (okG_len hok).1
  unfold jacquardref02_Rows.f
  rw [if_pos rfl]
  exact rows_l0 l hok l.length 0 k (by omega) (by omega)

/-! ### rows of clean, of next -/
theorem clean_next (g : List (List Int)) (a : Int) (ha : 0 ≤ a ∧ a < (g.length : Int)) : rd_L1 (cleanL g) a = nextL g a := by
  obtain ⟨j, rfl⟩ := Int.eq_ofNat_of_zero_le ha.1
  rw [rd_clean g j (by omega), keptL_upto]
  unfold nextL
  refine upto_congr _ _ (fun x h0 h1 => ?_)
  rw [Bool.eq_iff_iff, eB_iff, List.contains_iff_mem]
  constructor
  · exact fun h => ⟨ha.1, ha.2, h0, by omega, h⟩
  · exact fun h => h.2.2.2.2
/-! ### Preds -/
section
variable {g : List (List Int)}
theorem rpreds_l1 (hg : okG g = true) (x3 : List (List Int)) (hx3 : x3.length ≤ 1000000) (b : Int) {Q : List (List Int) → Prop} (hc : Ends (fun k => jacquardref02_Preds.l0 k g (x3 ++ [upto (fun a => eB g a b) g.length 0]) (wrap64 (b + 1))) Q) :
    ∀ (d : Nat) (x5 : List Int) (x6 : Int), 0 ≤ x6 → x6 + d = g.length → (x5.length : Int) ≤ x6 → x5 ++ upto (fun a => eB g a b) d x6 = upto (fun a => eB g a b) g.length 0 → Ends (fun k => jacquardref02_Preds.l1 k g x3 b x5 x6) Q := by
  have hl := (okG_len hg).1
  intro d
  induction d with
  | zero =>
    intro x5 x6 h0 hd h5 he
    rw [upto, List.append_nil] at he
    subst he
    refine hc.step (fun k => ?_)
    rw [jacquardref02_Preds.l1, if_neg (by omega), if_pos (by omega)]
  | succ d ih =>
    intro x5 x6 h0 hd h5 he
    have hw : wrap64 (x6 + 1) = x6 + 1 := w64 (by omega) (by omega)
    rw [upto] at he
    by_cases h : eB g x6 b = true
    · rw [if_pos h] at he
      refine Ends.late 1000003 (fun k => (jacquardref02_Preds.mono_l k).2 _ _ _ _ _) (ih (x5 ++ [x6]) (x6 + 1) (by omega) (by omega) (by rw [List.length_append]; simp; omega) (by rw [List.append_assoc]; exact he)) (fun k hk => ?_)
      rw [jacquardref02_Preds.l1, if_pos (by omega), edge_some g hg _ _ hk, Option.bind_some, if_pos h, if_pos (by omega), hw]
    · rw [if_neg h] at he
      refine Ends.late 1000003 (fun k => (jacquardref02_Preds.mono_l k).2 _ _ _ _ _) (ih x5 (x6 + 1) (by omega) (by omega) (by omega) he) (fun k hk => ?_)
      rw [jacquardref02_Preds.l1, if_pos (by omega), edge_some g hg _ _ hk, Option.bind_some, if_neg h, hw]
theorem L1_snoc (x4 : List (List Int)) (row : List Int) (a : Int) (h0 : 0 ≤ a) (h1 : a < x4.length + 1) : rd_L1 (x4 ++ [row]) a = if a = x4.length then row else rd_L1 x4 a := by
  unfold rd_L1
  rw [List.getD_eq_getElem?_getD, List.getD_eq_getElem?_getD]
  by_cases h : a = x4.length
  · rw [if_pos h, List.getElem?_append_right (by omega), show a.toNat - x4.length = 0 from by omega]
    rfl
  · rw [if_neg h, List.getElem?_append_left (by omega)]
theorem rpreds_l0 (hg : okG g = true) : ∀ (d : Nat) (x3 : List (List Int)) (x4 : Int), x4 + d = g.length → (x3.length : Int) = x4 → (∀ b, 0 ≤ b → b < x4 → rd_L1 x3 b = upto (fun a => eB g a b) g.length 0) →
    Ends (fun k => jacquardref02_Preds.l0 k g x3 x4) (fun r => r.length = g.length ∧ ∀ b, 0 ≤ b → b < (g.length : Int) → rd_L1 r b = upto (fun a => eB g a b) g.length 0) := by
  have hl := (okG_len hg).1
  intro d
  induction d with
  | zero =>
    intro x3 x4 hd h3 hx
    exact ⟨1, x3, by show jacquardref02_Preds.l0 (0 + 1) g x3 x4 = _; rw [jacquardref02_Preds.l0, if_neg (by omega)], by omega, fun b h0 h1 => hx b h0 (by omega)⟩
  | succ d ih =>
    intro x3 x4 hd h3 hx
    refine (rpreds_l1 hg x3 (by omega) x4 (by
      rw [w64 (by omega) (by omega)]
      refine ih (x3 ++ [_]) (x4 + 1) (by omega) (by rw [List.length_append]; simp; omega) (fun b h0 h1 => ?_)
      rw [L1_snoc _ _ b h0 (by omega)]
      by_cases e : b = x3.length
      · rw [if_pos e, e, h3]
      · rw [if_neg e]; exact hx b h0 (by omega)) g.length [] 0 (by omega) (by omega) (by simp) (by simp)).step (fun k => ?_)
    rw [jacquardref02_Preds.l0, if_pos (by omega)]
theorem rpreds_some (hg : okG g = true) : Ends (fun k => jacquardref02_Preds.f k g) (fun r => r = predsL g) := by
  refine (rpreds_l0 hg g.length [] 0 (by omega) rfl (fun b h0 h1 => by omega)).mono (fun r hr => ?_)
  have hl := predsL_len g
  refine List.ext_getElem (hr.1.trans hl.symm) (fun i h1 h2 => ?_)
  have e : ∀ l : List (List Int), (h : i < l.length) → l[i] = rd_L1 l (i : Int) := fun l h => by simp [rd_L1, h]
  rw [e r h1, e _ h2, hr.2 _ (by omega) (by omega), preds_upto g _ (by omega)]
end
/-! ### Order -/
theorem rover_over (g : List (List Int)) (hg : okG g = true) : ∀ (k K : Nat) (a : Int) (s r : List Bool × List Int), k + 2000005 ≤ K → 0 ≤ a → a < g.length → overL (cleanL g) k a s = some r → roverL g K a s = some r := by
  intro k
  induction k with
  | zero => intro K a s r _ _ _ h; simp [overL] at h
  | succ k ih =>
    intro K a s r hK h0 h1 h
    obtain ⟨K1, rfl⟩ : ∃ m, K = m + 1 := ⟨K - 1, by omega⟩
    rw [overL] at h
    rw [roverL, next_some g hg a (by omega), Option.bind_some]
    have hrow : (cleanL g).getD a.toNat [] = nextL g a := clean_next g a ⟨h0, h1⟩
    rw [hrow] at h
    have key : ∀ (l : List Int) (s r : List Bool × List Int), (∀ b ∈ l, 0 ≤ b ∧ b < (g.length : Int)) → l.foldlM (fun s b => if s.1.getD b.toNat false = true then some s else overL (cleanL g) k b s) s = some r →
        l.foldlM (fun s b => if s.1.getD b.toNat false = true then some s else roverL g K1 b s) s = some r := by
      intro l
      induction l with
      | nil => intro s r _ h; exact h
      | cons b l ihl =>
        intro s r hb h
        rw [List.foldlM_cons] at h ⊢
        obtain ⟨s1, h1, h2⟩ := Option.bind_eq_some_iff.1 h
        refine Option.bind_eq_some_iff.2 ⟨s1, ?_, ihl s1 r (fun x hx => hb x (List.mem_cons_of_mem _ hx)) h2⟩
        by_cases hs : s.1.getD b.toNat false = true
        · rw [if_pos hs] at h1 ⊢; exact h1
        · rw [if_neg hs] at h1 ⊢
          have hbr := hb b List.mem_cons_self
          exact ih K1 b s s1 (by omega) hbr.1 hbr.2 h1
    obtain ⟨s1, h2, h3⟩ := Option.map_eq_some_iff.1 h
    exact Option.map_eq_some_iff.2 ⟨s1, key _ _ _ (nextL_in g a) h2, h3⟩
theorem rorder_some (g : List (List Int)) (hg : okG g = true) (k K : Nat) (hK : k + 2000005 ≤ K) (r : List Int) (h : graph_Order.f k g = some r) : jacquardref02_Order.f K g = some r := by
  unfold graph_Order.f at h
  unfold jacquardref02_Order.f
  rw [if_pos hg] at h ⊢
  by_cases h0 : g.length = 0
  · rw [if_pos h0] at h ⊢; exact h
  · rw [if_neg h0] at h ⊢
    obtain ⟨s, h1, h2⟩ := Option.map_eq_some_iff.1 h
    exact Option.map_eq_some_iff.2 ⟨s, rover_over g hg k K 0 _ s hK (by omega) (by omega) h1, h2⟩
/-! ### Headers -/
section
variable {g : List (List Int)} {t : List (List Bool)} {Q : List Int → Prop}
theorem rhead_l1 (hg : okG g = true) (T : TbR g t) (x4 : List Int) (hx4 : x4.length ≤ 1000000) (h : Int) (hh : 0 ≤ h ∧ h < (g.length : Int))
    (hc1 : HdP g h → Ends (fun k => jacquardref02_Headers.l0 k g t (x4 ++ [h]) (h + 1)) Q) (hc0 : ¬ HdP g h → Ends (fun k => jacquardref02_Headers.l0 k g t x4 (h + 1)) Q) :
    ∀ (d : Nat) (x7 : Int) (x6 : Bool), 0 ≤ x7 → x7 + d = g.length → (x6 = true ↔ ∃ b, 0 ≤ b ∧ b < x7 ∧ Eg g b h ∧ Dmb (Eg g) h b) → Ends (fun k => jacquardref02_Headers.l1 k g t x4 h x6 x7) Q := by
  have hl := (okG_len hg).1
  have htl := T.len
  have hrl := (T.row h hh.1 hh.2).1
  intro d
  induction d with
  | zero =>
    intro x7 x6 h0 hd hx
    have e : x6 = true ↔ HdP g h := by
      rw [hx]
      constructor
      · rintro ⟨b, _, _, h1, h2⟩; exact ⟨b, h1, h2⟩
      · rintro ⟨b, h1, h2⟩
        have := Eg_in h1
        exact ⟨b, this.1, by omega, h1, h2⟩
    have hw : wrap64 (h + 1) = h + 1 := w64 (by omega) (by omega)
    by_cases h6 : x6 = true
    · refine (hc1 (e.1 h6)).step (fun k => ?_)
      rw [jacquardref02_Headers.l1, if_neg (by omega), if_pos h6, if_pos (by omega), hw]
    · refine (hc0 (fun hp => h6 (e.2 hp))).step (fun k => ?_)
      rw [jacquardref02_Headers.l1, if_neg (by omega), if_neg h6, hw]
  | succ d ih =>
    intro x7 x6 h0 hd hx
    have hw : wrap64 (x7 + 1) = x7 + 1 := w64 (by omega) (by omega)
    have next : ∀ v : Bool, (v = true ↔ x6 = true ∨ (Eg g x7 h ∧ Dmb (Eg g) h x7)) → Ends (fun k => jacquardref02_Headers.l1 k g t x4 h v (x7 + 1)) Q := fun v hv =>
      ih (x7 + 1) v (by omega) (by omega) (by
        rw [hv, hx]
        constructor
        · rintro (⟨b, h1, h2, h3⟩ | h3)
          · exact ⟨b, h1, by omega, h3⟩
          · exact ⟨x7, h0, by omega, h3⟩
        · rintro ⟨b, h1, h2, h3⟩
          by_cases e : b = x7
          · subst e; exact .inr h3
          · exact .inl ⟨b, h1, by omega, h3⟩)
    by_cases h6 : x6 = true
    · refine Ends.late 1000003 (fun k => (jacquardref02_Headers.mono_l k).2 _ _ _ _ _ _) (next true ⟨fun _ => .inl h6, fun _ => rfl⟩) (fun k hk => ?_)
      rw [jacquardref02_Headers.l1, if_pos (by omega), edge_some g hg _ _ hk, Option.bind_some, if_pos h6, hw]
    · by_cases he : eB g x7 h = true
      · refine Ends.late 1000003 (fun k => (jacquardref02_Headers.mono_l k).2 _ _ _ _ _ _) (next (rdOf false (rd_L6 t h) x7) ?_) (fun k hk => ?_)
        · rw [T.rd h x7 hh ⟨h0, by omega⟩]
          exact ⟨fun h => .inr ⟨he, h⟩, fun h => (h.resolve_left h6).2⟩
        · rw [jacquardref02_Headers.l1, if_pos (by omega), edge_some g hg _ _ hk, Option.bind_some, if_neg h6, if_pos he, if_pos hh.1, if_pos (by omega), if_pos h0, if_pos (by omega), hw]
      · refine Ends.late 1000003 (fun k => (jacquardref02_Headers.mono_l k).2 _ _ _ _ _ _) (next false ⟨fun h => (nomatch h), fun h => absurd (h.resolve_left h6).1 he⟩) (fun k hk => ?_)
        rw [jacquardref02_Headers.l1, if_pos (by omega), edge_some g hg _ _ hk, Option.bind_some, if_neg h6, if_neg he, hw]
theorem rhead_l0 (hg : okG g = true) (T : TbR g t) (P : Int → Bool) (hP : ∀ h, 0 ≤ h → h < (g.length : Int) → (P h = true ↔ HdP g h)) : ∀ (d : Nat) (x4 : List Int) (x5 : Int), 0 ≤ x5 → x5 + d = g.length → (x4.length : Int) ≤ x5 → x4 ++ upto P d x5 = upto P g.length 0 →
    Ends (fun k => jacquardref02_Headers.l0 k g t x4 x5) (fun r => r = upto P g.length 0) := by
  have hl := (okG_len hg).1
  intro d
  induction d with
  | zero =>
    intro x4 x5 h0 hd h4 he
    rw [upto, List.append_nil] at he
    exact ⟨1, x4, by show jacquardref02_Headers.l0 (0 + 1) g t x4 x5 = _; rw [jacquardref02_Headers.l0, if_neg (by omega)], he⟩
  | succ d ih =>
    intro x4 x5 h0 hd h4 he
    rw [upto] at he
    refine (rhead_l1 hg T x4 (by omega) x5 ⟨h0, by omega⟩ (fun hp => ?_) (fun hp => ?_) g.length 0 false (by omega) (by omega) ⟨fun h => (nomatch h), fun ⟨b, h1, h2, _⟩ => by omega⟩).step (fun k => ?_)
    · rw [if_pos ((hP x5 h0 (by omega)).2 hp)] at he
      exact ih (x4 ++ [x5]) (x5 + 1) (by omega) (by omega) (by rw [List.length_append]; simp; omega) (by rw [List.append_assoc]; exact he)
    · rw [if_neg (fun h => hp ((hP x5 h0 (by omega)).1 h))] at he
      exact ih x4 (x5 + 1) (by omega) (by omega) (by omega) he
    · rw [jacquardref02_Headers.l0, if_pos (by omega)]
end
theorem rhead_some {g : List (List Int)} {o r : List Int} {par : Nat → Nat} (hg : okG g = true) (hn : 0 < g.length) (R : IdomR g o r par) : Ends (fun k => jacquardref02_Headers.f k g) (fun s => s = headL g r) := by
  rw [headL_upto]
  exact Ends.bind (f := fun k => jacquardref02_Table.f k g) (g := fun k t => jacquardref02_Headers.l0 k g t ([] : List Int) 0) (fun k => jacquardref02_Table.mono _ k) (fun a k => (jacquardref02_Headers.mono_l k).1 _ _ _ _) (table_some g hg hn) (fun t T =>
    rhead_l0 hg T _ (fun h _ _ => by rw [List.contains_iff_mem, mem_headL R]) g.length [] 0 (by omega) (by omega) (by simp) (by simp))
/-! ### Critical -/
section
variable {g : List (List Int)} {Q : List S73 → Prop}
def crPB (g : List (List Int)) (e : Int × Int) : Bool := decide (1 < (nextL g e.1).length) && decide (1 < (rd_L1 (predsL g) e.2).length)
def crPOf (g : List (List Int)) (es : List (Int × Int)) : List S73 := (es.filter (crPB g)).map fun e => ⟨e.1, e.2⟩
theorem crOf_yes (g : List (List Int)) (e : Int × Int) (es : List (Int × Int)) (h1 : 1 < (nextL g e.1).length) (h2 : 1 < (rd_L1 (predsL g) e.2).length) : crPOf g (e :: es) = (⟨e.1, e.2⟩ : S73) :: crPOf g es := by
  unfold crPOf
  rw [List.filter_cons, if_pos (by unfold crPB; rw [decide_eq_true h1, decide_eq_true h2]; rfl), List.map_cons]
theorem crOf_no (g : List (List Int)) (e : Int × Int) (es : List (Int × Int)) (h : ¬ (1 < (nextL g e.1).length ∧ 1 < (rd_L1 (predsL g) e.2).length)) : crPOf g (e :: es) = crPOf g es := by
  unfold crPOf
  rw [List.filter_cons, if_neg (by unfold crPB; rw [Bool.and_eq_true, decide_eq_true_eq, decide_eq_true_eq]; exact h)]
theorem rcrit_l1 (hg : okG g = true) (a : Int) (ha : 0 ≤ a ∧ a < (g.length : Int)) : ∀ (d i : Nat) (x4 : List S73), i + d = (nextL g a).length → x4.length + d ≤ 4000000000000 →
    Ends (fun k => jacquardref02_Critical.l0 k g (predsL g) (x4 ++ crPOf g (((nextL g a).drop i).map fun b => (a, b))) (wrap64 (a + 1))) Q → Ends (fun k => jacquardref02_Critical.l1 k g (predsL g) x4 a (nextL g a) i) Q := by
  have hl := (okG_len hg).1
  have hpl := predsL_len g
  have hnl : (nextL g a).length ≤ g.length := upto_len (eB g a) g.length 0
  intro d
  induction d with
  | zero =>
    intro i x4 hd h4 hc
    refine hc.step (fun k => ?_)
    rw [jacquardref02_Critical.l1, if_neg (by omega), List.drop_of_length_le (by omega)]
    simp [crPOf]
  | succ d ih =>
    intro i x4 hd h4 hc
    have hlt : i < (nextL g a).length := by omega
    have hrd : rd (nextL g a) i = (nextL g a)[i] := by simp [rd, hlt]
    have hy := nextL_in g a (rd (nextL g a) i) (by rw [hrd]; exact List.getElem_mem _)
    have hw : wrap64 ((i : Int) + 1) = ((i + 1 : Nat) : Int) := by rw [w64 (by omega) (by omega)]; omega
    have hdrop : (nextL g a).drop i = rd (nextL g a) i :: (nextL g a).drop (i + 1) := by rw [hrd]; exact List.drop_eq_getElem_cons hlt
    rw [hdrop, List.map_cons] at hc
    by_cases h1 : 1 < (nextL g a).length
    · by_cases h2 : 1 < (rd_L1 (predsL g) (rd (nextL g a) i)).length
      · rw [crOf_yes g _ _ h1 h2] at hc
        refine (ih (i + 1) (x4 ++ [⟨a, rd (nextL g a) i⟩]) (by omega) (by rw [List.length_append]; simp; omega) (by rw [List.append_assoc]; exact hc)).step (fun k => ?_)
        rw [jacquardref02_Critical.l1, if_pos (by omega), if_pos (by omega), if_pos (by omega), if_pos hy.1, if_pos (by omega), if_pos (by omega), if_pos (by omega), hw]
      · rw [crOf_no g _ _ (fun h => h2 h.2)] at hc
        refine (ih (i + 1) x4 (by omega) (by omega) hc).step (fun k => ?_)
        rw [jacquardref02_Critical.l1, if_pos (by omega), if_pos (by omega), if_pos (by omega), if_pos hy.1, if_pos (by omega), if_neg (by omega), hw]
    · rw [crOf_no g _ _ (fun h => h1 h.1)] at hc
      refine (ih (i + 1) x4 (by omega) (by omega) hc).step (fun k => ?_)
      rw [jacquardref02_Critical.l1, if_pos (by omega), if_neg (by omega), hw]
theorem rcrit_l0 (hg : okG g = true) (hn : g.length ≤ 1000) : ∀ (d i : Nat) (x4 : List S73), i + d = g.length → x4.length ≤ 1000 * i → Ends (fun k => jacquardref02_Critical.l0 k g (predsL g) x4 i) (fun r => r = x4 ++ crPOf g (edgesFrom i ((cleanL g).drop i))) := by
  have hcl := cleanL_length g
  intro d
  induction d with
  | zero =>
    intro i x4 hd h4
    refine ⟨1, x4, by show jacquardref02_Critical.l0 (0 + 1) g (predsL g) x4 i = _; rw [jacquardref02_Critical.l0, if_neg (by omega)], ?_⟩
    rw [List.drop_of_length_le (by omega)]
    simp [edgesFrom, crPOf]
  | succ d ih =>
    intro i x4 hd h4
    have hlt : i < (cleanL g).length := by omega
    have hrow : (cleanL g)[i] = nextL g i := by
      rw [← clean_next g i ⟨by omega, by omega⟩]
      simp [rd_L1, hlt]
    have hnl : (nextL g i).length ≤ g.length := upto_len (eB g i) g.length 0
    rw [List.drop_eq_getElem_cons hlt, edgesFrom, hrow]
    have hcap : (crPOf g ((nextL g i).map fun b => ((i : Int), b))).length ≤ g.length := by
      unfold crPOf
      rw [List.length_map]
      refine Nat.le_trans (List.length_filter_le _ _) ?_
      rw [List.length_map]; exact hnl
    have h := (ih (i + 1) (x4 ++ crPOf g ((nextL g i).map fun b => ((i : Int), b))) (by omega) (by rw [List.length_append]; omega))
    have h2 := rcrit_l1 hg i ⟨by omega, by omega⟩ (Q := fun r => r = x4 ++ crPOf g ((nextL g i).map (fun b => ((i : Int), b)) ++ edgesFrom (i + 1) ((cleanL g).drop (i + 1)))) (nextL g i).length 0 x4 (by omega) (by omega) (by
      rw [List.drop_zero, w64 (by omega) (by omega)]
      refine h.mono (fun r hr => ?_)
      rw [hr, List.append_assoc]
      unfold crPOf
      rw [List.filter_append, List.map_append])
    refine Ends.late 2000005 (fun k => (jacquardref02_Critical.mono_l k).2 _ _ _ _ _ _) h2 (fun k hk => ?_)
    rw [jacquardref02_Critical.l0, if_pos (by omega), next_some g hg _ hk, Option.bind_some]
    rfl
theorem rcrit_some (hg : okG g = true) (hn : g.length ≤ 1000) : Ends (fun k => jacquardref02_Critical.f k g) (fun r => r = critL g) := by
  refine Ends.bind (f := fun k => jacquardref02_Preds.f k g) (g := fun k t => jacquardref02_Critical.l0 k g t ([] : List S73) 0) (fun k => jacquardref02_Preds.mono _ k) (fun a k => (jacquardref02_Critical.mono_l k).1 _ _ _ _) (rpreds_some hg) (fun p hp => ?_)
  subst hp
  refine (rcrit_l0 hg hn g.length 0 [] (by omega) (by simp)).mono (fun r hr => ?_)
  rw [hr, List.nil_append]
  unfold crPOf critL edgesL
  rw [List.drop_zero]
  refine congrArg _ (List.filter_congr (fun e he => ?_))
  have h1 := Eg_in ((mem_edgesL g e.1 e.2).1 he)
  unfold crPB
  rw [← clean_next g e.1 ⟨h1.1, h1.2.1⟩]
  rfl
end
section
variable {g : List (List Int)} {t : List (List Bool)} {Q : Bool → Prop}
theorem rred_l2 (hg : okG g = true) (T : TbR g t) (S : List Bool) (hS : S.length = g.length) (x5 b : Int) (hb : 0 ≤ b ∧ b < (g.length : Int))
    (hc1 : (∃ a, on S a ∧ NB g a b) → Ends (fun k => jacquardref02_Reducible.l1 k g t S x5 (b + 1)) Q) (hc0 : (¬ ∃ a, on S a ∧ NB g a b) → Ends (fun k => jacquardref02_Reducible.l1 k g t (S.set b.toNat false) x5 (b + 1)) Q) :
    ∀ (d : Nat) (x8 : Int) (x7 : Bool), 0 ≤ x8 → x8 + d = g.length → (x7 = true ↔ ∃ a, 0 ≤ a ∧ a < x8 ∧ on S a ∧ NB g a b) → Ends (fun k => jacquardref02_Reducible.l2 k g t S x5 b x7 x8) Q := by
  have hl := (okG_len hg).1
  have htl := T.len
  have hrl := (T.row b hb.1 hb.2).1
  intro d
  induction d with
  | zero =>
    intro x8 x7 h0 hd hx
    have hw : wrap64 (b + 1) = b + 1 := w64 (by omega) (by omega)
    have e : x7 = true ↔ ∃ a, on S a ∧ NB g a b := by
      rw [hx]
      constructor
      · rintro ⟨a, _, _, h⟩; exact ⟨a, h⟩
      · rintro ⟨a, h⟩
        have := Eg_in h.2.1
        exact ⟨a, this.1, by omega, h⟩
    by_cases h7 : x7 = true
    · refine (hc1 (e.1 h7)).step (fun k => ?_)
      rw [jacquardref02_Reducible.l2, if_neg (by omega), if_pos h7, hw]
    · refine (hc0 (fun h => h7 (e.2 h))).step (fun k => ?_)
      rw [jacquardref02_Reducible.l2, if_neg (by omega), if_neg h7, if_pos hb.1, if_pos (by omega), hw]
  | succ d ih =>
    intro x8 x7 h0 hd hx
    have hw : wrap64 (x8 + 1) = x8 + 1 := w64 (by omega) (by omega)
    have next : ∀ v : Bool, (v = true ↔ x7 = true ∨ (on S x8 ∧ NB g x8 b)) → Ends (fun k => jacquardref02_Reducible.l2 k g t S x5 b v (x8 + 1)) Q := fun v hv =>
      ih (x8 + 1) v (by omega) (by omega) (by
        rw [hv, hx]
        constructor
        · rintro (⟨a, h1, h2, h3⟩ | h3)
          · exact ⟨a, h1, by omega, h3⟩
          · exact ⟨x8, h0, by omega, h3⟩
        · rintro ⟨a, h1, h2, h3⟩
          by_cases e : a = x8
          · subst e; exact .inr h3
          · exact .inl ⟨a, h1, by omega, h3⟩)
    have mono : ∀ (v : Bool) k, LeO (jacquardref02_Reducible.l2 k g t S x5 b v (x8 + 1)) (jacquardref02_Reducible.l2 (k + 1) g t S x5 b v (x8 + 1)) := fun v k => (jacquardref02_Reducible.mono_l k).2.2.1 _ _ _ _ _ _ _
    by_cases h7 : x7 = true
    · refine Ends.late 1000003 (mono true) (next true ⟨fun _ => .inl h7, fun _ => rfl⟩) (fun k hk => ?_)
      rw [jacquardref02_Reducible.l2, if_pos (by omega), edge_some g hg _ _ hk, Option.bind_some, if_pos h7, hw]
    · by_cases he : eB g x8 b = true
      · by_cases hs : rdOf false S x8 = true
        · refine Ends.late 1000003 (mono _) (next (!(rdOf false (rd_L6 t b) x8)) ?_) (fun k hk => ?_)
          · rw [Bool.not_eq_true', ← Bool.not_eq_true, T.rd b x8 hb ⟨h0, by omega⟩]
            exact ⟨fun h => .inr ⟨on_rd.1 hs, he, h⟩, fun h => (h.resolve_left h7).2.2⟩
          · rw [jacquardref02_Reducible.l2, if_pos (by omega), edge_some g hg _ _ hk, Option.bind_some, if_neg h7, if_pos he, if_pos h0, if_pos (by omega), if_pos hs, if_pos hb.1, if_pos (by omega), if_pos (by omega), hw]
        · refine Ends.late 1000003 (mono _) (next false ⟨fun h => (nomatch h), fun h => absurd (on_rd.2 (h.resolve_left h7).1) hs⟩) (fun k hk => ?_)
          rw [jacquardref02_Reducible.l2, if_pos (by omega), edge_some g hg _ _ hk, Option.bind_some, if_neg h7, if_pos he, if_pos h0, if_pos (by omega), if_neg hs, hw]
      · refine Ends.late 1000003 (mono _) (next false ⟨fun h => (nomatch h), fun h => absurd (h.resolve_left h7).2.1 he⟩) (fun k hk => ?_)
        rw [jacquardref02_Reducible.l2, if_pos (by omega), edge_some g hg _ _ hk, Option.bind_some, if_neg h7, if_neg he, hw]
/-- From S to S' in a round: fewer; who stays has an edge; what holds itself stays. -/
structure RedStep (g : List (List Int)) (b : Int) (S S' : List Bool) : Prop where
  len : S'.length = g.length
  sub : ∀ x, 0 ≤ x → on S' x → on S x
  sup : ∀ C : Int → Prop, Sup g C → (∀ y, C y → 0 ≤ y ∧ on S y) → ∀ y, C y → on S' y
  has : ∀ y, b ≤ y → y < (g.length : Int) → on S' y → ∃ a, on S a ∧ NB g a y
theorem rred_l1 (hg : okG g = true) (T : TbR g t) (x5 : Int) : ∀ (d : Nat) (b : Int) (S : List Bool), 0 ≤ b → b + d = g.length → S.length = g.length →
    (∀ S', RedStep g b S S' → Ends (fun k => jacquardref02_Reducible.l0 k g t S' (wrap64 (x5 + 1))) Q) → Ends (fun k => jacquardref02_Reducible.l1 k g t S x5 b) Q := by
  have hl := (okG_len hg).1
  intro d
  induction d with
  | zero =>
    intro b S h0 hd hS hc
    refine (hc S ⟨hS, fun x _ h => h, fun C _ h y hy => (h y hy).2, fun y h1 h2 _ => by omega⟩).step (fun k => ?_)
    rw [jacquardref02_Reducible.l1, if_neg (by omega)]
  | succ d ih =>
    intro b S h0 hd hS hc
    refine (rred_l2 hg T S hS x5 b ⟨h0, by omega⟩ (fun hs => ?_) (fun hs => ?_) g.length 0 false (by omega) (by omega) ⟨fun h => (nomatch h), fun ⟨a, h1, h2, _⟩ => by omega⟩).step (fun k => ?_)
    · refine ih (b + 1) S (by omega) (by omega) hS (fun S' h => hc S' ⟨h.len, h.sub, h.sup, fun y h1 h2 h3 => ?_⟩)
      by_cases e : y = b
      · subst e; exact hs
      · exact h.has y (by omega) h2 h3
    · have hlen : (S.set b.toNat false).length = g.length := by simpa using hS
      have hset : ∀ x, 0 ≤ x → (on (S.set b.toNat false) x ↔ x ≠ b ∧ on S x) := fun x hx => by rw [on_setv (by omega) hx]; simp
      refine ih (b + 1) (S.set b.toNat false) (by omega) (by omega) hlen (fun S' h => hc S' ⟨h.len, fun x hx h1 => ((hset x hx).1 (h.sub x hx h1)).2, fun C hC hCS y hy => ?_, fun y h1 h2 h3 => ?_⟩)
      · refine h.sup C hC (fun z hz => ⟨(hCS z hz).1, (hset z (hCS z hz).1).2 ⟨fun e => ?_, (hCS z hz).2⟩⟩) y hy
        subst e
        obtain ⟨a, ha, hN⟩ := hC z hz
        exact hs ⟨a, (hCS a ha).2, hN⟩
      · have h4 := (hset y (by omega)).1 (h.sub y (by omega) h3)
        obtain ⟨a, ha, hN⟩ := h.has y (by omega) h2 h3
        have hr := Eg_in hN.1
        exact ⟨a, ((hset a hr.1).1 ha).2, hN⟩
    · rw [jacquardref02_Reducible.l1, if_pos (by omega)]
theorem rred_l3 (hg : okG g = true) (S : List Bool) (hS : S.length = g.length) (v : Bool) (hv : v = true ↔ ∀ x, 0 ≤ x → x < (g.length : Int) → ¬ on S x) : ∀ (d : Nat) (x10 : Int), 0 ≤ x10 → x10 + d = g.length → (∀ x, 0 ≤ x → x < x10 → ¬ on S x) → Ends (fun k => jacquardref02_Reducible.l3 k g S x10) (fun r => r = v) := by
  have hl := (okG_len hg).1
  intro d
  induction d with
  | zero =>
    intro x10 h0 hd hx
    refine ⟨1, true, by show jacquardref02_Reducible.l3 (0 + 1) g S x10 = _; rw [jacquardref02_Reducible.l3, if_neg (by omega)], (hv.2 (fun x h1 h2 => hx x h1 (by omega))).symm⟩
  | succ d ih =>
    intro x10 h0 hd hx
    have hw : wrap64 (x10 + 1) = x10 + 1 := w64 (by omega) (by omega)
    by_cases h : rdOf false S x10 = true
    · refine ⟨1, false, by show jacquardref02_Reducible.l3 (0 + 1) g S x10 = _; rw [jacquardref02_Reducible.l3, if_pos (by omega), if_pos h0, if_pos (by omega), if_pos h], ?_⟩
      cases v with
      | false => rfl
      | true => exact absurd (on_rd.1 h) (hv.1 rfl x10 h0 (by omega))
    · refine (ih (x10 + 1) (by omega) (by omega) (fun x h1 h2 => ?_)).step (fun k => ?_)
      · by_cases e : x = x10
        · subst e; exact fun hh => h (on_rd.2 hh)
        · exact hx x h1 (by omega)
      · rw [jacquardref02_Reducible.l3, if_pos (by omega), if_pos h0, if_pos (by omega), if_neg h, hw]
theorem rred_l0 (hg : okG g = true) (T : TbR g t) (v : Bool) (S0 : List Bool)
    (hv : ∀ S : List Bool, S.length = g.length → (∀ x, 0 ≤ x → on S x → on S0 x) → (∀ C : Int → Prop, Sup g C → (∀ y, C y → 0 ≤ y ∧ on S0 y) → ∀ y, C y → on S y) → (∀ y, 0 ≤ y → y < (g.length : Int) → on S y → ∃ a, on S a ∧ NB g a y) → (v = true ↔ ∀ x, 0 ≤ x → x < (g.length : Int) → ¬ on S x)) :
    ∀ (d : Nat) (x5 : Int) (S : List Bool), 0 ≤ x5 → x5 + d = g.length → S.length = g.length → (∀ x, 0 ≤ x → on S x → on S0 x) → (∀ C : Int → Prop, Sup g C → (∀ y, C y → 0 ≤ y ∧ on S0 y) → ∀ y, C y → on S y) → ((∀ y, 0 ≤ y → y < (g.length : Int) → on S y → ∃ a, on S a ∧ NB g a y) ∨ g.length ≤ cf S + d) →
    Ends (fun k => jacquardref02_Reducible.l0 k g t S x5) (fun r => r = v) := by
  have hl := (okG_len hg).1
  intro d
  induction d with
  | zero =>
    intro x5 S h0 hd hS h1 h2 h3
    have hst : ∀ y, 0 ≤ y → y < (g.length : Int) → on S y → ∃ a, on S a ∧ NB g a y := by
      rcases h3 with h3 | h3
      · exact h3
      · intro y hy0 hy1 hy
        exfalso
        have hno : ∀ (t : List Bool) (i : Nat), t.getD i false = true → cf t < t.length := by
          intro t
          induction t with
          | nil => intro i h; simp at h
          | cons x t ih =>
            intro i h
            unfold cf at ih ⊢
            have hle : List.count false t ≤ t.length := List.count_le_length
            cases i with
            | zero => simp at h; subst h; simp; omega
            | succ i =>
              have := ih i (by simpa using h)
              rw [List.count_cons, List.length_cons]
              split <;> omega
        have := hno S y.toNat hy
        omega
    refine (rred_l3 hg S hS v (hv S hS h1 h2 hst) g.length 0 (by omega) (by omega) (fun x hx hx2 => by omega)).step (fun k => ?_)
    rw [jacquardref02_Reducible.l0, if_neg (by omega)]
  | succ d ih =>
    intro x5 S h0 hd hS h1 h2 h3
    refine (rred_l1 hg T x5 g.length 0 S (by omega) (by omega) hS (fun S' h => ?_)).step (fun k => by rw [jacquardref02_Reducible.l0, if_pos (by omega)])
    rw [w64 (by omega) (by omega)]
    have hsub : ∀ i, S'.getD i false = true → S.getD i false = true := fun i hi => getD_on.2 (h.sub _ (by omega) (getD_on.1 hi))
    refine ih (x5 + 1) S' (by omega) (by omega) h.len (fun x hx hx2 => h1 x hx (h.sub x hx hx2)) (fun C hC hCS => h.sup C hC (fun y hy => ⟨(hCS y hy).1, h2 C hC hCS y hy⟩)) ?_
    by_cases hc : cf S' ≤ cf S
    · have e := cf_eq S' S (h.len.trans hS.symm) hsub hc
      rw [e]
      rw [e] at h
      exact .inl (fun y h4 h5 h6 => h.has y h4 h5 h6)
    · rcases h3 with h3 | h3
      · refine .inl (fun y h4 h5 h6 => ?_)
        have hSup : Sup g (fun z => (0 ≤ z ∧ z < (g.length : Int)) ∧ on S z) := by
          intro z hz
          obtain ⟨a, ha, hN⟩ := h3 z hz.1.1 hz.1.2 hz.2
          have hr := Eg_in hN.1
          exact ⟨a, ⟨⟨hr.1, hr.2.1⟩, ha⟩, hN⟩
        obtain ⟨a, ha, hN⟩ := h3 y h4 h5 (h.sub y h4 h6)
        have hr := Eg_in hN.1
        exact ⟨a, h.sup _ hSup (fun z hz => ⟨hz.1.1, hz.2⟩) a ⟨⟨hr.1, hr.2.1⟩, ha⟩, hN⟩
      · exact .inr (by omega)
end
theorem rred_some {g : List (List Int)} {o r : List Int} {par : Nat → Nat} (hg : okG g = true) (hn : 0 < g.length) (R : IdomR g o r par) : Ends (fun k => jacquardref02_Reducible.f k g) (fun v => v = redL g r o) := by
  refine Ends.bind (f := fun k => jacquardref02_Table.f k g) (g := fun k t => (jacquardref02_Without.f k g (-1)).bind fun s => jacquardref02_Reducible.l0 k g t s 0) (fun k => jacquardref02_Table.mono _ k) (fun a k => LeO.bind (jacquardref02_Without.mono _ _ k) (fun s => (jacquardref02_Reducible.mono_l k).1 _ _ _ _)) (table_some g hg hn) (fun t T => ?_)
  refine Ends.bind (f := fun k => jacquardref02_Without.f k g (-1)) (g := fun k s => jacquardref02_Reducible.l0 k g t s 0) (fun k => jacquardref02_Without.mono _ _ k) (fun a k => (jacquardref02_Reducible.mono_l k).1 _ _ _ _) (wo_some g hg hn (-1)) (fun all hall => ?_)
  refine rred_l0 hg T (redL g r o) all (fun S hS h1 h2 h3 => ?_) g.length 0 all (by omega) (by omega) hall.1 (fun x _ h => h) (fun C _ h y hy => (h y hy).2) (.inr (by omega))
  constructor
  · intro hred x hx0 hx1 hx
    rw [redL_iff R] at hred
    have key : ∀ (k u : Nat), u ≤ k → u < o.length → ¬ on S (at_ o u) := by
      intro k
      induction k with
      | zero =>
        intro u hk hu hon
        obtain ⟨a, ha, hN⟩ := h3 _ (R.ord.rng _ (at_mem hu)).1 (R.ord.rng _ (at_mem hu)).2 hon
        have hr := Eg_in hN.1
        obtain ⟨i, hi, rfl⟩ := mem_at ((reach_iff R.ord a).2 ((hall.2 a hr.1).1 (h1 a hr.1 ha)))
        have := hred i u hi hu hN
        omega
      | succ k ih =>
        intro u hk hu hon
        obtain ⟨a, ha, hN⟩ := h3 _ (R.ord.rng _ (at_mem hu)).1 (R.ord.rng _ (at_mem hu)).2 hon
        have hr := Eg_in hN.1
        obtain ⟨i, hi, rfl⟩ := mem_at ((reach_iff R.ord a).2 ((hall.2 a hr.1).1 (h1 a hr.1 ha)))
        have := hred i u hi hu hN
        exact ih i (by omega) hi ha
    obtain ⟨u, hu, rfl⟩ := mem_at ((reach_iff R.ord x).2 ((hall.2 x hx0).1 (h1 x hx0 hx)))
    exact key u u (Nat.le_refl _) hu hx
  · intro hno
    refine Classical.byContradiction (fun hred => ?_)
    obtain ⟨C, hC, hCo, y, hy⟩ := red_sup R hred
    have hr := R.ord.rng y (hCo y hy)
    refine hno y hr.1 hr.2 (h2 C hC (fun z hz => ?_) y hy)
    have hz0 := (R.ord.rng z (hCo z hz)).1
    exact ⟨hz0, (hall.2 z hz0).2 ((reach_iff R.ord z).1 (hCo z hz))⟩
end Go.Proofs.Ytnmeomdjhjgnfaa.X
end
