/- A part of the proof of the law of DomWays: lemmas and walks, out of this session's texts, with what the claim does not use struck out. -/
import Derived.Test.YtkcimaibaicdcaaD6
import Derived.Test.YtkcimaibaicdcaaD11
import Derived.Test.YtkcimaibaicdcaaD14
section
namespace Go.Proofs.Ytkcimaibaicdcaa.P
open Go.RowKit Go.Proofs.YtkcimaibaicdcaaW.PrintWords Go.Proofs.YtkcimaibaicdcaaW.PrintLast Go.Proofs.YtkcimaibaicdcaaW.PrintMore
attribute [local go_sem] max2_int min2_int max_two min_two max_three min_three max_four min_four   
set_option linter.unusedVariables false
set_option linter.unusedSimpArgs false
def dom_Dom.f (k : Nat) (a0_0 : ByteArray) (a0_1 : Bool) (l0_2 : List Int) (a0_3 : Int) (l0_4 : List (S54)) (a1 : Int) (a2 : Int) : Option (Bool) := if a1 < 0 then (some false) else (if a1 ≥ (l0_4.length : Int) then (some false) else (if a2 < 0 then (some false) else (if a2 ≥ (l0_4.length : Int) then (some false) else ((dom_over.f k a0_0 a0_1 l0_2 a0_3 l0_4).bind fun t441 => (if 0 ≤ a1 then (if a1 < (t441.length : Int) then (if 0 ≤ a2 then (if a2 < ((rd_L9 t441 a1).length : Int) then (some (rdOf false (rd_L9 t441 a1) a2)) else (none)) else (none)) else (none)) else (none))))))
theorem dom_Dom.mono : ∀ a0 a1 a2 a3 a4 a5 a6 k, LeO (dom_Dom.f k a0 a1 a2 a3 a4 a5 a6) (dom_Dom.f (k + 1) a0 a1 a2 a3 a4 a5 a6) := by
 intro a0 a1 a2 a3 a4 a5 a6 k
 unfold dom_Dom.f
 repeat' first
   | (with_reducible exact dom_over.mono _ _ _ _ _ _)
   | (with_reducible exact LeO.refl _)
   | (with_reducible exact LeO.none _)
   | (with_reducible refine LeO.ite ?_ ?_)
   | (with_reducible refine LeO.bind ?_ (fun _ => ?_))
   | exact dom_over.mono _ _ _ _ _ _
   | exact LeO.none _
   | refine LeO.ite ?_ ?_
   | refine LeO.bind ?_ (fun _ => ?_)
set_option maxHeartbeats 8000000 in
set_option maxRecDepth 100000 in
theorem dom_Dom.calls (k : Nat) (a0_0 : ByteArray) (a0_1 : Bool) (A0_2 : Option Addr) (c0_2 : Nat) (l0_2 : List Int) (a0_3 : Int) (A0_4 : Option Addr) (c0_4 : Nat) (l0_4 : List (S54)) (a1 : Int) (a2 : Int) (r : Bool) (w : World) (hr0_2 : Kd.C (Kd.int .i64) w A0_2 l0_2.length l0_2) (hc0_2 : l0_2.length ≤ c0_2) (hr0_4 : Kd.C k54 w A0_4 l0_4.length l0_4) (hc0_4 : l0_4.length ≤ c0_4) (h : dom_Dom.f k a0_0 a0_1 l0_2 a0_3 l0_4 a1 a2 = some r) :
  Calls Try.prog 33 #[.agg #[.string a0_0, .bool a0_1, .slice A0_2 l0_2.length c0_2, .int .i64 a0_3, .slice A0_4 l0_4.length c0_4], .int .i64 a1, .int .i64 a2] w fun e w' => e = .returned (.bool r) ∧ Below w.heap.size w w' := by
 have hu25 := Try.underlying25
 have HR0_2 := Aside0.mk hr0_2
 have HC0_2 := Aside0.mk hc0_2
 clear hr0_2 hc0_2
 have HR0_4 := Aside0.mk hr0_4
 have HC0_4 := Aside0.mk hc0_4
 clear hr0_4 hc0_4; have HB := Aside0.mk (Below.refl w.heap.size w)
 have H : (if a1 < 0 then (some false) else (if a1 ≥ (l0_4.length : Int) then (some false) else (if a2 < 0 then (some false) else (if a2 ≥ (l0_4.length : Int) then (some false) else ((dom_over.f k a0_0 a0_1 l0_2 a0_3 l0_4).bind fun t441 => (if 0 ≤ a1 then (if a1 < (t441.length : Int) then (if 0 ≤ a2 then (if a2 < ((rd_L9 t441 a1).length : Int) then (some (rdOf false (rd_L9 t441 a1) a2)) else (none)) else (none)) else (none)) else (none))))))) = some r := h
 clear h
 by_cases c4 : a1 < 0
 ·rw [if_pos c4] at H
  have c4b0 : decide (a1 < 0) = true := decide_eq_true c4
  clear c4
  obtain rfl := Option.some.inj H
  go_enter Try.func33, Try.ntmps33
  go_wp2_with (first | ((with_reducible refine gate_dst (N := 3) rfl ?_); (try (refine gate_guard (by rfl) ?_; dsimp only)); refine box_event ?hg (N := 3) ?hd (cs := #[.string a0_0, .bool a0_1, .slice A0_2 l0_2.length c0_2, .int .i64 a0_3, .slice A0_4 l0_4.length c0_4]) (t := 25) ?hr ?_; (case hd => rfl); (case hg => rfl); (case hr => first | (go_simp; done) | (go_simp; rfl)); intro gb440 hg w5 hbox hb; have n0_ := Aside0.mk (below_step (by repeat (first | (with_reducible first | exact HB.out | apply below_alloc | apply pw_below_drewN | apply below_drew1) | exact HB.out)) hb); have n1_ := Aside0.mk (hbox); have n2_ := Aside0.mk ((by rw [hg]; exact (below_size (by repeat (first | (with_reducible first | exact HB.out | apply below_alloc | apply pw_below_drewN | apply below_drew1) | exact HB.out))) : w.heap.size ≤ gb440)); have n3_ := Aside0.mk ((by rw [hg]; exact (below_size (by repeat (first | (with_reducible first | exact HB.out | apply below_alloc | apply pw_below_drewN | apply below_drew1) | exact HB.out))) : w.heap.size ≤ gb440)); clear HB; have HB := n0_; have BK440 := n1_; have GW440 := n2_; have GE440 := n3_; clear n0_ n1_ n2_ n3_; clear hb hbox hg))
  go_ret
  exact ⟨by first | rfl | (simp [errW_none, errW_some] <;> rfl) | (simp [*, errW_none, errW_some] <;> rfl), by repeat (first | (with_reducible first | exact HB.out | apply below_alloc | apply pw_below_drewN | apply below_drew1 | refine below_set ?_ GE440.out) | exact HB.out)⟩
 ·rw [if_neg c4] at H
  have c4b0 : decide (a1 < 0) = false := decide_eq_false c4
  clear c4
  by_cases c6 : a1 ≥ (l0_4.length : Int)
  ·rw [if_pos c6] at H
   have c6b0 : decide ((l0_4.length : Int) ≤ a1) = true := decide_eq_true c6
   clear c6
   obtain rfl := Option.some.inj H
   go_enter Try.func33, Try.ntmps33
   go_wp2_with (first | ((with_reducible refine gate_dst (N := 3) rfl ?_); (try (refine gate_guard (by rfl) ?_; dsimp only)); refine box_event ?hg (N := 3) ?hd (cs := #[.string a0_0, .bool a0_1, .slice A0_2 l0_2.length c0_2, .int .i64 a0_3, .slice A0_4 l0_4.length c0_4]) (t := 25) ?hr ?_; (case hd => rfl); (case hg => rfl); (case hr => first | (go_simp; done) | (go_simp; rfl)); intro gb440 hg w7 hbox hb; have n0_ := Aside0.mk (below_step (by repeat (first | (with_reducible first | exact HB.out | apply below_alloc | apply pw_below_drewN | apply below_drew1) | exact HB.out)) hb); have n1_ := Aside0.mk (hbox); have n2_ := Aside0.mk ((by rw [hg]; exact (below_size (by repeat (first | (with_reducible first | exact HB.out | apply below_alloc | apply pw_below_drewN | apply below_drew1) | exact HB.out))) : w.heap.size ≤ gb440)); have n3_ := Aside0.mk ((by rw [hg]; exact (below_size (by repeat (first | (with_reducible first | exact HB.out | apply below_alloc | apply pw_below_drewN | apply below_drew1) | exact HB.out))) : w.heap.size ≤ gb440)); clear HB; have HB := n0_; have BK440 := n1_; have GW440 := n2_; have GE440 := n3_; clear n0_ n1_ n2_ n3_; clear hb hbox hg; have hcz8_0 : w7.cell? ⟨gb440, 0, none⟩ = some (.string a0_0) := (blk_cell BK440.out 0).trans rfl; have hcz8_1 : w7.cell? ⟨gb440, 1, none⟩ = some (.bool a0_1) := (blk_cell BK440.out 1).trans rfl; have hcz8_2 : w7.cell? ⟨gb440, 2, none⟩ = some (.slice A0_2 l0_2.length c0_2) := (blk_cell BK440.out 2).trans rfl; have hcz8_3 : w7.cell? ⟨gb440, 3, none⟩ = some (.int .i64 a0_3) := (blk_cell BK440.out 3).trans rfl; have hcz8_4 : w7.cell? ⟨gb440, 4, none⟩ = some (.slice A0_4 l0_4.length c0_4) := (blk_cell BK440.out 4).trans rfl; have hfz8_0 := blk_frozen BK440.out 0; have hfz8_1 := blk_frozen BK440.out 1; have hfz8_2 := blk_frozen BK440.out 2; have hfz8_3 := blk_frozen BK440.out 3; have hfz8_4 := blk_frozen BK440.out 4))
   go_ret
   exact ⟨by first | rfl | (simp [errW_none, errW_some] <;> rfl) | (simp [*, errW_none, errW_some] <;> rfl), by repeat (first | (with_reducible first | exact HB.out | apply below_alloc | apply pw_below_drewN | apply below_drew1 | refine below_set ?_ GE440.out) | exact HB.out)⟩
  ·rw [if_neg c6] at H
   have c6b0 : decide ((l0_4.length : Int) ≤ a1) = false := decide_eq_false c6
   clear c6
   by_cases c9 : a2 < 0
   ·rw [if_pos c9] at H
    have c9b0 : decide (a2 < 0) = true := decide_eq_true c9
    clear c9
    obtain rfl := Option.some.inj H
    go_enter Try.func33, Try.ntmps33
    go_wp2_with (first | ((with_reducible refine gate_dst (N := 3) rfl ?_); (try (refine gate_guard (by rfl) ?_; dsimp only)); refine box_event ?hg (N := 3) ?hd (cs := #[.string a0_0, .bool a0_1, .slice A0_2 l0_2.length c0_2, .int .i64 a0_3, .slice A0_4 l0_4.length c0_4]) (t := 25) ?hr ?_; (case hd => rfl); (case hg => rfl); (case hr => first | (go_simp; done) | (go_simp; rfl)); intro gb440 hg w10 hbox hb; have n0_ := Aside0.mk (below_step (by repeat (first | (with_reducible first | exact HB.out | apply below_alloc | apply pw_below_drewN | apply below_drew1) | exact HB.out)) hb); have n1_ := Aside0.mk (hbox); have n2_ := Aside0.mk ((by rw [hg]; exact (below_size (by repeat (first | (with_reducible first | exact HB.out | apply below_alloc | apply pw_below_drewN | apply below_drew1) | exact HB.out))) : w.heap.size ≤ gb440)); have n3_ := Aside0.mk ((by rw [hg]; exact (below_size (by repeat (first | (with_reducible first | exact HB.out | apply below_alloc | apply pw_below_drewN | apply below_drew1) | exact HB.out))) : w.heap.size ≤ gb440)); clear HB; have HB := n0_; have BK440 := n1_; have GW440 := n2_; have GE440 := n3_; clear n0_ n1_ n2_ n3_; clear hb hbox hg; have hcz11_0 : w10.cell? ⟨gb440, 0, none⟩ = some (.string a0_0) := (blk_cell BK440.out 0).trans rfl; have hcz11_1 : w10.cell? ⟨gb440, 1, none⟩ = some (.bool a0_1) := (blk_cell BK440.out 1).trans rfl; have hcz11_2 : w10.cell? ⟨gb440, 2, none⟩ = some (.slice A0_2 l0_2.length c0_2) := (blk_cell BK440.out 2).trans rfl; have hcz11_3 : w10.cell? ⟨gb440, 3, none⟩ = some (.int .i64 a0_3) := (blk_cell BK440.out 3).trans rfl; have hcz11_4 : w10.cell? ⟨gb440, 4, none⟩ = some (.slice A0_4 l0_4.length c0_4) := (blk_cell BK440.out 4).trans rfl; have hfz11_0 := blk_frozen BK440.out 0; have hfz11_1 := blk_frozen BK440.out 1; have hfz11_2 := blk_frozen BK440.out 2; have hfz11_3 := blk_frozen BK440.out 3; have hfz11_4 := blk_frozen BK440.out 4))
    go_ret
    exact ⟨by first | rfl | (simp [errW_none, errW_some] <;> rfl) | (simp [*, errW_none, errW_some] <;> rfl), by repeat (first | (with_reducible first | exact HB.out | apply below_alloc | apply pw_below_drewN | apply below_drew1 | refine below_set ?_ GE440.out) | exact HB.out)⟩
   ·rw [if_neg c9] at H
    have c9b0 : decide (a2 < 0) = false := decide_eq_false c9
    clear c9
    by_cases c12 : a2 ≥ (l0_4.length : Int)
    ·rw [if_pos c12] at H
     have c12b0 : decide ((l0_4.length : Int) ≤ a2) = true := decide_eq_true c12
     clear c12
     obtain rfl := Option.some.inj H
     go_enter Try.func33, Try.ntmps33
     go_wp2_with (first | ((with_reducible refine gate_dst (N := 3) rfl ?_); (try (refine gate_guard (by rfl) ?_; dsimp only)); refine box_event ?hg (N := 3) ?hd (cs := #[.string a0_0, .bool a0_1, .slice A0_2 l0_2.length c0_2, .int .i64 a0_3, .slice A0_4 l0_4.length c0_4]) (t := 25) ?hr ?_; (case hd => rfl); (case hg => rfl); (case hr => first | (go_simp; done) | (go_simp; rfl)); intro gb440 hg w13 hbox hb; have n0_ := Aside0.mk (below_step (by repeat (first | (with_reducible first | exact HB.out | apply below_alloc | apply pw_below_drewN | apply below_drew1) | exact HB.out)) hb); have n1_ := Aside0.mk (hbox); have n2_ := Aside0.mk ((by rw [hg]; exact (below_size (by repeat (first | (with_reducible first | exact HB.out | apply below_alloc | apply pw_below_drewN | apply below_drew1) | exact HB.out))) : w.heap.size ≤ gb440)); have n3_ := Aside0.mk ((by rw [hg]; exact (below_size (by repeat (first | (with_reducible first | exact HB.out | apply below_alloc | apply pw_below_drewN | apply below_drew1) | exact HB.out))) : w.heap.size ≤ gb440)); clear HB; have HB := n0_; have BK440 := n1_; have GW440 := n2_; have GE440 := n3_; clear n0_ n1_ n2_ n3_; clear hb hbox hg; have hcz14_0 : w13.cell? ⟨gb440, 0, none⟩ = some (.string a0_0) := (blk_cell BK440.out 0).trans rfl; have hcz14_1 : w13.cell? ⟨gb440, 1, none⟩ = some (.bool a0_1) := (blk_cell BK440.out 1).trans rfl; have hcz14_2 : w13.cell? ⟨gb440, 2, none⟩ = some (.slice A0_2 l0_2.length c0_2) := (blk_cell BK440.out 2).trans rfl; have hcz14_3 : w13.cell? ⟨gb440, 3, none⟩ = some (.int .i64 a0_3) := (blk_cell BK440.out 3).trans rfl; have hcz14_4 : w13.cell? ⟨gb440, 4, none⟩ = some (.slice A0_4 l0_4.length c0_4) := (blk_cell BK440.out 4).trans rfl; have hfz14_0 := blk_frozen BK440.out 0; have hfz14_1 := blk_frozen BK440.out 1; have hfz14_2 := blk_frozen BK440.out 2; have hfz14_3 := blk_frozen BK440.out 3; have hfz14_4 := blk_frozen BK440.out 4))
     go_ret
     exact ⟨by first | rfl | (simp [errW_none, errW_some] <;> rfl) | (simp [*, errW_none, errW_some] <;> rfl), by repeat (first | (with_reducible first | exact HB.out | apply below_alloc | apply pw_below_drewN | apply below_drew1 | refine below_set ?_ GE440.out) | exact HB.out)⟩
    ·rw [if_neg c12] at H
     have c12b0 : decide ((l0_4.length : Int) ≤ a2) = false := decide_eq_false c12
     clear c12
     replace H := Option.bind_eq_some_iff.mp H
     obtain ⟨t441, A150, H⟩ := H
     replace H : (if 0 ≤ a1 then (if a1 < (t441.length : Int) then (if 0 ≤ a2 then (if a2 < ((rd_L9 t441 a1).length : Int) then (some (rdOf false (rd_L9 t441 a1) a2)) else (none)) else (none)) else (none)) else (none)) = some r := H
     have A15 := Aside0.mk A150
     clear A150
     by_cases c16 : 0 ≤ a1
     ·rw [if_pos c16] at H
      have c16b0 : decide (0 ≤ a1) = true := decide_eq_true c16
      clear c16
      by_cases c17 : a1 < (t441.length : Int)
      ·rw [if_pos c17] at H
       have c17b0 : decide (a1 < (t441.length : Int)) = true := decide_eq_true c17
       clear c17
       by_cases c18 : 0 ≤ a2
       ·rw [if_pos c18] at H
        have c18b0 : decide (0 ≤ a2) = true := decide_eq_true c18
        clear c18
        by_cases c19 : a2 < ((rd_L9 t441 a1).length : Int)
        ·rw [if_pos c19] at H
         have c19b0 : decide (a2 < ((rd_L9 t441 a1).length : Int)) = true := decide_eq_true c19
         clear c19
         obtain rfl := Option.some.inj H
         go_enter Try.func33, Try.ntmps33
         go_wp2_with (first | ((with_reducible refine gate_dst (N := 3) rfl ?_); (try (refine gate_guard (by rfl) ?_; dsimp only)); refine box_event ?hg (N := 3) ?hd (cs := #[.string a0_0, .bool a0_1, .slice A0_2 l0_2.length c0_2, .int .i64 a0_3, .slice A0_4 l0_4.length c0_4]) (t := 25) ?hr ?_; (case hd => rfl); (case hg => rfl); (case hr => first | (go_simp; done) | (go_simp; rfl)); intro gb440 hg w20 hbox hb; have n0_ := Aside0.mk (below_step (by repeat (first | (with_reducible first | exact HB.out | apply below_alloc | apply pw_below_drewN | apply below_drew1) | exact HB.out)) hb); have n1_ := Aside0.mk (hbox); have n2_ := Aside0.mk ((by rw [hg]; exact (below_size (by repeat (first | (with_reducible first | exact HB.out | apply below_alloc | apply pw_below_drewN | apply below_drew1) | exact HB.out))) : w.heap.size ≤ gb440)); have n3_ := Aside0.mk ((by rw [hg]; exact (below_size (by repeat (first | (with_reducible first | exact HB.out | apply below_alloc | apply pw_below_drewN | apply below_drew1) | exact HB.out))) : w.heap.size ≤ gb440)); clear HB; have HB := n0_; have BK440 := n1_; have GW440 := n2_; have GE440 := n3_; clear n0_ n1_ n2_ n3_; clear hb hbox hg; have hcz21_0 : w20.cell? ⟨gb440, 0, none⟩ = some (.string a0_0) := (blk_cell BK440.out 0).trans rfl; have hcz21_1 : w20.cell? ⟨gb440, 1, none⟩ = some (.bool a0_1) := (blk_cell BK440.out 1).trans rfl; have hcz21_2 : w20.cell? ⟨gb440, 2, none⟩ = some (.slice A0_2 l0_2.length c0_2) := (blk_cell BK440.out 2).trans rfl; have hcz21_3 : w20.cell? ⟨gb440, 3, none⟩ = some (.int .i64 a0_3) := (blk_cell BK440.out 3).trans rfl; have hcz21_4 : w20.cell? ⟨gb440, 4, none⟩ = some (.slice A0_4 l0_4.length c0_4) := (blk_cell BK440.out 4).trans rfl; have hfz21_0 := blk_frozen BK440.out 0; have hfz21_1 := blk_frozen BK440.out 1; have hfz21_2 := blk_frozen BK440.out 2; have hfz21_3 := blk_frozen BK440.out 3; have hfz21_4 := blk_frozen BK440.out 4) | ((with_reducible refine gate_callee (f := 68) rfl ?_); refine goesL_ (some 28) rfl rfl Try.func68 (by kernel_rfl) rfl #[.agg #[.string a0_0, .bool a0_1, .slice A0_2 l0_2.length c0_2, .int .i64 a0_3, .slice A0_4 l0_4.length c0_4]] rfl (by (try simp only [List.map_toArray, List.map_cons, List.map_nil]); first | done | rfl | (simp only [List.length_drop, List.length_take]; rfl)) ?_; (with_reducible refine (dom_over.calls k a0_0 a0_1 _ _ l0_2 a0_3 _ _ l0_4 t441 _ ?side1 ?side2 ?side3 ?side4 A15.out).mono ?_); (case side1 => repeat (first | exact (Kd.C_below HR0_2.out HB.out) | (with_reducible refine Kd.C_alloc ?_ _) | (with_reducible refine Kd.C_drewN ?_ _) | (with_reducible refine Kd.C_drew ?_))); (case side2 => exact HC0_2.out); (case side3 => repeat (first | exact (Kd.C_below HR0_4.out HB.out) | (with_reducible refine Kd.C_alloc ?_ _) | (with_reducible refine Kd.C_drewN ?_ _) | (with_reducible refine Kd.C_drew ?_))); (case side4 => exact HC0_4.out); rintro e w22 ⟨v442, rfl, ho0, hb⟩; refine ⟨_, rfl, ?_⟩; have n0_ := Aside0.mk (Kd.S_lower ho0 (below_size (by repeat (first | (with_reducible first | exact HB.out | apply below_alloc | apply pw_below_drewN | apply below_drew1 | refine below_set ?_ GE440.out) | exact HB.out)))); have n1_ := Aside0.mk (blk_below (g := gb440) (o := .cells #[.string a0_0, .bool a0_1, .slice A0_2 l0_2.length c0_2, .int .i64 a0_3, .slice A0_4 l0_4.length c0_4] 25 (0, 0)) (by (with_reducible repeat (first | refine blk_drewN ?_ _ | refine blk_drew ?_ | refine blk_alloc ?_ _)); exact BK440.out) hb); have n2_ := Aside0.mk (below_step (by repeat (first | (with_reducible first | exact HB.out | apply below_alloc | apply pw_below_drewN | apply below_drew1 | refine below_set ?_ GE440.out) | exact HB.out)) hb); clear BK440; clear HB; have HO443 := n0_; have BK440 := n1_; have HB := n2_; clear n0_ n1_ n2_; (try clear hb); (try clear hb2); (try clear hk); (try clear hi); (try clear ho0); obtain ⟨Ao23, co23, eo23⟩ := Kd.S_slice HO443.out; subst eo23; have p444 : 0 ≤ (a1 : Int) := of_decide_eq_true (by first | (with_reducible assumption) | assumption); have q444 : a1 < (t441.length : Int) := of_decide_eq_true (by first | (with_reducible assumption) | assumption); obtain ⟨ad444, A444_0, c444_0, e444, hx444_0, hl444_0, hi444_0⟩ := at_L9 (Kd.S_reads' HO443.out).2.2 a1 p444 q444; cases e444; obtain ⟨ce444, hce444, hMe444, hcc444⟩ := Kd.S_get HO443.out [] a1 p444 (by first | exact q444 | exact of_decide_eq_true (by first | (with_reducible assumption) | assumption) | (have e_ := (Kd.S_reads' HO443.out).1; omega)); obtain ⟨ve444_0, rfl, ge444_0⟩ := hMe444; have hv444_0 := hcc444 0 _ rfl; rw [Nat.add_zero, show ((Kd.slice 4 Kd.bool)).sz = 1 from rfl, Nat.mul_one] at hv444_0; replace hv444_0 := Option.some.inj (hv444_0.symm.trans hx444_0); rw [hv444_0] at ge444_0; have HL444_0 := Aside0.mk (show Kd.R Kd.bool 4 _ _ _ _ (rd_L9 t441 a1) from ge444_0); clear hv444_0 ge444_0; clear hcc444 hce444; have HR444_0 := Aside0.mk hi444_0; have HC444_0 := Aside0.mk hl444_0; clear hi444_0 hl444_0; replace p444 := eq_true p444; replace q444 := eq_true q444; have p445 : 0 ≤ (a2 : Int) := of_decide_eq_true (by first | (with_reducible assumption) | assumption); have q445 : a2 < ((rd_L9 t441 a1).length : Int) := of_decide_eq_true (by first | (with_reducible assumption) | assumption); obtain ⟨ad445, e445, hx445_0⟩ := Kd.at_bool (by repeat (first | (with_reducible exact HR444_0.out) | (with_reducible refine Kd.C_alloc ?_ _) | (with_reducible refine Kd.C_drewN ?_ _) | (with_reducible refine Kd.C_drew ?_) | exact HR444_0.out)) a2 p445 q445; cases e445; replace p445 := eq_true p445; replace q445 := eq_true q445))
         go_ret
         exact ⟨by first | rfl | (simp [errW_none, errW_some] <;> rfl) | (simp [*, errW_none, errW_some] <;> rfl), by repeat (first | (with_reducible first | exact HB.out | apply below_alloc | apply pw_below_drewN | apply below_drew1 | refine below_set ?_ GE440.out) | exact HB.out)⟩
        ·rw [if_neg c19] at H
         exact absurd H (by simp)
       ·rw [if_neg c18] at H
        exact absurd H (by simp)
      ·rw [if_neg c17] at H
       exact absurd H (by simp)
     ·rw [if_neg c16] at H
      exact absurd H (by simp)
end Go.Proofs.Ytkcimaibaicdcaa.P
end
section
namespace Go.Proofs.Ytkcimaibaicdcaa.P
open Go.RowKit Go.Proofs.YtkcimaibaicdcaaW.PrintWords Go.Proofs.YtkcimaibaicdcaaW.PrintLast Go.Proofs.YtkcimaibaicdcaaW.PrintMore
attribute [local go_sem] max2_int min2_int max_two min_two max_three min_three max_four min_four   
set_option linter.unusedVariables false
set_option linter.unusedSimpArgs false
mutual
def flow_Prev.l0 : Nat → List (List Int) → Int → Int → ByteArray → Bool → List Int → Int → List (S54) → Option ((List (List Int)))
 | 0, _, _, _, _, _, _, _, _ => none
 | k + 1, x3, x13, x14, x199000, x199001, x199002, x199003, x199004 => if x14 < x13 then ((flow_Next.f k x199000 x199001 x199002 x199003 x199004 x14).bind fun t202 => (flow_Prev.l1 k x3 x14 x13 x14 t202 (t202.length : Int) 0 x199000 x199001 x199002 x199003 x199004)) else (some x3)
def flow_Prev.l1 : Nat → List (List Int) → Int → Int → Int → List Int → Int → Int → ByteArray → Bool → List Int → Int → List (S54) → Option ((List (List Int)))
 | 0, _, _, _, _, _, _, _, _, _, _, _, _ => none
 | k + 1, x3, x4, x13, x14, x19, x20, x21, x199000, x199001, x199002, x199003, x199004 => if x21 < x20 then (if 0 ≤ x21 then (if x21 < (x19.length : Int) then (if 0 ≤ (rd x19 x21) then (if (rd x19 x21) < (x3.length : Int) then (if (rd_L1 x3 (rd x19 x21)).length < 17592186044416 then (flow_Prev.l1 k (x3.set ((rd x19 x21) : Int).toNat ((rd_L1 x3 (rd x19 x21)) ++ [x4])) x4 x13 x14 x19 x20 (wrap64 (x21 + 1)) x199000 x199001 x199002 x199003 x199004) else (none)) else (none)) else (none)) else (none)) else (none)) else (flow_Prev.l0 k x3 x13 (wrap64 (x14 + 1)) x199000 x199001 x199002 x199003 x199004)
end
def flow_Prev.f (k : Nat) (a0_0 : ByteArray) (a0_1 : Bool) (l0_2 : List Int) (a0_3 : Int) (l0_4 : List (S54)) : Option ((List (List Int))) := if 0 ≤ (l0_4.length : Int) then (if ((l0_4.length : Int) : Int).toNat ≤ 11728124029610 then (flow_Prev.l0 k (List.replicate ((l0_4.length : Int) : Int).toNat []) (l0_4.length : Int) 0 a0_0 a0_1 l0_2 a0_3 l0_4) else (none)) else (none)
theorem flow_Prev.mono_l : ∀ k, (∀ y0 y1 y2 y3 y4 y5 y6 y7, LeO (flow_Prev.l0 k y0 y1 y2 y3 y4 y5 y6 y7) (flow_Prev.l0 (k + 1) y0 y1 y2 y3 y4 y5 y6 y7)) ∧ (∀ y0 y1 y2 y3 y4 y5 y6 y7 y8 y9 y10 y11, LeO (flow_Prev.l1 k y0 y1 y2 y3 y4 y5 y6 y7 y8 y9 y10 y11) (flow_Prev.l1 (k + 1) y0 y1 y2 y3 y4 y5 y6 y7 y8 y9 y10 y11))
 | 0 => ⟨fun _ _ _ _ _ _ _ _ r h => by simp [flow_Prev.l0] at h, fun _ _ _ _ _ _ _ _ _ _ _ _ r h => by simp [flow_Prev.l1] at h⟩
 | k + 1 => by
  obtain ⟨ih0, ih1⟩ := flow_Prev.mono_l k
  refine ⟨?_, ?_⟩
  ·intro y0 y1 y2 y3 y4 y5 y6 y7
   unfold flow_Prev.l0
   repeat' first
   | (with_reducible exact ih0 _ _ _ _ _ _ _ _)
   | (with_reducible exact ih1 _ _ _ _ _ _ _ _ _ _ _ _)
   | (with_reducible exact flow_Next.mono _ _ _ _ _ _ _)
   | (with_reducible exact LeO.refl _)
   | (with_reducible exact LeO.none _)
   | (with_reducible refine LeO.ite ?_ ?_)
   | (with_reducible refine LeO.bind ?_ (fun _ => ?_))
   | exact ih0 _ _ _ _ _ _ _ _
   | exact ih1 _ _ _ _ _ _ _ _ _ _ _ _
   | exact flow_Next.mono _ _ _ _ _ _ _
   | exact LeO.none _
   | refine LeO.ite ?_ ?_
   | refine LeO.bind ?_ (fun _ => ?_)
  ·intro y0 y1 y2 y3 y4 y5 y6 y7 y8 y9 y10 y11
   unfold flow_Prev.l1
   repeat' first
   | (with_reducible exact ih0 _ _ _ _ _ _ _ _)
   | (with_reducible exact ih1 _ _ _ _ _ _ _ _ _ _ _ _)
   | (with_reducible exact flow_Next.mono _ _ _ _ _ _ _)
   | (with_reducible exact LeO.refl _)
   | (with_reducible exact LeO.none _)
   | (with_reducible refine LeO.ite ?_ ?_)
   | (with_reducible refine LeO.bind ?_ (fun _ => ?_))
   | exact ih0 _ _ _ _ _ _ _ _
   | exact ih1 _ _ _ _ _ _ _ _ _ _ _ _
   | exact flow_Next.mono _ _ _ _ _ _ _
   | exact LeO.none _
   | refine LeO.ite ?_ ?_
   | refine LeO.bind ?_ (fun _ => ?_)
theorem flow_Prev.mono : ∀ a0 a1 a2 a3 a4 k, LeO (flow_Prev.f k a0 a1 a2 a3 a4) (flow_Prev.f (k + 1) a0 a1 a2 a3 a4) := by
 intro a0 a1 a2 a3 a4 k
 obtain ⟨ih0, ih1⟩ := flow_Prev.mono_l k
 unfold flow_Prev.f
 repeat' first
   | (with_reducible exact ih0 _ _ _ _ _ _ _ _)
   | (with_reducible exact ih1 _ _ _ _ _ _ _ _ _ _ _ _)
   | (with_reducible exact flow_Next.mono _ _ _ _ _ _ _)
   | (with_reducible exact LeO.refl _)
   | (with_reducible exact LeO.none _)
   | (with_reducible refine LeO.ite ?_ ?_)
   | (with_reducible refine LeO.bind ?_ (fun _ => ?_))
   | exact ih0 _ _ _ _ _ _ _ _
   | exact ih1 _ _ _ _ _ _ _ _ _ _ _ _
   | exact flow_Next.mono _ _ _ _ _ _ _
   | exact LeO.none _
   | refine LeO.ite ?_ ?_
   | refine LeO.bind ?_ (fun _ => ?_)
set_option maxHeartbeats 8000000 in
set_option maxRecDepth 100000 in
theorem flow_Prev.calls (k : Nat) (a0_0 : ByteArray) (a0_1 : Bool) (A0_2 : Option Addr) (c0_2 : Nat) (l0_2 : List Int) (a0_3 : Int) (A0_4 : Option Addr) (c0_4 : Nat) (l0_4 : List (S54)) (r : List (List Int)) (w : World) (hr0_2 : Kd.C (Kd.int .i64) w A0_2 l0_2.length l0_2) (hc0_2 : l0_2.length ≤ c0_2) (hr0_4 : Kd.C k54 w A0_4 l0_4.length l0_4) (hc0_4 : l0_4.length ≤ c0_4) (h : flow_Prev.f k a0_0 a0_1 l0_2 a0_3 l0_4 = some r) :
  Calls Try.prog 22 #[.agg #[.string a0_0, .bool a0_1, .slice A0_2 l0_2.length c0_2, .int .i64 a0_3, .slice A0_4 l0_4.length c0_4]] w fun e w' => ∃ v0_ : Value, e = .returned (v0_) ∧ Kd.S (Kd.slice 3 (Kd.int .i64)) 22 w' w.heap.size (fun _ => True) v0_ r ∧ Below w.heap.size w w' := by
 have hu25 := Try.underlying25
 have HR0_2 := Aside0.mk hr0_2
 have HC0_2 := Aside0.mk hc0_2
 clear hr0_2 hc0_2
 have HR0_4 := Aside0.mk hr0_4
 have HC0_4 := Aside0.mk hc0_4
 clear hr0_4 hc0_4; have HB := Aside0.mk (Below.refl w.heap.size w)
 have H : (if 0 ≤ (l0_4.length : Int) then (if ((l0_4.length : Int) : Int).toNat ≤ 11728124029610 then (flow_Prev.l0 k (List.replicate ((l0_4.length : Int) : Int).toNat []) (l0_4.length : Int) 0 a0_0 a0_1 l0_2 a0_3 l0_4) else (none)) else (none)) = some r := h
 clear h
 by_cases c2 : 0 ≤ (l0_4.length : Int)
 ·rw [if_pos c2] at H
  have c2b0 := eq_true c2
  have c2b1 : decide (0 ≤ (l0_4.length : Int)) = true := decide_eq_true c2
  clear c2
  by_cases c3 : ((l0_4.length : Int) : Int).toNat ≤ 11728124029610
  ·rw [if_pos c3] at H
   have c3b0 := eq_true c3
   have c3b1 : decide (((l0_4.length : Int) : Int).toNat ≤ 11728124029610) = true := decide_eq_true c3
   clear c3
   obtain ⟨y199, hy199⟩ : ∃ y_ : List (List Int), y_ = (List.replicate ((l0_4.length : Int) : Int).toNat []) := ⟨_, rfl⟩
   replace H : (flow_Prev.l0 k y199 (l0_4.length : Int) 0 a0_0 a0_1 l0_2 a0_3 l0_4) = some r := by first | (rw [hy199]; with_reducible exact H) | (have H2_ := (Option.bind_some _ _).symm.trans H; rw [hy199]; with_reducible exact H2_) | (have H2_ := (Option.bind_some _ _).symm.trans H; with_reducible exact H2_) | with_reducible exact H | (rw [hy199]; exact H) | exact H
   have Ny199 := Aside0.mk hy199
   clear hy199
   have H' := Aside0.mk H
   clear H
   go_enter Try.func22, Try.ntmps22
   go_wp2_with (first | ((with_reducible refine gate_dst (N := 1) rfl ?_); refine box_event ?hg (N := 1) ?hd (cs := #[.string a0_0, .bool a0_1, .slice A0_2 l0_2.length c0_2, .int .i64 a0_3, .slice A0_4 l0_4.length c0_4]) (t := 25) ?hr ?_; (case hd => rfl); (case hg => rfl); (case hr => first | (go_simp; done) | (go_simp; rfl)); intro gb198 hg w4 hbox hb; have n0_ := Aside0.mk (below_step (by repeat (first | (with_reducible first | exact HB.out | apply below_alloc | apply pw_below_drewN | apply below_drew1) | exact HB.out)) hb); have n1_ := Aside0.mk (hbox); have n2_ := Aside0.mk ((by rw [hg]; exact (below_size (by repeat (first | (with_reducible first | exact HB.out | apply below_alloc | apply pw_below_drewN | apply below_drew1) | exact HB.out))) : w.heap.size ≤ gb198)); have n3_ := Aside0.mk ((by rw [hg]; exact (below_size (by repeat (first | (with_reducible first | exact HB.out | apply below_alloc | apply pw_below_drewN | apply below_drew1) | exact HB.out))) : w.heap.size ≤ gb198)); clear HB; have HB := n0_; have BK198 := n1_; have GW198 := n2_; have GE198 := n3_; clear n0_ n1_ n2_ n3_; clear hb hbox hg; have hcz5_0 : w4.cell? ⟨gb198, 0, none⟩ = some (.string a0_0) := (blk_cell BK198.out 0).trans rfl; have hcz5_1 : w4.cell? ⟨gb198, 1, none⟩ = some (.bool a0_1) := (blk_cell BK198.out 1).trans rfl; have hcz5_2 : w4.cell? ⟨gb198, 2, none⟩ = some (.slice A0_2 l0_2.length c0_2) := (blk_cell BK198.out 2).trans rfl; have hcz5_3 : w4.cell? ⟨gb198, 3, none⟩ = some (.int .i64 a0_3) := (blk_cell BK198.out 3).trans rfl; have hcz5_4 : w4.cell? ⟨gb198, 4, none⟩ = some (.slice A0_4 l0_4.length c0_4) := (blk_cell BK198.out 4).trans rfl; have hfz5_0 := blk_frozen BK198.out 0; have hfz5_1 := blk_frozen BK198.out 1; have hfz5_2 := blk_frozen BK198.out 2; have hfz5_3 := blk_frozen BK198.out 3; have hfz5_4 := blk_frozen BK198.out 4) | ((with_reducible refine gate_dst (N := 10) rfl ?_); refine Kd.S_make (Kd.slice 3 (Kd.int .i64)) _ 22 rfl (N := 10) rfl 31 _ _ rfl (l0_4.length : Int) rfl rfl Try.underlying31 (.slice none 0 0) 24 info22 rfl (by decide) (by omega) [] (ok := fun _ => True) (okp := fun _ => True) ⟨_, rfl, Kd.R_nil _ _ _ _ _⟩ (fun _ hk => hk) trivial (of_decide_eq_true (by first | (with_reducible assumption) | assumption)) (Nat.le_trans (Nat.mul_le_mul_right _ (of_decide_eq_true (by first | (with_reducible assumption) | assumption) : (l0_4.length : Int).toNat ≤ 11728124029610)) (by omega)) (Below.refl _ _) (Nat.le_refl _) ?_; intro v200 w6 ho7 hb hg_ hnew_; clear hg_ hnew_; (first | rw [← Ny199.out] at ho7 | (simp only [Int.reduceToNat] at ho7; rw [← Ny199.out] at ho7)); have n0_ := Aside0.mk (Kd.S_lower ho7 (below_size (by repeat (first | (with_reducible first | exact HB.out | apply below_alloc | apply pw_below_drewN | apply below_drew1 | refine below_set ?_ GE198.out) | exact HB.out)))); have n1_ := Aside0.mk (blk_below (g := gb198) (o := .cells #[.string a0_0, .bool a0_1, .slice A0_2 l0_2.length c0_2, .int .i64 a0_3, .slice A0_4 l0_4.length c0_4] 25 (0, 0)) (by (with_reducible repeat (first | refine blk_drewN ?_ _ | refine blk_drew ?_ | refine blk_alloc ?_ _)); exact BK198.out) hb); have n2_ := Aside0.mk (below_step (by repeat (first | (with_reducible first | exact HB.out | apply below_alloc | apply pw_below_drewN | apply below_drew1 | refine below_set ?_ GE198.out) | exact HB.out)) hb); clear BK198; clear HB; have HO201 := n0_; have BK198 := n1_; have HB := n2_; clear n0_ n1_ n2_; clear hb ho7; have hcz8_0 : w6.cell? ⟨gb198, 0, none⟩ = some (.string a0_0) := (blk_cell BK198.out 0).trans rfl; have hcz8_1 : w6.cell? ⟨gb198, 1, none⟩ = some (.bool a0_1) := (blk_cell BK198.out 1).trans rfl; have hcz8_2 : w6.cell? ⟨gb198, 2, none⟩ = some (.slice A0_2 l0_2.length c0_2) := (blk_cell BK198.out 2).trans rfl; have hcz8_3 : w6.cell? ⟨gb198, 3, none⟩ = some (.int .i64 a0_3) := (blk_cell BK198.out 3).trans rfl; have hcz8_4 : w6.cell? ⟨gb198, 4, none⟩ = some (.slice A0_4 l0_4.length c0_4) := (blk_cell BK198.out 4).trans rfl; have hfz8_0 := blk_frozen BK198.out 0; have hfz8_1 := blk_frozen BK198.out 1; have hfz8_2 := blk_frozen BK198.out 2; have hfz8_3 := blk_frozen BK198.out 3; have hfz8_4 := blk_frozen BK198.out 4))
   go_loopg [14] k (fun kq v14 w' => ∃ (x3_1 : List (List Int)) (x14_1 : Int), v14 = .int .i64 x14_1 ∧ Aside0 (flow_Prev.l0 kq x3_1 (l0_4.length : Int) x14_1 a0_0 a0_1 l0_2 a0_3 l0_4 = some r) ∧ Aside0 (kq ≤ k) ∧ Aside0 (Kd.S (Kd.slice 3 (Kd.int .i64)) 22 w' w.heap.size (fun _ => True) v200 x3_1) ∧ Aside0 (w'.heap[gb198]? = some (.cells #[.string a0_0, .bool a0_1, (.slice A0_2 l0_2.length c0_2), .int .i64 a0_3, (.slice A0_4 l0_4.length c0_4)] 25 (0, 0))) ∧ Aside0 (Below w.heap.size w w'))
   case atStart => exact ⟨(y199), (0), (by first | rfl | (simp; done) | (simp [*]; done)), H', ⟨Nat.le_refl _⟩, ⟨by (with_reducible repeat (first | apply Kd.S_alloc | apply Kd.S_drewN | apply Kd.S_drew)); exact HO201.out⟩, ⟨by (with_reducible repeat (first | refine blk_drewN ?_ _ | refine blk_drew ?_ | refine blk_alloc ?_ _)); exact BK198.out⟩, ⟨by repeat (first | (with_reducible first | exact HB.out | apply below_alloc | apply pw_below_drewN | apply below_drew1 | refine below_set ?_ GE198.out) | exact HB.out)⟩⟩
   case round =>
    clear H'
    try clear c2
    try clear c2b0
    try clear c2b1
    try clear p2
    try clear c3
    try clear c3b0
    try clear c3b1
    try clear hcz5_0
    try clear hcz5_1
    try clear hcz5_2
    try clear hcz5_3
    try clear hcz5_4
    try clear hcz8_0
    try clear hcz8_1
    try clear hcz8_2
    try clear hcz8_3
    try clear hcz8_4
    try clear hfz5_0
    try clear hfz5_1
    try clear hfz5_2
    try clear hfz5_3
    try clear hfz5_4
    try clear hfz8_0
    try clear hfz8_1
    try clear hfz8_2
    try clear hfz8_3
    try clear hfz8_4
    obtain ⟨x3_1, x14_1, rfl, HA, HK1, HO_3, BK198, HB⟩ := hrel
    cases gk with
    | zero => exact absurd HA.out (by simp [flow_Prev.l0])
    | succ k1 =>
     have H := HA.out
     clear HA
     simp only [flow_Prev.l0] at H
     by_cases c9 : x14_1 < (l0_4.length : Int)
     ·rw [if_pos c9] at H
      have c9b0 : decide (x14_1 < (l0_4.length : Int)) = true := decide_eq_true c9
      clear c9
      replace H := Option.bind_eq_some_iff.mp H
      obtain ⟨t202, A100, H⟩ := H
      replace H : (flow_Prev.l1 k1 x3_1 x14_1 (l0_4.length : Int) x14_1 t202 (t202.length : Int) 0 a0_0 a0_1 l0_2 a0_3 l0_4) = some r := H
      have A10 := Aside0.mk A100
      clear A100
      have H' := Aside0.mk H
      clear H
      have hcz11_0 : wr.cell? ⟨gb198, 0, none⟩ = some (.string a0_0) := (blk_cell BK198.out 0).trans rfl
      have hcz11_1 : wr.cell? ⟨gb198, 1, none⟩ = some (.bool a0_1) := (blk_cell BK198.out 1).trans rfl
      have hcz11_2 : wr.cell? ⟨gb198, 2, none⟩ = some (.slice A0_2 l0_2.length c0_2) := (blk_cell BK198.out 2).trans rfl
      have hcz11_3 : wr.cell? ⟨gb198, 3, none⟩ = some (.int .i64 a0_3) := (blk_cell BK198.out 3).trans rfl
      have hcz11_4 : wr.cell? ⟨gb198, 4, none⟩ = some (.slice A0_4 l0_4.length c0_4) := (blk_cell BK198.out 4).trans rfl
      have hfz11_0 := blk_frozen BK198.out 0
      have hfz11_1 := blk_frozen BK198.out 1
      have hfz11_2 := blk_frozen BK198.out 2
      have hfz11_3 := blk_frozen BK198.out 3
      have hfz11_4 := blk_frozen BK198.out 4
      go_wp2_with (first | ((with_reducible refine gate_callee (f := 19) rfl ?_); refine goesL_ (some 19) rfl rfl Try.func19 (by kernel_rfl) rfl #[.agg #[.string a0_0, .bool a0_1, .slice A0_2 l0_2.length c0_2, .int .i64 a0_3, .slice A0_4 l0_4.length c0_4], .int .i64 x14_1] rfl (by (try simp only [List.map_toArray, List.map_cons, List.map_nil]); first | done | rfl | (simp only [List.length_drop, List.length_take]; rfl)) ?_; (with_reducible refine (flow_Next.calls k1 a0_0 a0_1 _ _ l0_2 a0_3 _ _ l0_4 x14_1 t202 _ ?side1 ?side2 ?side3 ?side4 A10.out).mono ?_); (case side1 => repeat (first | exact (Kd.C_below HR0_2.out HB.out) | (with_reducible refine Kd.C_alloc ?_ _) | (with_reducible refine Kd.C_drewN ?_ _) | (with_reducible refine Kd.C_drew ?_))); (case side2 => exact HC0_2.out); (case side3 => repeat (first | exact (Kd.C_below HR0_4.out HB.out) | (with_reducible refine Kd.C_alloc ?_ _) | (with_reducible refine Kd.C_drewN ?_ _) | (with_reducible refine Kd.C_drew ?_))); (case side4 => exact HC0_4.out); rintro e w12 ⟨v203, rfl, ho0, hb⟩; refine ⟨_, rfl, ?_⟩; have n0_ := Aside0.mk (Kd.S_elder' (by (with_reducible repeat (first | apply Kd.S_alloc | apply Kd.S_drewN | apply Kd.S_drew)); exact HO_3.out) (Kd.R_base ho0) hb); have n1_ := Aside0.mk (Kd.R_lower ho0 (below_size (by repeat (first | (with_reducible first | exact HB.out | apply below_alloc | apply pw_below_drewN | apply below_drew1 | refine below_set ?_ GE198.out) | exact HB.out)))); have n2_ := Aside0.mk (blk_below (g := gb198) (o := .cells #[.string a0_0, .bool a0_1, .slice A0_2 l0_2.length c0_2, .int .i64 a0_3, .slice A0_4 l0_4.length c0_4] 25 (0, 0)) (by (with_reducible repeat (first | refine blk_drewN ?_ _ | refine blk_drew ?_ | refine blk_alloc ?_ _)); exact BK198.out) hb); have n3_ := Aside0.mk (below_step (by repeat (first | (with_reducible first | exact HB.out | apply below_alloc | apply pw_below_drewN | apply below_drew1 | refine below_set ?_ GE198.out) | exact HB.out)) hb); clear HO_3; clear BK198; clear HB; have HO_3 := n0_; have HO204 := n1_; have BK198 := n2_; have HB := n3_; clear n0_ n1_ n2_ n3_; (try clear hb); (try clear hb2); (try clear hk); (try clear hi); (try clear ho0); obtain ⟨Ao13, co13, eo13⟩ := Kd.R_slice HO204.out; subst eo13))
      go_loopg [21] k1 (fun kq v21 w' => ∃ (x3_2 : List (List Int)) (x21_2 : Int), v21 = .int .i64 x21_2 ∧ Aside0 (flow_Prev.l1 kq x3_2 x14_1 (l0_4.length : Int) x14_1 t202 (t202.length : Int) x21_2 a0_0 a0_1 l0_2 a0_3 l0_4 = some r) ∧ Aside0 (kq ≤ k1) ∧ Aside0 (Kd.S (Kd.slice 3 (Kd.int .i64)) 22 w' w.heap.size (fun k_ => some k_ ≠ ((.slice Ao13 t202.length co13) : Value).ownBlock) v200 x3_2) ∧ Aside0 (Kd.R (Kd.int .i64) 3 w' w.heap.size (fun _ => True) (.slice Ao13 t202.length co13) t202) ∧ Aside0 (w'.heap[gb198]? = some (.cells #[.string a0_0, .bool a0_1, (.slice A0_2 l0_2.length c0_2), .int .i64 a0_3, (.slice A0_4 l0_4.length c0_4)] 25 (0, 0))) ∧ Aside0 (Below w.heap.size w w'))
      case atStart => exact ⟨(x3_1), (0), (by first | rfl | (simp; done) | (simp [*]; done)), H', ⟨Nat.le_refl _⟩, ⟨by (with_reducible repeat (first | apply Kd.S_alloc | apply Kd.S_drewN | apply Kd.S_drew)); exact Kd.S_mono HO_3.out (fun _ hk => hk.2)⟩, ⟨by (with_reducible repeat (first | apply Kd.R_alloc | apply Kd.R_drewN | apply Kd.R_drew)); exact HO204.out⟩, ⟨by (with_reducible repeat (first | refine blk_drewN ?_ _ | refine blk_drew ?_ | refine blk_alloc ?_ _)); exact BK198.out⟩, ⟨by repeat (first | (with_reducible first | exact HB.out | apply below_alloc | apply pw_below_drewN | apply below_drew1 | refine below_set ?_ GE198.out) | exact HB.out)⟩⟩
      case round =>
       clear H'
       try clear c1
       try clear c2
       try clear c2b0
       try clear c2b1
       try clear p2
       try clear c3
       try clear c3b0
       try clear c3b1
       try clear c9
       try clear c9b0
       try clear hcz11_0
       try clear hcz11_1
       try clear hcz11_2
       try clear hcz11_3
       try clear hcz11_4
       try clear hcz5_0
       try clear hcz5_1
       try clear hcz5_2
       try clear hcz5_3
       try clear hcz5_4
       try clear hcz8_0
       try clear hcz8_1
       try clear hcz8_2
       try clear hcz8_3
       try clear hcz8_4
       try clear hfz11_0
       try clear hfz11_1
       try clear hfz11_2
       try clear hfz11_3
       try clear hfz11_4
       try clear hfz5_0
       try clear hfz5_1
       try clear hfz5_2
       try clear hfz5_3
       try clear hfz5_4
       try clear hfz8_0
       try clear hfz8_1
       try clear hfz8_2
       try clear hfz8_3
       try clear hfz8_4
       try clear p2
       obtain ⟨x3_2, x21_2, rfl, HA, HK2, HO_3, HO_19, BK198, HB⟩ := hrel
       cases gk with
       | zero => exact absurd HA.out (by simp [flow_Prev.l1])
       | succ k2 =>
        have H := HA.out
        clear HA
        simp only [flow_Prev.l1] at H
        by_cases c14 : x21_2 < (t202.length : Int)
        ·rw [if_pos c14] at H
         have c14b0 : decide (x21_2 < (t202.length : Int)) = true := decide_eq_true c14
         clear c14
         by_cases c15 : 0 ≤ x21_2
         ·rw [if_pos c15] at H
          have c15b0 : decide (0 ≤ x21_2) = true := decide_eq_true c15
          clear c15
          by_cases c16 : x21_2 < (t202.length : Int)
          ·rw [if_pos c16] at H
           have c16b0 : decide (x21_2 < (t202.length : Int)) = true := decide_eq_true c16
           clear c16
           by_cases c17 : 0 ≤ (rd t202 x21_2)
           ·rw [if_pos c17] at H
            have c17b0 : decide (0 ≤ (rd t202 x21_2)) = true := decide_eq_true c17
            clear c17
            by_cases c18 : (rd t202 x21_2) < (x3_2.length : Int)
            ·rw [if_pos c18] at H
             have c18b0 : decide ((rd t202 x21_2) < (x3_2.length : Int)) = true := decide_eq_true c18
             clear c18
             by_cases c19 : (rd_L1 x3_2 (rd t202 x21_2)).length < 17592186044416
             ·rw [if_pos c19] at H
              have LMc19 := Aside0.mk c19
              clear c19
              obtain ⟨y207, hy207⟩ : ∃ y_ : List Int, y_ = ((rd_L1 x3_2 (rd t202 x21_2)) ++ [x14_1]) := ⟨_, rfl⟩
              replace H : (flow_Prev.l1 k2 (x3_2.set ((rd t202 x21_2) : Int).toNat y207) x14_1 (l0_4.length : Int) x14_1 t202 (t202.length : Int) (wrap64 (x21_2 + 1)) a0_0 a0_1 l0_2 a0_3 l0_4) = some r := by first | (rw [hy207]; with_reducible exact H) | (have H2_ := (Option.bind_some _ _).symm.trans H; rw [hy207]; with_reducible exact H2_) | (have H2_ := (Option.bind_some _ _).symm.trans H; with_reducible exact H2_) | with_reducible exact H | (rw [hy207]; exact H) | exact H
              have Ny207 := Aside0.mk hy207
              clear hy207
              obtain ⟨y210, hy210⟩ : ∃ y_ : List (List Int), y_ = (x3_2.set ((rd t202 x21_2) : Int).toNat y207) := ⟨_, rfl⟩
              replace H : (flow_Prev.l1 k2 y210 x14_1 (l0_4.length : Int) x14_1 t202 (t202.length : Int) (wrap64 (x21_2 + 1)) a0_0 a0_1 l0_2 a0_3 l0_4) = some r := by first | (rw [hy210]; with_reducible exact H) | (have H2_ := (Option.bind_some _ _).symm.trans H; rw [hy210]; with_reducible exact H2_) | (have H2_ := (Option.bind_some _ _).symm.trans H; with_reducible exact H2_) | with_reducible exact H | (rw [hy210]; exact H) | exact H
              have Ny210 := Aside0.mk hy210
              clear hy210
              have H' := Aside0.mk H
              clear H
              have p205 : 0 ≤ (x21_2 : Int) := of_decide_eq_true (by first | (with_reducible assumption) | assumption)
              have q205 : x21_2 < (t202.length : Int) := of_decide_eq_true (by first | (with_reducible assumption) | assumption)
              obtain ⟨ad205, e205, hx205_0⟩ := Kd.at_int (Kd.R_reads' HO_19.out).2.2 x21_2 p205 q205
              cases e205
              replace p205 := eq_true p205
              replace q205 := eq_true q205
              obtain ⟨Ao21, co21, eo21⟩ := Kd.S_slice HO_3.out
              subst eo21
              have p206 : 0 ≤ ((rd t202 x21_2) : Int) := of_decide_eq_true (by first | (with_reducible assumption) | assumption)
              have q206 : (rd t202 x21_2) < (x3_2.length : Int) := of_decide_eq_true (by first | (with_reducible assumption) | assumption)
              obtain ⟨ad206, A206_0, c206_0, e206, hx206_0, hl206_0, hi206_0⟩ := at_L1 (Kd.S_reads' HO_3.out).2.2 (rd t202 x21_2) p206 q206
              cases e206
              obtain ⟨ce206, hce206, hMe206, hcc206⟩ := Kd.S_get HO_3.out [] (rd t202 x21_2) p206 (by first | exact q206 | exact of_decide_eq_true (by first | (with_reducible assumption) | assumption) | (have e_ := (Kd.S_reads' HO_3.out).1; omega))
              obtain ⟨ve206_0, rfl, ge206_0⟩ := hMe206
              have hv206_0 := hcc206 0 _ rfl
              rw [Nat.add_zero, show ((Kd.slice 3 (Kd.int .i64))).sz = 1 from rfl, Nat.mul_one] at hv206_0
              replace hv206_0 := Option.some.inj (hv206_0.symm.trans hx206_0)
              rw [hv206_0] at ge206_0
              have HL206_0 := Aside0.mk (show Kd.R (Kd.int .i64) 3 _ _ _ _ (rd_L1 x3_2 (rd t202 x21_2)) from ge206_0); clear hv206_0 ge206_0
              have HX206_0 := Aside0.mk hx206_0
              clear hcc206 hce206
              have HR206_0 := Aside0.mk hi206_0
              have HC206_0 := Aside0.mk hl206_0
              clear hi206_0 hl206_0
              replace p206 := eq_true p206
              replace q206 := eq_true q206
              obtain ⟨go22, co22, eo22, gb22, gl22, cl22, HG22⟩ := Kd.S_form HO_3.out (by have h_ : ((rd t202 x21_2) : Int) < ((x3_2.length : Int) : Int) := of_decide_eq_true (by first | (with_reducible assumption) | assumption); have h2_ : 0 ≤ ((rd t202 x21_2) : Int) := (of_decide_eq_true (by first | (with_reducible assumption) | assumption)); omega)
              (first | cases eo22 | (injection eo22 with ea_ en_ ec_; (first | subst ea_ | (injection ea_ with ea_; subst ea_)); subst ec_; clear en_))
              have GB22 := Aside0.mk gb22
              have GG22 := Aside0.mk HG22
              clear gb22 gl22 HG22
              (first | simp only [add_plain] at hx206_0 | skip)
              obtain ⟨oki22, ce22, hcl22, hM22, hcc22, _, _, hH22⟩ := Kd.S_elem HO_3.out [] ((rd t202 x21_2) : Int) (of_decide_eq_true (by first | (with_reducible assumption) | assumption)) (by have h_ : ((rd t202 x21_2) : Int) < ((x3_2.length : Int) : Int) := of_decide_eq_true (by first | (with_reducible assumption) | assumption); first | exact h_ | (have e_ := (Kd.S_reads' HO_3.out).1; omega) | simpa using h_)
              obtain ⟨ve22_0, rfl, ge22_0⟩ := hM22
              have hv22 := hcc22 0 _ rfl
              have hX22 := HX206_0.out
              (try simp only [add_plain] at hX22)
              (try simp only [Nat.add_zero] at hv22)
              (try rw [show ((Kd.slice 3 (Kd.int .i64))).sz = 1 from rfl, Nat.mul_one] at hv22)
              replace hv22 := Option.some.inj (hv22.symm.trans hX22)
              subst hv22
              clear hX22 hcc22 hcl22; have UU22 := Aside0.mk (show Kd.R (Kd.int .i64) 3 _ w.heap.size oki22 (.slice A206_0 (rd_L1 x3_2 (rd t202 x21_2)).length c206_0) (rd_L1 x3_2 (rd t202 x21_2)) from ge22_0)
              have HH22 := Aside0.mk hH22
              have HN22 := Aside0.mk (Kd.S_reads' HO_3.out).1
              clear hH22 ge22_0
              go_wp2_with (first | ((with_reducible refine gate_builtin (b := .append) (xs := #[.tmp 30, .tmp 32]) rfl ?_); at_builtin; refine Kd.R_append (Kd.int .i64) (w0 := w) w.heap.size rfl (.tmp 30) (.tmp 32) 22 3 (.int .i64 0) 8 rfl Try.underlying22 info3 rfl (by decide) (by omega) (.slice A206_0 (rd_L1 x3_2 (rd t202 x21_2)).length c206_0) (rd_L1 x3_2 (rd t202 x21_2)) x14_1 [.int .i64 x14_1] (fun k_ => oki22 k_ ∨ ((fun k_ => some k_ ≠ (.slice (some ad205) t202.length co13 : Value).ownBlock)) k_ ∧ wr.heap.size ≤ k_) (fun _ => False) rfl rfl ?aP (fun _ hk => hk.elim) ?aF ?aO ?aB ?aS ?aL ?_; (case aP => exact rfl); (case aB => exact (by repeat (first | (with_reducible first | exact HB.out | apply below_alloc | apply pw_below_drewN | apply below_drew1 | refine below_set ?_ GE198.out) | exact HB.out))); (case aF => exact (fun k_ hk => .inr ⟨Kd.fresh' (Kd.R_lt (by (with_reducible repeat (first | apply Kd.R_alloc | apply Kd.R_drewN | apply Kd.R_drew)); exact HO_19.out)) k_ hk, hk⟩)); (case aO => exact (by (with_reducible repeat (first | apply Kd.R_alloc | apply Kd.R_drewN | apply Kd.R_drew)); exact Kd.R_mono UU22.out (fun _ hk => .inl hk))); (case aS => exact (below_size (by repeat (first | (with_reducible first | exact HB.out | apply below_alloc | apply pw_below_drewN | apply below_drew1 | refine below_set ?_ GE198.out) | exact HB.out)))); (case aL => have := LMc19.out; omega); intro v208 w23 ho hb hg hat; rw [← Ny207.out] at ho; have n0_ := Aside0.mk (Kd.R_grown2 (by (with_reducible repeat (first | apply Kd.R_alloc | apply Kd.R_drewN | apply Kd.R_drew)); exact HO_19.out) rfl hg (fun k_ e_ => (HL206_0.out.1 k_ e_).1)); have n1_ := Aside0.mk (blk_grown (g := gb198) (o := .cells #[.string a0_0, .bool a0_1, .slice A0_2 l0_2.length c0_2, .int .i64 a0_3, .slice A0_4 l0_4.length c0_4] 25 (0, 0)) (by (with_reducible repeat (first | refine blk_drewN ?_ _ | refine blk_drew ?_ | refine blk_alloc ?_ _)); exact BK198.out) hg (Kd.R_ne HL206_0.out BK198.out (by decide))); have n2_ := Aside0.mk (hb); have n3_ := Aside0.mk (Kd.H_grown (Kd.H_widen (by repeat (first | exact HH22.out | refine Kd.H_alloc ?_ _ | refine Kd.H_drewN ?_ _ | refine Kd.H_drew ?_))) hg (fun k_ e_ => .inl (UU22.out.1 k_ e_))); have n4_ := Aside0.mk (ho); clear HO_19; clear BK198; clear HB; clear HH22; clear HO_3; clear UU22; clear HL206_0; have HO_19 := n0_; have BK198 := n1_; have HB := n2_; have HH22 := n3_; have HO209 := n4_; clear n0_ n1_ n2_ n3_ n4_; clear ho hb hg hat; have p20 : 0 ≤ ((rd t202 x21_2) : Int) := of_decide_eq_true (by first | (with_reducible assumption) | assumption); have q20 : ((rd t202 x21_2) : Int) < ((x3_2.length : Int) : Int) := of_decide_eq_true (by first | (with_reducible assumption) | assumption); replace p20 := eq_true p20; replace q20 := eq_true q20; obtain ⟨Ao26, co26, eo26⟩ := Kd.R_slice HO209.out; subst eo26; obtain ⟨_, _, hraw24, _, _, hcc24, _⟩ := Kd.H_raw HH22.out (of_decide_eq_true (by first | (with_reducible assumption) | assumption)) (by have h_ : ((rd t202 x21_2) : Int) < ((x3_2.length : Int) : Int) := of_decide_eq_true (by first | (with_reducible assumption) | assumption); first | exact h_ | (have e_ := (HN22.out); omega) | simpa using h_); obtain ⟨_, hfr24⟩ := Kd.H_at HH22.out (of_decide_eq_true (by first | (with_reducible assumption) | assumption)) (by have h_ : ((rd t202 x21_2) : Int) < ((x3_2.length : Int) : Int) := of_decide_eq_true (by first | (with_reducible assumption) | assumption); first | exact h_ | (have e_ := (HN22.out); omega) | simpa using h_); have hx24_0 := hcc24 0 _ rfl; have hf24_0 := hfr24 0; (try simp only [Nat.add_zero] at hx24_0 hf24_0); (try rw [show ((Kd.slice 3 (Kd.int .i64))).sz = 1 from rfl, Nat.mul_one] at hx24_0); (try rw [show ((Kd.slice 3 (Kd.int .i64))).sz = 1 from rfl, Nat.mul_one] at hf24_0); have HP24 := Kd.S_seg0 HH22.out (of_decide_eq_true (by first | (with_reducible assumption) | assumption)) (by have h_ : ((rd t202 x21_2) : Int) < ((x3_2.length : Int) : Int) := of_decide_eq_true (by first | (with_reducible assumption) | assumption); first | exact h_ | (have e_ := (HN22.out); omega) | simpa using h_) (seg := [.slice Ao26 y207.length co26]) (j := 0) (show 1 ≤ 1 from by decide) (x' := y207) (Kd.M_row HO209.out) (fun _ hk => hk); (try simp only [show ((Kd.slice 3 (Kd.int .i64))).sz = 1 from rfl, Nat.mul_one, Nat.add_zero] at HP24); clear hcc24 hfr24) | ((with_reducible refine gate_store (t := 22) (p := 34) rfl ?_); refine store_event (t := 22) (p := 34) (v := ?vo_w25) (w1 := (w23.setCell ⟨go22, ((rd t202 x21_2) : Int).toNat, none⟩ (.slice Ao26 y207.length co26))) ?hg ?ho ?hn ?hr ?_; (case ho => rfl); (case hg => rfl); (case hn => rfl); (case hr => first | (go_simp; done) | (go_simp; rfl)); intro w25 hw; have hg : w23.grownBy w25 (some go22) := (by rw [hw]; exact HP24.2); have hp_ : Kd.S (Kd.slice 3 (Kd.int .i64)) 22 w25 w.heap.size (fun k_ => some k_ ≠ (.slice (some ad205) t202.length co13 : Value).ownBlock) (.slice (some ⟨go22, 0, none⟩) x3_2.length co21) y210 := (by rw [hw, Ny210.out]; exact HP24.1); clear HP24; have n0_ := Aside0.mk (Kd.R_over' (v := (.slice (some ⟨go22, 0, none⟩) x3_2.length co21)) (by (with_reducible repeat (first | apply Kd.R_alloc | apply Kd.R_drewN | apply Kd.R_drew)); exact HO_19.out) (Kd.R_typed hraw24) (by decide) hg); have n1_ := Aside0.mk (blk_grown (g := gb198) (o := .cells #[.string a0_0, .bool a0_1, .slice A0_2 l0_2.length c0_2, .int .i64 a0_3, .slice A0_4 l0_4.length c0_4] 25 (0, 0)) (by (with_reducible repeat (first | refine blk_drewN ?_ _ | refine blk_drew ?_ | refine blk_alloc ?_ _)); exact BK198.out) hg (Kd.R_ne hraw24 BK198.out (by decide))); have n2_ := Aside0.mk ((by rw [hw]; exact below_set HB.out GB22.out : Below w.heap.size w w25)); have n3_ := Aside0.mk (hp_); clear HO_19; clear BK198; clear HB; clear HO209; clear HH22; have HO_19 := n0_; have BK198 := n1_; have HB := n2_; have HO_3 := n3_; clear n0_ n1_ n2_ n3_; clear hg hw hp_ hraw24))
              go_roundg k2
              case measure => have := HK1.out; have := HK2.out; omega
              case rel => exact ⟨(y210), (wrap64 (x21_2 + 1)), (by first | rfl | (simp; done) | (simp [*]; done)), H', ⟨by have := HK1.out; have := HK2.out; omega⟩, ⟨by (with_reducible repeat (first | apply Kd.S_alloc | apply Kd.S_drewN | apply Kd.S_drew)); exact HO_3.out⟩, ⟨by (with_reducible repeat (first | apply Kd.R_alloc | apply Kd.R_drewN | apply Kd.R_drew)); exact HO_19.out⟩, ⟨by (with_reducible repeat (first | refine blk_drewN ?_ _ | refine blk_drew ?_ | refine blk_alloc ?_ _)); exact BK198.out⟩, ⟨by repeat (first | (with_reducible first | exact HB.out | apply below_alloc | apply pw_below_drewN | apply below_drew1 | refine below_set ?_ GE198.out) | exact HB.out)⟩⟩
             ·rw [if_neg c19] at H
              exact absurd H (by simp)
            ·rw [if_neg c18] at H
             exact absurd H (by simp)
           ·rw [if_neg c17] at H
            exact absurd H (by simp)
          ·rw [if_neg c16] at H
           exact absurd H (by simp)
         ·rw [if_neg c15] at H
          exact absurd H (by simp)
        ·rw [if_neg c14] at H
         have c14b0 : decide (x21_2 < (t202.length : Int)) = false := decide_eq_false c14
         clear c14
         have H' := Aside0.mk H
         clear H
         go_wp2
         go_roundg k2
         case measure => have := HK1.out; have := HK2.out; omega
         case rel => exact ⟨(x3_2), (wrap64 (x14_1 + 1)), (by first | rfl | (simp; done) | (simp [*]; done)), H', ⟨by have := HK1.out; have := HK2.out; omega⟩, ⟨by (with_reducible repeat (first | apply Kd.S_alloc | apply Kd.S_drewN | apply Kd.S_drew)); exact Kd.S_mono HO_3.out (fun _ hk => trivial)⟩, ⟨by (with_reducible repeat (first | refine blk_drewN ?_ _ | refine blk_drew ?_ | refine blk_alloc ?_ _)); exact BK198.out⟩, ⟨by repeat (first | (with_reducible first | exact HB.out | apply below_alloc | apply pw_below_drewN | apply below_drew1 | refine below_set ?_ GE198.out) | exact HB.out)⟩⟩
     ·rw [if_neg c9] at H
      have c9b0 : decide (x14_1 < (l0_4.length : Int)) = false := decide_eq_false c9
      clear c9
      obtain rfl := Option.some.inj H
      go_wp2
      go_ret
      exact ⟨_, by first | rfl | (simp [errW_none, errW_some] <;> rfl) | (simp [*, errW_none, errW_some] <;> rfl), by (with_reducible repeat (first | apply Kd.S_alloc | apply Kd.S_drewN | apply Kd.S_drew)); exact HO_3.out, by repeat (first | (with_reducible first | exact HB.out | apply below_alloc | apply pw_below_drewN | apply below_drew1 | refine below_set ?_ GE198.out) | exact HB.out)⟩
  ·rw [if_neg c3] at H
   exact absurd H (by simp)
 ·rw [if_neg c2] at H
  exact absurd H (by simp)
end Go.Proofs.Ytkcimaibaicdcaa.P
end
