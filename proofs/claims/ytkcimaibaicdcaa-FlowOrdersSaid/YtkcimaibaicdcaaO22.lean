/- A part of the proof of the law of FlowOrders: lemmas and walks, out of this session's texts, with what the claim does not use struck out. -/
import Derived.Test.YtkcimaibaicdcaaO6
import Derived.Test.YtkcimaibaicdcaaO8
import Derived.Test.YtkcimaibaicdcaaO9
import Derived.Test.YtkcimaibaicdcaaO11
import Derived.Test.YtkcimaibaicdcaaO20
import Derived.Test.YtkcimaibaicdcaaO21
section
namespace Go.Proofs.Ytkcimaibaicdcaa.P
open Go.RowKit Go.Proofs.YtkcimaibaicdcaaW.PrintWords Go.Proofs.YtkcimaibaicdcaaW.PrintLast Go.Proofs.YtkcimaibaicdcaaW.PrintMore
attribute [local go_sem] max2_int min2_int max_two min_two max_three min_three max_four min_four   
set_option linter.unusedVariables false
set_option linter.unusedSimpArgs false
def plnref3_Order.l0 : Nat → List Int → List Int → Int → Option (List Int)
 | 0, _, _, _ => none
 | k + 1, x4, x5, x6 => if x6 ≥ 0 then (if 0 ≤ x6 then (if x6 < (x4.length : Int) then (if x5.length < 17592186044416 then (plnref3_Order.l0 k x4 (x5 ++ [rd x4 x6]) (wrap64 (x6 - 1))) else (none)) else (none)) else (none)) else (some x5)
def plnref3_Order.f (k : Nat) (a0_0 : ByteArray) (a0_1 : Bool) (l0_2 : List Int) (a0_3 : Int) (l0_4 : List (S54)) : Option (List Int) := if (l0_4.length : Int) = 0 then (some ([] : List Int)) else (if 0 ≤ (l0_4.length : Int) then (if ((l0_4.length : Int) : Int).toNat ≤ 281474976710656 then ((plnref3_deep.f k a0_0 a0_1 l0_2 a0_3 l0_4 0 (List.replicate ((l0_4.length : Int) : Int).toNat false) ([] : List Int)).bind fun bt264 => (plnref3_Order.l0 k bt264.1 ([] : List Int) (wrap64 ((bt264.1.length : Int) - 1)))) else (none)) else (none))
theorem plnref3_Order.mono_l : ∀ k, (∀ y0 y1 y2, LeO (plnref3_Order.l0 k y0 y1 y2) (plnref3_Order.l0 (k + 1) y0 y1 y2))
 | 0 => fun _ _ _ r h => by simp [plnref3_Order.l0] at h
 | k + 1 => by
  have ih0 := plnref3_Order.mono_l k
  ·intro y0 y1 y2
   unfold plnref3_Order.l0
   repeat' first
   | (with_reducible exact ih0 _ _ _)
   | (with_reducible exact plnref3_deep.mono _ _ _ _ _ _ _ _ _)
   | (with_reducible exact LeO.refl _)
   | (with_reducible exact LeO.none _)
   | (with_reducible refine LeO.ite ?_ ?_)
   | (with_reducible refine LeO.bind ?_ (fun _ => ?_))
   | exact ih0 _ _ _
   | exact plnref3_deep.mono _ _ _ _ _ _ _ _ _
   | exact LeO.none _
   | refine LeO.ite ?_ ?_
   | refine LeO.bind ?_ (fun _ => ?_)
theorem plnref3_Order.mono : ∀ a0 a1 a2 a3 a4 k, LeO (plnref3_Order.f k a0 a1 a2 a3 a4) (plnref3_Order.f (k + 1) a0 a1 a2 a3 a4) := by
 intro a0 a1 a2 a3 a4 k
 have ih0 := plnref3_Order.mono_l k
 unfold plnref3_Order.f
 repeat' first
   | (with_reducible exact ih0 _ _ _)
   | (with_reducible exact plnref3_deep.mono _ _ _ _ _ _ _ _ _)
   | (with_reducible exact LeO.refl _)
   | (with_reducible exact LeO.none _)
   | (with_reducible refine LeO.ite ?_ ?_)
   | (with_reducible refine LeO.bind ?_ (fun _ => ?_))
   | exact ih0 _ _ _
   | exact plnref3_deep.mono _ _ _ _ _ _ _ _ _
   | exact LeO.none _
   | refine LeO.ite ?_ ?_
   | refine LeO.bind ?_ (fun _ => ?_)
set_option maxHeartbeats 8000000 in
set_option maxRecDepth 100000 in
theorem plnref3_Order.calls (k : Nat) (a0_0 : ByteArray) (a0_1 : Bool) (A0_2 : Option Addr) (c0_2 : Nat) (l0_2 : List Int) (a0_3 : Int) (A0_4 : Option Addr) (c0_4 : Nat) (l0_4 : List (S54)) (r : List Int) (w : World) (hr0_2 : Kd.C (Kd.int .i64) w A0_2 l0_2.length l0_2) (hc0_2 : l0_2.length ≤ c0_2) (hr0_4 : Kd.C k54 w A0_4 l0_4.length l0_4) (hc0_4 : l0_4.length ≤ c0_4) (h : plnref3_Order.f k a0_0 a0_1 l0_2 a0_3 l0_4 = some r) :
  Calls Try.prog 28 #[.agg #[.string a0_0, .bool a0_1, .slice A0_2 l0_2.length c0_2, .int .i64 a0_3, .slice A0_4 l0_4.length c0_4]] w fun e w' => ∃ v0_ : Value, e = .returned (v0_) ∧ Kd.R (Kd.int .i64) 3 w' w.heap.size (fun _ => True) v0_ r ∧ Below w.heap.size w w' := by
 have hu25 := Try.underlying25
 have HR0_2 := Aside0.mk hr0_2
 have HC0_2 := Aside0.mk hc0_2
 clear hr0_2 hc0_2
 have HR0_4 := Aside0.mk hr0_4
 have HC0_4 := Aside0.mk hc0_4
 clear hr0_4 hc0_4; have HB := Aside0.mk (Below.refl w.heap.size w)
 have H : (if (l0_4.length : Int) = 0 then (some ([] : List Int)) else (if 0 ≤ (l0_4.length : Int) then (if ((l0_4.length : Int) : Int).toNat ≤ 281474976710656 then ((plnref3_deep.f k a0_0 a0_1 l0_2 a0_3 l0_4 0 (List.replicate ((l0_4.length : Int) : Int).toNat false) ([] : List Int)).bind fun bt264 => (plnref3_Order.l0 k bt264.1 ([] : List Int) (wrap64 ((bt264.1.length : Int) - 1)))) else (none)) else (none))) = some r := h
 clear h
 by_cases c2 : (l0_4.length : Int) = 0
 ·rw [if_pos c2] at H
  have c2b0 : ((l0_4.length : Int) == 0) = true := beq_iff_eq.mpr c2
  have c2b1 : ((l0_4.length : Int) != 0) = false := bne_eq_false_iff_eq.mpr c2
  clear c2
  obtain rfl := Option.some.inj H
  go_enter Try.func28, Try.ntmps28
  go_wp2_with (first | ((with_reducible refine gate_dst (N := 1) rfl ?_); refine box_event ?hg (N := 1) ?hd (cs := #[.string a0_0, .bool a0_1, .slice A0_2 l0_2.length c0_2, .int .i64 a0_3, .slice A0_4 l0_4.length c0_4]) (t := 25) ?hr ?_; (case hd => rfl); (case hg => rfl); (case hr => first | (go_simp; done) | (go_simp; rfl)); intro gb260 hg w3 hbox hb; have n0_ := Aside0.mk (below_step (by repeat (first | (with_reducible first | exact HB.out | apply below_alloc | apply pw_below_drewN | apply below_drew1) | exact HB.out)) hb); have n1_ := Aside0.mk (hbox); have n2_ := Aside0.mk ((by rw [hg]; exact (below_size (by repeat (first | (with_reducible first | exact HB.out | apply below_alloc | apply pw_below_drewN | apply below_drew1) | exact HB.out))) : w.heap.size ≤ gb260)); have n3_ := Aside0.mk ((by rw [hg]; exact (below_size (by repeat (first | (with_reducible first | exact HB.out | apply below_alloc | apply pw_below_drewN | apply below_drew1) | exact HB.out))) : w.heap.size ≤ gb260)); clear HB; have HB := n0_; have BK260 := n1_; have GW260 := n2_; have GE260 := n3_; clear n0_ n1_ n2_ n3_; clear hb hbox hg; have hcz4_0 : w3.cell? ⟨gb260, 0, none⟩ = some (.string a0_0) := (blk_cell BK260.out 0).trans rfl; have hcz4_1 : w3.cell? ⟨gb260, 1, none⟩ = some (.bool a0_1) := (blk_cell BK260.out 1).trans rfl; have hcz4_2 : w3.cell? ⟨gb260, 2, none⟩ = some (.slice A0_2 l0_2.length c0_2) := (blk_cell BK260.out 2).trans rfl; have hcz4_3 : w3.cell? ⟨gb260, 3, none⟩ = some (.int .i64 a0_3) := (blk_cell BK260.out 3).trans rfl; have hcz4_4 : w3.cell? ⟨gb260, 4, none⟩ = some (.slice A0_4 l0_4.length c0_4) := (blk_cell BK260.out 4).trans rfl; have hfz4_0 := blk_frozen BK260.out 0; have hfz4_1 := blk_frozen BK260.out 1; have hfz4_2 := blk_frozen BK260.out 2; have hfz4_3 := blk_frozen BK260.out 3; have hfz4_4 := blk_frozen BK260.out 4))
  go_ret
  exact ⟨_, by first | rfl | (simp [errW_none, errW_some] <;> rfl) | (simp [*, errW_none, errW_some] <;> rfl), by first | exact Kd.R_nil _ _ _ _ _ | exact Kd.N_nil _ _ _ _ _ | exact Kd.V_nil _ _ _ _ _ | exact Kd.Q_nil _ _ _ _ _ | exact Kd.S_nil _ _ _ _ _, by repeat (first | (with_reducible first | exact HB.out | apply below_alloc | apply pw_below_drewN | apply below_drew1 | refine below_set ?_ GE260.out) | exact HB.out)⟩
 ·rw [if_neg c2] at H
  have c2b0 : ((l0_4.length : Int) == 0) = false := beq_eq_false_iff_ne.mpr c2
  have c2b1 : ((l0_4.length : Int) != 0) = true := bne_iff_ne.mpr c2
  have c2b2 : ¬ (l0_4 = []) := fun h_ => c2 (by rw [h_]; rfl)
  by_cases c5 : 0 ≤ (l0_4.length : Int)
  ·rw [if_pos c5] at H
   have c5b0 := eq_true c5
   have c5b1 : decide (0 ≤ (l0_4.length : Int)) = true := decide_eq_true c5
   clear c5
   by_cases c6 : ((l0_4.length : Int) : Int).toNat ≤ 281474976710656
   ·rw [if_pos c6] at H
    have c6b0 := eq_true c6
    have c6b1 : decide (((l0_4.length : Int) : Int).toNat ≤ 281474976710656) = true := decide_eq_true c6
    clear c6
    obtain ⟨y261, hy261⟩ : ∃ y_ : List Bool, y_ = (List.replicate ((l0_4.length : Int) : Int).toNat false) := ⟨_, rfl⟩
    replace H : ((plnref3_deep.f k a0_0 a0_1 l0_2 a0_3 l0_4 0 y261 ([] : List Int)).bind fun bt264 => (plnref3_Order.l0 k bt264.1 ([] : List Int) (wrap64 ((bt264.1.length : Int) - 1)))) = some r := by first | (rw [hy261]; with_reducible exact H) | (have H2_ := (Option.bind_some _ _).symm.trans H; rw [hy261]; with_reducible exact H2_) | (have H2_ := (Option.bind_some _ _).symm.trans H; with_reducible exact H2_) | with_reducible exact H | (rw [hy261]; exact H) | exact H
    have Ny261 := Aside0.mk hy261
    clear hy261
    replace H := Option.bind_eq_some_iff.mp H
    obtain ⟨⟨t264, t267⟩, A70, H⟩ := H
    replace H : (plnref3_Order.l0 k t264 ([] : List Int) (wrap64 ((t264.length : Int) - 1))) = some r := H
    have A7 := Aside0.mk A70
    clear A70
    have H' := Aside0.mk H
    clear H
    go_enter Try.func28, Try.ntmps28
    go_wp2_with (first | ((with_reducible refine gate_dst (N := 1) rfl ?_); refine box_event ?hg (N := 1) ?hd (cs := #[.string a0_0, .bool a0_1, .slice A0_2 l0_2.length c0_2, .int .i64 a0_3, .slice A0_4 l0_4.length c0_4]) (t := 25) ?hr ?_; (case hd => rfl); (case hg => rfl); (case hr => first | (go_simp; done) | (go_simp; rfl)); intro gb260 hg w8 hbox hb; have n0_ := Aside0.mk (below_step (by repeat (first | (with_reducible first | exact HB.out | apply below_alloc | apply pw_below_drewN | apply below_drew1) | exact HB.out)) hb); have n1_ := Aside0.mk (hbox); have n2_ := Aside0.mk ((by rw [hg]; exact (below_size (by repeat (first | (with_reducible first | exact HB.out | apply below_alloc | apply pw_below_drewN | apply below_drew1) | exact HB.out))) : w.heap.size ≤ gb260)); have n3_ := Aside0.mk ((by rw [hg]; exact (below_size (by repeat (first | (with_reducible first | exact HB.out | apply below_alloc | apply pw_below_drewN | apply below_drew1) | exact HB.out))) : w.heap.size ≤ gb260)); clear HB; have HB := n0_; have BK260 := n1_; have GW260 := n2_; have GE260 := n3_; clear n0_ n1_ n2_ n3_; clear hb hbox hg; have hcz9_0 : w8.cell? ⟨gb260, 0, none⟩ = some (.string a0_0) := (blk_cell BK260.out 0).trans rfl; have hcz9_1 : w8.cell? ⟨gb260, 1, none⟩ = some (.bool a0_1) := (blk_cell BK260.out 1).trans rfl; have hcz9_2 : w8.cell? ⟨gb260, 2, none⟩ = some (.slice A0_2 l0_2.length c0_2) := (blk_cell BK260.out 2).trans rfl; have hcz9_3 : w8.cell? ⟨gb260, 3, none⟩ = some (.int .i64 a0_3) := (blk_cell BK260.out 3).trans rfl; have hcz9_4 : w8.cell? ⟨gb260, 4, none⟩ = some (.slice A0_4 l0_4.length c0_4) := (blk_cell BK260.out 4).trans rfl; have hfz9_0 := blk_frozen BK260.out 0; have hfz9_1 := blk_frozen BK260.out 1; have hfz9_2 := blk_frozen BK260.out 2; have hfz9_3 := blk_frozen BK260.out 3; have hfz9_4 := blk_frozen BK260.out 4) | ((with_reducible refine gate_dst (N := 14) rfl ?_); refine Kd.R_make Kd.bool _ 4 rfl (N := 14) rfl 34 _ _ rfl (l0_4.length : Int) rfl rfl Try.underlying34 (.bool false) 1 info4 rfl (by decide) (by omega) false (ok := fun _ => True) (okp := fun _ => True) rfl (fun _ hk => hk) trivial (of_decide_eq_true (by first | (with_reducible assumption) | assumption)) (Nat.le_trans (Nat.mul_le_mul_right _ (of_decide_eq_true (by first | (with_reducible assumption) | assumption) : (l0_4.length : Int).toNat ≤ 281474976710656)) (by omega)) (Below.refl _ _) (Nat.le_refl _) ?_; intro v262 w10 ho11 hb hg_ hnew_; clear hg_ hnew_; (first | rw [← Ny261.out] at ho11 | (simp only [Int.reduceToNat] at ho11; rw [← Ny261.out] at ho11)); have n0_ := Aside0.mk (Kd.R_lower ho11 (below_size (by repeat (first | (with_reducible first | exact HB.out | apply below_alloc | apply pw_below_drewN | apply below_drew1 | refine below_set ?_ GE260.out) | exact HB.out)))); have n1_ := Aside0.mk (blk_below (g := gb260) (o := .cells #[.string a0_0, .bool a0_1, .slice A0_2 l0_2.length c0_2, .int .i64 a0_3, .slice A0_4 l0_4.length c0_4] 25 (0, 0)) (by (with_reducible repeat (first | refine blk_drewN ?_ _ | refine blk_drew ?_ | refine blk_alloc ?_ _)); exact BK260.out) hb); have n2_ := Aside0.mk (below_step (by repeat (first | (with_reducible first | exact HB.out | apply below_alloc | apply pw_below_drewN | apply below_drew1 | refine below_set ?_ GE260.out) | exact HB.out)) hb); clear BK260; clear HB; have HO263 := n0_; have BK260 := n1_; have HB := n2_; clear n0_ n1_ n2_; clear hb ho11; have hcz12_0 : w10.cell? ⟨gb260, 0, none⟩ = some (.string a0_0) := (blk_cell BK260.out 0).trans rfl; have hcz12_1 : w10.cell? ⟨gb260, 1, none⟩ = some (.bool a0_1) := (blk_cell BK260.out 1).trans rfl; have hcz12_2 : w10.cell? ⟨gb260, 2, none⟩ = some (.slice A0_2 l0_2.length c0_2) := (blk_cell BK260.out 2).trans rfl; have hcz12_3 : w10.cell? ⟨gb260, 3, none⟩ = some (.int .i64 a0_3) := (blk_cell BK260.out 3).trans rfl; have hcz12_4 : w10.cell? ⟨gb260, 4, none⟩ = some (.slice A0_4 l0_4.length c0_4) := (blk_cell BK260.out 4).trans rfl; have hfz12_0 := blk_frozen BK260.out 0; have hfz12_1 := blk_frozen BK260.out 1; have hfz12_2 := blk_frozen BK260.out 2; have hfz12_3 := blk_frozen BK260.out 3; have hfz12_4 := blk_frozen BK260.out 4; obtain ⟨Ao13, co13, eo13⟩ := Kd.R_slice HO263.out; subst eo13) | ((with_reducible refine gate_callee (f := 67) rfl ?_); refine goesL_ (some 18) rfl rfl Try.func67 (by kernel_rfl) rfl #[.agg #[.string a0_0, .bool a0_1, .slice A0_2 l0_2.length c0_2, .int .i64 a0_3, .slice A0_4 l0_4.length c0_4], .int .i64 0, .slice Ao13 y261.length co13, .slice none 0 0] rfl (by (try simp only [List.map_toArray, List.map_cons, List.map_nil]); first | done | rfl | (simp only [List.length_drop, List.length_take]; rfl)) ?_; (refine (plnref3_deep.calls k a0_0 a0_1 _ _ l0_2 a0_3 _ _ l0_4 0 (fun k_ => some k_ = (.slice Ao13 y261.length co13 : Value).ownBlock) (.slice Ao13 y261.length co13) y261 (fun k_ => some k_ = (.slice none 0 0 : Value).ownBlock) (.slice none 0 0) ([] : List Int) t264 t267 w _ ?side1 ?side2 ?side3 ?side4 ?side5 ?side6 ?side7 A7.out).mono ?_); (case side1 => repeat (first | (with_reducible first | exact HB.out | apply below_alloc | apply pw_below_drewN | apply below_drew1 | refine below_set ?_ GE260.out) | exact HB.out)); (case side2 => exact Kd.C_kept_came (Kd.heap_int .i64) HR0_2.out (by repeat (first | (with_reducible first | exact HB.out | apply below_alloc | apply pw_below_drewN | apply below_drew1 | refine below_set ?_ GE260.out) | exact HB.out)) (fun k_ hs_ => Or.elim hs_ (fun e_ => (fun e_ => Kd.R_base HO263.out k_ e_.symm) e_) (fun e_ => (fun e_ => by simp [Value.ownBlock] at e_) e_))); (case side3 => exact HC0_2.out); (case side4 => exact Kd.C_kept_came k54_heap HR0_4.out (by repeat (first | (with_reducible first | exact HB.out | apply below_alloc | apply pw_below_drewN | apply below_drew1 | refine below_set ?_ GE260.out) | exact HB.out)) (fun k_ hs_ => Or.elim hs_ (fun e_ => (fun e_ => Kd.R_base HO263.out k_ e_.symm) e_) (fun e_ => (fun e_ => by simp [Value.ownBlock] at e_) e_))); (case side5 => exact HC0_4.out); (case side6 => exact Kd.R_tight rfl HO263.out); (case side7 => exact Kd.R_nil _ _ _ _ _); rintro e w14 ⟨v265, rfl, ho0, hy0, hb, hkp⟩; refine ⟨_, rfl, ?_⟩; have n0_ := Aside0.mk (blk_kept (by (with_reducible repeat (first | refine blk_drewN ?_ _ | refine blk_drew ?_ | refine blk_alloc ?_ _)); exact BK260.out) hkp (fun hs_ => Or.elim hs_ (fun e_ => (fun e_ => (Kd.R_ne HO263.out BK260.out (by decide)) e_) e_) (fun e_ => (fun e_ => by simp [Value.ownBlock] at e_) e_))); have n1_ := Aside0.mk (Kd.R_reok rfl hy0 (fun k_ e_ => HO263.out.1 k_ e_)); have n2_ := Aside0.mk (Kd.R_mono (ok' := fun k_ => True) ho0 (fun k_ hk_ => trivial)); have n3_ := Aside0.mk (hb); clear BK260; clear HO263; clear HB; have BK260 := n0_; have HO263 := n1_; have HO266 := n2_; have HB := n3_; clear n0_ n1_ n2_ n3_; (try clear hb); (try clear hkp); (try clear ho0); (try clear hy0); obtain ⟨Ao15, co15, eo15⟩ := Kd.R_slice HO266.out; subst eo15))
    go_loopg [5, 6] k (fun kq v5 v6 w' => ∃ (x5_1 : List Int) (x6_1 : Int), v6 = .int .i64 x6_1 ∧ Aside0 (plnref3_Order.l0 kq t264 x5_1 x6_1 = some r) ∧ Aside0 (kq ≤ k) ∧ Aside0 (Kd.R (Kd.int .i64) 3 w' w.heap.size (fun k_ => some k_ ≠ (v5 : Value).ownBlock) (.slice Ao15 t264.length co15) t264) ∧ Aside0 (Kd.R (Kd.int .i64) 3 w' w.heap.size (fun k_ => some k_ ≠ ((.slice Ao15 t264.length co15) : Value).ownBlock) v5 x5_1) ∧ Aside0 (w'.heap[gb260]? = some (.cells #[.string a0_0, .bool a0_1, (.slice A0_2 l0_2.length c0_2), .int .i64 a0_3, (.slice A0_4 l0_4.length c0_4)] 25 (0, 0))) ∧ Aside0 (Below w.heap.size w w'))
    case atStart => exact ⟨(([] : List Int)), (wrap64 ((t264.length : Int) - 1)), (by first | rfl | (simp; done) | (simp [*]; done)), H', ⟨Nat.le_refl _⟩, ⟨by (with_reducible repeat (first | apply Kd.R_alloc | apply Kd.R_drewN | apply Kd.R_drew)); exact Kd.R_mono HO266.out (fun _ hk => (by simp [Value.ownBlock]))⟩, ⟨by first | exact Kd.R_nil _ _ _ _ _ | exact Kd.N_nil _ _ _ _ _ | exact Kd.V_nil _ _ _ _ _ | exact Kd.Q_nil _ _ _ _ _ | exact Kd.S_nil _ _ _ _ _⟩, ⟨by (with_reducible repeat (first | refine blk_drewN ?_ _ | refine blk_drew ?_ | refine blk_alloc ?_ _)); exact BK260.out⟩, ⟨by repeat (first | (with_reducible first | exact HB.out | apply below_alloc | apply pw_below_drewN | apply below_drew1 | refine below_set ?_ GE260.out) | exact HB.out)⟩⟩
    case round =>
     clear H'
     try clear c2
     try clear c2b0
     try clear c2b1
     try clear c2b2
     try clear p2
     try clear c5
     try clear c5b0
     try clear c5b1
     try clear c6
     try clear c6b0
     try clear c6b1
     try clear p6
     try clear hcz12_0
     try clear hcz12_1
     try clear hcz12_2
     try clear hcz12_3
     try clear hcz12_4
     try clear hcz4_0
     try clear hcz4_1
     try clear hcz4_2
     try clear hcz4_3
     try clear hcz4_4
     try clear hcz9_0
     try clear hcz9_1
     try clear hcz9_2
     try clear hcz9_3
     try clear hcz9_4
     try clear hfz12_0
     try clear hfz12_1
     try clear hfz12_2
     try clear hfz12_3
     try clear hfz12_4
     try clear hfz4_0
     try clear hfz4_1
     try clear hfz4_2
     try clear hfz4_3
     try clear hfz4_4
     try clear hfz9_0
     try clear hfz9_1
     try clear hfz9_2
     try clear hfz9_3
     try clear hfz9_4
     obtain ⟨x5_1, x6_1, rfl, HA, HK1, HO_4, HO_5, BK260, HB⟩ := hrel
     cases gk with
     | zero => exact absurd HA.out (by simp [plnref3_Order.l0])
     | succ k1 =>
      have H := HA.out
      clear HA
      simp only [plnref3_Order.l0] at H
      by_cases c16 : x6_1 ≥ 0
      ·rw [if_pos c16] at H
       have c16b0 : decide (0 ≤ x6_1) = true := decide_eq_true c16
       clear c16
       by_cases c17 : 0 ≤ x6_1
       ·rw [if_pos c17] at H
        have c17b0 : decide (0 ≤ x6_1) = true := decide_eq_true c17
        clear c17
        by_cases c18 : x6_1 < (t264.length : Int)
        ·rw [if_pos c18] at H
         have c18b0 : decide (x6_1 < (t264.length : Int)) = true := decide_eq_true c18
         clear c18
         by_cases c19 : x5_1.length < 17592186044416
         ·rw [if_pos c19] at H
          have LMc19 := Aside0.mk c19
          clear c19
          obtain ⟨y269, hy269⟩ : ∃ y_ : List Int, y_ = (x5_1 ++ [rd t264 x6_1]) := ⟨_, rfl⟩
          replace H : (plnref3_Order.l0 k1 t264 y269 (wrap64 (x6_1 - 1))) = some r := by first | (rw [hy269]; with_reducible exact H) | (have H2_ := (Option.bind_some _ _).symm.trans H; rw [hy269]; with_reducible exact H2_) | (have H2_ := (Option.bind_some _ _).symm.trans H; with_reducible exact H2_) | with_reducible exact H | (rw [hy269]; exact H) | exact H
          have Ny269 := Aside0.mk hy269
          clear hy269
          have H' := Aside0.mk H
          clear H
          have p268 : 0 ≤ (x6_1 : Int) := of_decide_eq_true (by first | (with_reducible assumption) | assumption)
          have q268 : x6_1 < (t264.length : Int) := of_decide_eq_true (by first | (with_reducible assumption) | assumption)
          obtain ⟨ad268, e268, hx268_0⟩ := Kd.at_int (Kd.R_reads' HO_4.out).2.2 x6_1 p268 q268
          cases e268
          replace p268 := eq_true p268
          replace q268 := eq_true q268
          go_wp2_with (first | ((with_reducible refine gate_builtin (b := .append) (xs := #[.tmp 26, .tmp 31]) rfl ?_); at_builtin; refine Kd.R_append (Kd.int .i64) (w0 := w) w.heap.size rfl (.tmp 26) (.tmp 31) 22 3 (.int .i64 0) 8 rfl Try.underlying22 info3 rfl (by decide) (by omega) u5 x5_1 (rd t264 x6_1) [.int .i64 (rd t264 x6_1)] (fun k_ => some k_ ≠ (.slice (some ad268) t264.length co15 : Value).ownBlock) (fun _ => False) rfl rfl ?aP (fun _ hk => hk.elim) ?aF ?aO ?aB ?aS ?aL ?_; (case aP => exact rfl); (case aB => exact (by repeat (first | (with_reducible first | exact HB.out | apply below_alloc | apply pw_below_drewN | apply below_drew1 | refine below_set ?_ GE260.out) | exact HB.out))); (case aF => exact (fun k_ hk => Kd.fresh' (Kd.R_lt (by (with_reducible repeat (first | apply Kd.R_alloc | apply Kd.R_drewN | apply Kd.R_drew)); exact HO_4.out)) k_ hk)); (case aO => exact (by (with_reducible repeat (first | apply Kd.R_alloc | apply Kd.R_drewN | apply Kd.R_drew)); exact HO_5.out)); (case aS => exact (below_size (by repeat (first | (with_reducible first | exact HB.out | apply below_alloc | apply pw_below_drewN | apply below_drew1 | refine below_set ?_ GE260.out) | exact HB.out)))); (case aL => have := LMc19.out; omega); intro v270 w20 ho hb hg hat; rw [← Ny269.out] at ho; have n0_ := Aside0.mk (Kd.R_after (ok := (fun _ => True)) (by (with_reducible repeat (first | apply Kd.R_alloc | apply Kd.R_drewN | apply Kd.R_drew)); exact Kd.R_mono HO_4.out (fun _ hk => ⟨trivial, hk⟩)) hg hat); have n1_ := Aside0.mk (blk_grown (g := gb260) (o := .cells #[.string a0_0, .bool a0_1, .slice A0_2 l0_2.length c0_2, .int .i64 a0_3, .slice A0_4 l0_4.length c0_4] 25 (0, 0)) (by (with_reducible repeat (first | refine blk_drewN ?_ _ | refine blk_drew ?_ | refine blk_alloc ?_ _)); exact BK260.out) hg (Kd.R_ne HO_5.out BK260.out (by decide))); have n2_ := Aside0.mk (hb); have n3_ := Aside0.mk (ho); clear HO_4; clear BK260; clear HB; clear HO_5; have HO_4 := n0_; have BK260 := n1_; have HB := n2_; have HO271 := n3_; clear n0_ n1_ n2_ n3_; clear ho hb hg hat))
          go_roundg k1
          case measure => have := HK1.out; omega
          case rel => exact ⟨(y269), (wrap64 (x6_1 - 1)), (by first | rfl | (simp; done) | (simp [*]; done)), H', ⟨by have := HK1.out; omega⟩, ⟨by (with_reducible repeat (first | apply Kd.R_alloc | apply Kd.R_drewN | apply Kd.R_drew)); exact Kd.R_mono HO_4.out (fun _ hk => hk.2)⟩, ⟨by (with_reducible repeat (first | apply Kd.R_alloc | apply Kd.R_drewN | apply Kd.R_drew)); exact HO271.out⟩, ⟨by (with_reducible repeat (first | refine blk_drewN ?_ _ | refine blk_drew ?_ | refine blk_alloc ?_ _)); exact BK260.out⟩, ⟨by repeat (first | (with_reducible first | exact HB.out | apply below_alloc | apply pw_below_drewN | apply below_drew1 | refine below_set ?_ GE260.out) | exact HB.out)⟩⟩
         ·rw [if_neg c19] at H
          exact absurd H (by simp)
        ·rw [if_neg c18] at H
         exact absurd H (by simp)
       ·rw [if_neg c17] at H
        exact absurd H (by simp)
      ·rw [if_neg c16] at H
       have c16b0 : decide (0 ≤ x6_1) = false := decide_eq_false c16
       clear c16
       obtain rfl := Option.some.inj H
       go_wp2
       go_ret
       exact ⟨_, by first | rfl | (simp [errW_none, errW_some] <;> rfl) | (simp [*, errW_none, errW_some] <;> rfl), by (with_reducible repeat (first | apply Kd.R_alloc | apply Kd.R_drewN | apply Kd.R_drew)); exact Kd.R_mono HO_5.out (fun _ hk => trivial), by repeat (first | (with_reducible first | exact HB.out | apply below_alloc | apply pw_below_drewN | apply below_drew1 | refine below_set ?_ GE260.out) | exact HB.out)⟩
   ·rw [if_neg c6] at H
    exact absurd H (by simp)
  ·rw [if_neg c5] at H
   exact absurd H (by simp)
end Go.Proofs.Ytkcimaibaicdcaa.P
end
section
namespace Go.Proofs.Ytkcimaibaicdcaa.Gr
open Go.RowKit Go.Proofs.YtkcimaibaicdcaaW.PrintWords Go.Proofs.Ytkcimaibaicdcaa.P
def SeenIs (n : Nat) (ls : List Int) (seen : List Bool) : Prop := seen.length = n ∧ ∀ v : Int, 0 ≤ v → v < (n : Int) → (rdOf false seen v = true ↔ rd ls v ≠ 0)
section
variable {a0 : ByteArray} {a1 : Bool} {l2 : List Int} {a3 : Int} {l4 : List S54}
theorem next_len (h : IntoOk l4) (b : Int) : ((nextOf l4 b).length : Int) ≤ 17592186043904 := by
  unfold nextOf
  split
  · rename_i hg
    obtain ⟨g0, g1, g2, _⟩ := hg
    have hp := List.length_pos_iff.2 g2
    obtain ⟨h4, _⟩ := (h.2 b g0 g1).2 (((rd_T54 l4 b).f0.length : Int) - 1) (by omega) (by omega)
    have := fold_len (n := l4.length) (x := (lastI l4 b).f6) (out := [])
    have h4' : (lastI l4 b).f6.length ≤ 17592186043904 := h4
    simp at this
    omega
  · simp
structure Comes (l4 : List S54) (ls : List Int) (b : Int) : Prop where
  met : Rc (nextOf l4) (fun _ => True) 0 b
  grey : ∀ v : Int, 0 ≤ v → v < (l4.length : Int) → rd ls v = 1 → Rc (nextOf l4) (fun _ => True) v b
  from_ : b = 0 ∨ ∃ p : Int, 0 ≤ p ∧ p < (l4.length : Int) ∧ b ∈ nextOf l4 p ∧ p ≠ b ∧ rd ls p = 1
def Ends (a0 : ByteArray) (a1 : Bool) (l2 : List Int) (a3 : Int) (l4 : List S54) (f : Nat → Option (List Int × List Int × Bool)) (g : List Bool → Nat → Option (List Int × List Bool)) (ls lo : List Int) (lp : Bool) (b : Int) (Q : List Int → List Int → Bool → Prop) : Prop :=
  ∃ rs ro rp, Ev f (rs, ro, rp) ∧ (∀ seen, SeenIs l4.length ls seen → ∃ seen', SeenIs l4.length rs seen' ∧ Ev (g seen) (ro, seen')) ∧ Dfs (nextOf l4) l4.length 0 rs ro rp ∧ Q rs ro rp ∧ rd rs b = 2
theorem visit_loop (h : IntoOk l4) (b : Int) (b0 : 0 ≤ b) (b1 : b < (l4.length : Int)) (m : Nat)
    (ih : ∀ (t : Int) ls lo lp, Dfs (nextOf l4) l4.length 0 ls lo lp → ls.count 0 ≤ m → 0 ≤ t → t < (l4.length : Int) → rd ls t = 0 → Comes l4 ls t →
      Ends a0 a1 l2 a3 l4 (fun k => flow_visit.f k a0 a1 l2 a3 l4 t ls lo lp) (fun seen k => plnref3_deep.f k a0 a1 l2 a3 l4 t seen lo) ls lo lp t (fun rs ro rp => Went l4.length ls lo rs ro lp rp)) :
    ∀ i, 0 ≤ i → ∀ ls lo lp, Dfs (nextOf l4) l4.length 0 ls lo lp → ls.count 0 ≤ m → rd ls b = 1 → Comes l4 ls b →
      (∀ j, 0 ≤ j → j < i → j < ((nextOf l4 b).length : Int) → rd ls (rd (nextOf l4 b) j) ≠ 0 ∧ (lp = false → rd (nextOf l4 b) j ∈ lo)) →
      Ends a0 a1 l2 a3 l4 (fun k => flow_visit.l0 k a0 a1 l2 a3 l4 b (nextOf l4 b) i ls lo lp) (fun seen k => plnref3_deep.l0 k b seen lo (nextOf l4 b) i a0 a1 l2 a3 l4) ls lo lp b
        (fun rs ro rp => ∃ lf lof, rs = lf.set b.toNat 2 ∧ ro = lof ++ [b] ∧ Went l4.length ls lo lf lof lp rp) := by
  have hn := h.1
  have hx := next_len h b
  refine up_to ((nextOf l4 b).length : Int) _ ?_ ?_
  · intro i hi ls lo lp hD hm hb hC hin
    have hl : b < (ls.length : Int) := by rw [hD.len]; exact b1
    have hsz : lo.length < 17592186044416 := by have := hD.size; have := List.count_le_length (l := ls) (a := 2); have := hD.len; omega
    have rs : ∀ v : Int, 0 ≤ v → rd (ls.set b.toNat 2) v = if b = v then 2 else rd ls v := fun v hv => rd_set b0 hl hv
    refine ⟨ls.set b.toNat 2, lo ++ [b], lp, Ev.step (fun k => by simp only [flow_visit.l0]; rw [if_neg (by omega), if_pos b0, if_pos hl, if_pos hsz]) (Ev.now _), fun seen hs => ⟨seen, ⟨hs.1, fun v v0 v1 => ?_⟩, Ev.step (fun k => by simp only [plnref3_deep.l0]; rw [if_neg (by omega), if_pos hsz]) (Ev.now _)⟩, ?_, ⟨ls, lo, rfl, rfl, Went.refl _ _ _ _⟩, by rw [rs b b0, if_pos rfl]⟩
    · rw [hs.2 v v0 v1, rs v v0]
      by_cases e : b = v
      · subst e; rw [if_pos rfl, hb]; simp
      · rw [if_neg e]
    · refine hD.leave b0 b1 hb (fun w hw => ?_) hC.from_
      obtain ⟨w0, w1⟩ := next_in hw
      obtain ⟨j, j0, j1, rfl⟩ := mem_rd hw
      obtain ⟨k1, k2⟩ := hin j j0 (by omega) j1
      exact ⟨w0, w1, k1, k2⟩
  · intro i i0 i1 ihi ls lo lp hD hm hb hC hin
    have hlen := hD.len
    have hw := rd_mem i0 i1
    obtain ⟨t0, t1⟩ := next_in hw
    have tl : rd (nextOf l4 b) i < (ls.length : Int) := by omega
    have hrt : Rc (nextOf l4) (fun _ => True) 0 (rd (nextOf l4 b) i) := .step hC.met hw trivial
    rcases hD.three _ t0 t1 with e | e | e
    ·
      have hC' : Comes l4 ls (rd (nextOf l4 b) i) := ⟨hrt, fun v v0 v1 hv => .step (hC.grey v v0 v1 hv) hw trivial, .inr ⟨b, b0, b1, hw, fun e2 => by rw [← e2] at e; omega, hb⟩⟩
      obtain ⟨rs, ro, rp, k1, k2, k3, k4, k5⟩ := ih _ ls lo lp hD hm t0 t1 e hC'
      have hb' : rd rs b = 1 := by rw [k4.keep b b0 b1 (by omega)]; exact hb
      have hC2 : Comes l4 rs b := ⟨hC.met, fun v v0 v1 hv => hC.grey v v0 v1 (k4.grey v v0 v1 hv), hC.from_.imp id (fun ⟨p, p0, p1, pv, pn, hp⟩ => ⟨p, p0, p1, pv, pn, by rw [k4.keep p p0 p1 (by omega)]; exact hp⟩)⟩
      have hflag : rp = false → lp = false := fun e2 => by cases lp with | false => rfl | true => exact absurd (k4.flag rfl) (by simp [e2])
      obtain ⟨tt, rfl⟩ := k4.more
      have hin2 : ∀ j, 0 ≤ j → j < i + 1 → j < ((nextOf l4 b).length : Int) → rd rs (rd (nextOf l4 b) j) ≠ 0 ∧ (rp = false → rd (nextOf l4 b) j ∈ lo ++ tt) := fun j j0 j1 j2 => by
        rcases Int.lt_or_eq_of_le (Int.le_of_lt_add_one j1) with hj | rfl
        · obtain ⟨m1, m2⟩ := hin j j0 hj j2
          obtain ⟨u0, u1⟩ := next_in (rd_mem j0 j2)
          exact ⟨by rw [k4.keep _ u0 u1 m1]; exact m1, fun e2 => List.mem_append_left _ (m2 (hflag e2))⟩
        · exact ⟨by omega, fun _ => (k3.mem _).2 ⟨t0, t1, k5⟩⟩
      obtain ⟨rs2, ro2, rp2, m1, m2, m3, ⟨lf, lof, m4, m5, m6⟩, m7⟩ := ihi rs (lo ++ tt) rp k3 (Nat.le_trans k4.zero hm) hb' hC2 hin2
      refine ⟨rs2, ro2, rp2, Ev.step (fun k => by simp only [flow_visit.l0]; rw [if_pos i1, if_pos i0, if_pos t0, if_pos tl, if_pos e, wrap_in (by omega) (by omega)]) (Ev.bind k1 m1), fun seen hs => ?_, m3, ⟨lf, lof, m4, m5, k4.trans m6⟩, m7⟩
      obtain ⟨s1, g1, g2⟩ := k2 seen hs
      obtain ⟨s2, g3, g4⟩ := m2 s1 g1
      refine ⟨s2, g3, Ev.step (fun k => by simp only [plnref3_deep.l0]; rw [if_pos i1, if_pos i0, if_pos t0, if_pos (by rw [hs.1]; exact t1), if_neg (by rw [hs.2 _ t0 t1]; simp [e]), wrap_in (by omega) (by omega)]) (Ev.bind g2 g4)⟩
    ·
      have hD' : Dfs (nextOf l4) l4.length 0 ls lo true := hD.turn hC.met hw (hC.grey _ t0 t1 e)
      have hin2 : ∀ j, 0 ≤ j → j < i + 1 → j < ((nextOf l4 b).length : Int) → rd ls (rd (nextOf l4 b) j) ≠ 0 ∧ (true = false → rd (nextOf l4 b) j ∈ lo) := fun j j0 j1 j2 => by
        rcases Int.lt_or_eq_of_le (Int.le_of_lt_add_one j1) with hj | rfl
        · exact ⟨(hin j j0 hj j2).1, fun e2 => by cases e2⟩
        · exact ⟨by omega, fun e2 => by cases e2⟩
      obtain ⟨rs2, ro2, rp2, m1, m2, m3, ⟨lf, lof, m4, m5, m6⟩, m7⟩ := ihi ls lo true hD' hm hb hC hin2
      refine ⟨rs2, ro2, rp2, Ev.step (fun k => by simp only [flow_visit.l0]; rw [if_pos i1, if_pos i0, if_pos t0, if_pos tl, if_neg (by omega), if_pos e, wrap_in (by omega) (by omega)]) m1, fun seen hs => ?_, m3, ⟨lf, lof, m4, m5, ⟨m6.keep, m6.grey, m6.more, fun _ => m6.flag rfl, m6.zero⟩⟩, m7⟩
      obtain ⟨s2, g3, g4⟩ := m2 seen hs
      refine ⟨s2, g3, Ev.step (fun k => by simp only [plnref3_deep.l0]; rw [if_pos i1, if_pos i0, if_pos t0, if_pos (by rw [hs.1]; exact t1), if_pos (by rw [hs.2 _ t0 t1]; omega), wrap_in (by omega) (by omega)]) g4⟩
    ·
      have hin2 : ∀ j, 0 ≤ j → j < i + 1 → j < ((nextOf l4 b).length : Int) → rd ls (rd (nextOf l4 b) j) ≠ 0 ∧ (lp = false → rd (nextOf l4 b) j ∈ lo) := fun j j0 j1 j2 => by
        rcases Int.lt_or_eq_of_le (Int.le_of_lt_add_one j1) with hj | rfl
        · exact hin j j0 hj j2
        · exact ⟨by omega, fun _ => (hD.mem _).2 ⟨t0, t1, e⟩⟩
      obtain ⟨rs2, ro2, rp2, m1, m2, m3, m4, m7⟩ := ihi ls lo lp hD hm hb hC hin2
      refine ⟨rs2, ro2, rp2, Ev.step (fun k => by simp only [flow_visit.l0]; rw [if_pos i1, if_pos i0, if_pos t0, if_pos tl, if_neg (by omega), if_neg (by omega), wrap_in (by omega) (by omega)]) m1, fun seen hs => ?_, m3, m4, m7⟩
      obtain ⟨s2, g3, g4⟩ := m2 seen hs
      refine ⟨s2, g3, Ev.step (fun k => by simp only [plnref3_deep.l0]; rw [if_pos i1, if_pos i0, if_pos t0, if_pos (by rw [hs.1]; exact t1), if_pos (by rw [hs.2 _ t0 t1]; omega), wrap_in (by omega) (by omega)]) g4⟩
theorem visit_ev (h : IntoOk l4) : ∀ (m : Nat) (t : Int) ls lo lp, Dfs (nextOf l4) l4.length 0 ls lo lp → ls.count 0 ≤ m → 0 ≤ t → t < (l4.length : Int) → rd ls t = 0 → Comes l4 ls t →
      Ends a0 a1 l2 a3 l4 (fun k => flow_visit.f k a0 a1 l2 a3 l4 t ls lo lp) (fun seen k => plnref3_deep.f k a0 a1 l2 a3 l4 t seen lo) ls lo lp t (fun rs ro rp => Went l4.length ls lo rs ro lp rp) := by
  intro m
  induction m with
  | zero =>
    intro t ls lo lp hD hm t0 t1 ht _
    have := hD.len
    have : 0 < ls.count 0 := List.count_pos_iff.2 (ht ▸ rd_mem t0 (by omega))
    omega
  | succ m ih =>
    intro b ls lo lp hD hm b0 b1 hb hC
    have hl : b < (ls.length : Int) := by rw [hD.len]; exact b1
    have rs1 : ∀ v : Int, 0 ≤ v → rd (ls.set b.toNat 1) v = if b = v then 1 else rd ls v := fun v hv => rd_set b0 hl hv
    have hz := count_put (x := 1) (y := 0) b0 hl
    rw [hb] at hz
    simp at hz
    have hC1 : Comes l4 (ls.set b.toNat 1) b := by
      refine ⟨hC.met, fun v v0 v1 hv => ?_, hC.from_.imp id (fun ⟨p, p0, p1, pv, pn, hp⟩ => ⟨p, p0, p1, pv, pn, by rw [rs1 p p0]; split <;> first | rfl | exact hp⟩)⟩
      rw [rs1 v v0] at hv
      by_cases e : b = v
      · subst e; exact .refl trivial
      · rw [if_neg e] at hv; exact hC.grey v v0 v1 hv
    obtain ⟨rs, ro, rp, k1, k2, k3, ⟨lf, lof, k4, k5, k6⟩, k7⟩ := visit_loop h b b0 b1 m ih 0 (by omega) _ lo lp (hD.enter b0 b1 hb hC.met) (by omega) (by rw [rs1 b b0, if_pos rfl]) hC1 (fun j j0 j1 => by omega)
    have hlf : lf.length = l4.length := by have := k3.len; rw [k4, List.length_set] at this; exact this
    have rs2 : ∀ v : Int, 0 ≤ v → rd rs v = if b = v then 2 else rd lf v := fun v hv => by rw [k4]; exact rd_set b0 (by rw [hlf]; exact b1) hv
    refine ⟨rs, ro, rp, Ev.step (fun k => by simp only [flow_visit.f]; rw [if_pos b0, if_pos hl]) (Ev.bind (next_ev h b) k1), fun seen hs => ?_, k3, ⟨fun v v0 v1 hv => ?_, fun v v0 v1 hv => ?_, ?_, k6.flag, ?_⟩, k7⟩
    · obtain ⟨s1, g1, g2⟩ := k2 (seen.set b.toNat true) ⟨by simpa using hs.1, fun v v0 v1 => by
        rw [rdb_set b0 (by rw [hs.1]; exact b1) v0, rs1 v v0]
        by_cases e : b = v
        · simp [e]
        · rw [if_neg e, if_neg e]; exact hs.2 v v0 v1⟩
      exact ⟨s1, g1, Ev.step (fun k => by simp only [plnref3_deep.f]; rw [if_pos b0, if_pos (by rw [hs.1]; exact b1)]) (Ev.bind (rnext_ev h b) g2)⟩
    · have e : ¬ b = v := by rintro rfl; exact hv hb
      have e1 : rd (ls.set b.toNat 1) v = rd ls v := by rw [rs1 v v0, if_neg e]
      rw [rs2 v v0, if_neg e, k6.keep v v0 v1 (by rw [e1]; exact hv), e1]
    · rw [rs2 v v0] at hv
      have e : ¬ b = v := by rintro rfl; rw [if_pos rfl] at hv; omega
      rw [if_neg e] at hv
      have := k6.grey v v0 v1 hv
      rwa [rs1 v v0, if_neg e] at this
    · obtain ⟨t, ht⟩ := k6.more
      exact ⟨t ++ [b], by rw [k5, ht, List.append_assoc]⟩
    · have e2 := count_put (xs := lf) (x := 2) (y := 0) b0 (by rw [hlf]; exact b1)
      rw [← k4] at e2
      have hbf : rd lf b = 1 := by rw [k6.keep b b0 b1 (by rw [rs1 b b0, if_pos rfl]; omega), rs1 b b0, if_pos rfl]
      rw [hbf] at e2
      simp at e2
      have := k6.zero
      omega
structure Walked (l4 : List S54) (rs ro : List Int) (rp : Bool) : Prop where
  dfs : Dfs (nextOf l4) l4.length 0 rs ro rp
  done : ∀ v : Int, 0 ≤ v → v < (l4.length : Int) → rd rs v = 0 ∨ rd rs v = 2
  root : (0 : Int) < l4.length → (0 : Int) ∈ ro ∧ ro.idxOf 0 + 1 = ro.length
theorem walked_ev (h : IntoOk l4) : ∃ rs ro rp, Ev (fun k => flow_walked.f k a0 a1 l2 a3 l4) (rs, ro, rp) ∧ Walked l4 rs ro rp ∧
    ((0 : Int) < l4.length → ∃ seen, Ev (fun k => plnref3_deep.f k a0 a1 l2 a3 l4 0 (List.replicate l4.length false) []) (ro, seen)) := by
  have hn := h.1
  have z : ∀ v : Int, 0 ≤ v → v < (l4.length : Int) → rd (List.replicate l4.length 0) v = 0 := fun v v0 v1 => rd_replicate v0 v1
  have hD : Dfs (nextOf l4) l4.length 0 (List.replicate l4.length 0) [] false := by
    refine ⟨by simp, fun v v0 v1 => .inl (z v v0 v1), by simp, by simp [List.count_replicate], fun v => ?_, (fun v hv => by cases hv), (fun _ v hv => by cases hv), (fun v hv => by cases hv), fun v v0 v1 hv => absurd (z v v0 v1) hv, (fun e => by cases e)⟩
    constructor
    · intro hv; cases hv
    · rintro ⟨v0, v1, hv⟩; rw [z v v0 v1] at hv; omega
  by_cases c : 0 < (l4.length : Int)
  · obtain ⟨rs, ro, rp, k1, k2, k3, k4, k5⟩ := visit_ev (a0 := a0) (a1 := a1) (l2 := l2) (a3 := a3) h _ 0 _ [] false hD (Nat.le_refl _) (by omega) c (z 0 (by omega) c) ⟨.refl trivial, fun v v0 v1 hv => by rw [z v v0 v1] at hv; omega, .inl rfl⟩
    have h0 := (k3.mem 0).2 ⟨by omega, c, k5⟩
    have hgr : ∀ v : Int, 0 ≤ v → v < (l4.length : Int) → rd rs v ≠ 1 := fun v v0 v1 e => by
      have := k4.grey v v0 v1 e
      rw [z v v0 v1] at this
      omega
    refine ⟨rs, ro, rp, Ev.congr (fun k => by unfold flow_walked.f; rw [if_pos (by omega), if_pos c]) k1, ⟨k3, fun v v0 v1 => ?_, fun _ => ⟨h0, ?_⟩⟩, fun _ => ?_⟩
    · rcases k3.three v v0 v1 with e | e | e
      · exact .inl e
      · exact absurd e (hgr v v0 v1)
      · exact .inr e
    ·
      have hlt := List.idxOf_lt_length_iff.2 h0
      have hp : 0 < ro.length := by omega
      have hlast : ro[ro.length - 1] ∈ ro := List.getElem_mem _
      have hidx : ro.idxOf ro[ro.length - 1] = ro.length - 1 := List.Nodup.idxOf_getElem k3.nodup _ _
      rcases k3.tree _ hlast with e | ⟨p, p0, p1, _, hp1 | ⟨hp1, hp2⟩⟩
      · rw [e] at hidx; omega
      · exact absurd hp1 (hgr p p0 p1)
      · have := List.idxOf_lt_length_iff.2 hp1
        omega
    · obtain ⟨s, _, g⟩ := k2 (List.replicate l4.length false) ⟨by simp, fun v v0 v1 => by rw [rdb_replicate, z v v0 v1]; simp⟩
      exact ⟨s, g⟩
  · refine ⟨_, _, _, Ev.congr (fun k => by unfold flow_walked.f; rw [if_pos (by omega), if_neg c]) (Ev.now _), ⟨hD, fun v v0 v1 => .inl (z v v0 v1), fun hh => absurd hh c⟩, fun hh => absurd hh c⟩
end
end Go.Proofs.Ytkcimaibaicdcaa.Gr
end
section
set_option linter.unusedVariables false
namespace Go.Proofs.Ytkcimaibaicdcaa.Gr
open Go.RowKit Go.Proofs.YtkcimaibaicdcaaW.PrintWords Go.Proofs.Ytkcimaibaicdcaa.P
section
variable {a0 : ByteArray} {a1 : Bool} {l2 : List Int} {a3 : Int} {l4 : List S54}
theorem Walked.mem_iff (h : IntoOk l4) {rs ro : List Int} {rp : Bool} (hW : Walked l4 rs ro rp) (v : Int) : v ∈ ro ↔ (0 : Int) < l4.length ∧ Rc (nextOf l4) (fun _ => True) 0 v := by
  constructor
  · intro hv
    obtain ⟨v0, v1, v2⟩ := (hW.dfs.mem v).1 hv
    exact ⟨by omega, hW.dfs.met v v0 v1 (by omega)⟩
  · rintro ⟨hn, hr⟩
    refine hr.closed (S := fun x => x ∈ ro) (hW.root hn).1 fun x hx y hy _ => ?_
    obtain ⟨y0, y1⟩ := next_in hy
    exact (hW.dfs.mem y).2 ⟨y0, y1, (hW.done y y0 y1).resolve_left (hW.dfs.shut x hx y hy)⟩
theorem reach_l0 (rs : List Int) (hl : rs.length = l4.length) (hn : l4.length ≤ 5864062014634) : ∀ i, 0 ≤ i → ∀ o : List Bool, o.length = l4.length → (∀ v : Int, 0 ≤ v → v < i → v < (l4.length : Int) → rdOf false o v = (rd rs v != 0)) →
    ∃ r, Ev (fun k => flow_Reach.l0 k rs o i) r ∧ r.length = l4.length ∧ ∀ v : Int, 0 ≤ v → v < (l4.length : Int) → rdOf false r v = (rd rs v != 0) := by
  refine up_to (l4.length : Int) _ ?_ ?_
  · intro i hi o ho h
    exact ⟨o, Ev.step (fun k => by simp only [flow_Reach.l0]; rw [if_neg (by omega)]) (Ev.now _), ho, fun v v0 v1 => h v v0 (by omega) v1⟩
  · intro i i0 i1 ih o ho h
    obtain ⟨r, h1, h2⟩ := ih (o.set i.toNat (rd rs i != 0)) (by simpa using ho) (fun v v0 v1 v2 => by
      rw [rdb_set i0 (by omega) v0]
      by_cases e : i = v
      · subst e; rw [if_pos rfl]
      · rw [if_neg e]; exact h v v0 (by omega) v2)
    exact ⟨r, Ev.step (fun k => by simp only [flow_Reach.l0]; rw [if_pos (by omega), if_pos i0, if_pos (by omega), wrap_in (by omega) (by omega)]) h1, h2⟩
theorem rc_all (h : IntoOk l4) {v : Int} : Rc (nextOf l4) (fun _ => True) 0 v ↔ Rc (nextOf l4) (· ≠ -1) 0 v := by
  constructor
  · intro hr
    induction hr with
    | refl _ => exact .refl (by decide)
    | step _ h1 _ ih => exact .step ih h1 (by have := next_in h1; omega)
  · exact fun hr => hr.mono (fun _ _ => trivial)
theorem flow_reach_ev (h : IntoOk l4) : ∃ r, Ev (fun k => flow_Reach.f k a0 a1 l2 a3 l4) r ∧ FromIs l4 0 (-1) r := by
  have hn := h.1
  obtain ⟨rs, ro, rp, k1, hW, _⟩ := walked_ev (a0 := a0) (a1 := a1) (l2 := l2) (a3 := a3) h
  obtain ⟨r, m1, m2, m3⟩ := reach_l0 (l4 := l4) rs hW.dfs.len hn 0 (by omega) (List.replicate l4.length false) (by simp) (fun v v0 v1 => by omega)
  refine ⟨r, ?_, m2, fun v v0 v1 => ?_⟩
  · unfold flow_Reach.f
    refine Ev.bind k1 ?_
    simp only [if_pos (show l4.length ≤ 281474976710656 by omega)]
    exact m1
  · rw [m3 v v0 v1, ← rc_all h]
    have hm := hW.mem_iff h v
    constructor
    · intro hv
      have hv' : rd rs v ≠ 0 := by simpa using hv
      exact ⟨by omega, by omega, (hm.1 ((hW.dfs.mem v).2 ⟨v0, v1, (hW.done v v0 v1).resolve_left hv'⟩)).2⟩
    · rintro ⟨_, hn0, hr⟩
      have := ((hW.dfs.mem v).1 (hm.2 ⟨hn0, hr⟩)).2.2
      rw [this]
      rfl
theorem reverse_ev (x : List Int) (hx : x.length ≤ 9223372036854775807) : Ev (fun k => slices_Reverse_int_int.f k x) x.reverse := by
  have key : ∀ i, 0 ≤ i → ∀ y : List Int, y.length = x.length → i ≤ (x.length : Int) → (∀ q : Int, 0 ≤ q → q < (x.length : Int) → rd y q = if q < i ∨ (x.length : Int) - 1 - i < q then rd x ((x.length : Int) - 1 - q) else rd x q) → Ev (fun k => slices_Reverse_int_int.l0 k y i ((x.length : Int) - 1 - i)) x.reverse := by
    have fin : ∀ (i : Int) (y : List Int), y.length = x.length → ¬ i < (x.length : Int) - 1 - i → (∀ q : Int, 0 ≤ q → q < (x.length : Int) → rd y q = if q < i ∨ (x.length : Int) - 1 - i < q then rd x ((x.length : Int) - 1 - q) else rd x q) → y = x.reverse := by
      intro i y hy hi h
      refine List.ext_getElem (by simpa using hy) fun j j1 j2 => ?_
      have hj := h (j : Int) (by omega) (by omega)
      have e1 := rd_eq (xs := y) (i := (j : Int)) (by omega) (by omega)
      have e2 := rd_eq (xs := x) (i := (x.length : Int) - 1 - j) (by omega) (by omega)
      rw [Int.toNat_natCast, List.getElem?_eq_getElem j1] at e1
      have ej : ((x.length : Int) - 1 - j).toNat = x.length - 1 - j := by omega
      rw [ej, List.getElem?_eq_getElem (by omega)] at e2
      rw [List.getElem_reverse, Option.some.inj e1, Option.some.inj e2, hj]
      split
      · rfl
      · congr 1; omega
    refine up_to (x.length : Int) _ ?_ ?_
    · intro i hi y hy hle h
      rw [fin i y hy (by omega) h]
      refine Ev.step (fun k => by simp only [slices_Reverse_int_int.l0]; rw [if_neg (by omega)]) (Ev.now _)
    · intro i i0 i1 ih y hy hle h
      by_cases c : i < (x.length : Int) - 1 - i
      · have hs : ∀ q : Int, 0 ≤ q → rd ((y.set i.toNat (rd y ((x.length : Int) - 1 - i))).set ((x.length : Int) - 1 - i).toNat (rd y i)) q = if (x.length : Int) - 1 - i = q then rd y i else if i = q then rd y ((x.length : Int) - 1 - i) else rd y q := fun q q0 => by
          rw [rd_set (by omega) (by simp; omega) q0, rd_set i0 (by omega) q0]
        have := ih ((y.set i.toNat (rd y ((x.length : Int) - 1 - i))).set ((x.length : Int) - 1 - i).toNat (rd y i)) (by simpa using hy) (by omega) (fun q q0 q1 => by
          have hi : rd y i = rd x i := by rw [h i i0 i1, if_neg (by omega)]
          have hj : rd y ((x.length : Int) - 1 - i) = rd x ((x.length : Int) - 1 - i) := by rw [h _ (by omega) (by omega), if_neg (by omega)]
          rw [hs q q0, hi, hj, h q q0 q1]
          by_cases e1 : (x.length : Int) - 1 - i = q
          · rw [if_pos e1, if_pos (by omega)]; congr 1; omega
          · by_cases e2 : i = q
            · rw [if_neg e1, if_pos e2, if_pos (by omega)]; congr 1; omega
            · rw [if_neg e1, if_neg e2]
              by_cases e3 : q < i ∨ (x.length : Int) - 1 - i < q
              · rw [if_pos e3, if_pos (by omega)]
              · rw [if_neg e3, if_neg (by omega)])
        have e : (x.length : Int) - 1 - (i + 1) = (x.length : Int) - 1 - i - 1 := by omega
        rw [e] at this
        exact Ev.step (fun k => by simp only [slices_Reverse_int_int.l0]; rw [if_pos c, if_pos (by omega), if_pos (by omega), if_pos i0, if_pos (by omega), wrap_in (by omega) (by omega), wrap_in (by omega) (by omega)]) this
      · rw [fin i y hy c h]
        exact Ev.step (fun k => by simp only [slices_Reverse_int_int.l0]; rw [if_neg (by simpa using c)]) (Ev.now _)
  have := key 0 (by omega) x rfl (by omega) (fun q q0 q1 => by rw [if_neg (by omega)])
  unfold slices_Reverse_int_int.f
  rw [wrap_in (by omega) (by omega)]
  simpa using this
theorem order_l0 (x : List Int) (hx : x.length ≤ 17592186044416) : ∀ (d : Nat) (y : List Int), (d : Int) ≤ (x.length : Int) → y.length + d ≤ x.length → Ev (fun k => plnref3_Order.l0 k x y ((d : Int) - 1)) (y ++ (x.take d).reverse) := by
  intro d
  induction d with
  | zero =>
    intro y _ _
    have := Ev.step (g := fun k => plnref3_Order.l0 k x y (((0 : Nat) : Int) - 1)) (r := y) (fun k => by simp only [plnref3_Order.l0]; rw [if_neg (by omega)]) (Ev.now _)
    simpa using this
  | succ d ih =>
    intro y hd hy
    have e : ((d + 1 : Nat) : Int) - 1 = (d : Int) := by omega
    rw [e]
    have := ih (y ++ [rd x d]) (by omega) (by simp; omega)
    have e2 : (x.take (d + 1)).reverse = rd x d :: (x.take d).reverse := by
      have h1 := rd_eq (xs := x) (i := (d : Int)) (by omega) (by omega)
      rw [Int.toNat_natCast] at h1
      rw [List.take_add_one, h1]
      simp
    rw [e2]
    refine Ev.step (fun k => by simp only [plnref3_Order.l0]; rw [if_pos (by omega), if_pos (by omega), if_pos (by omega), if_pos (by omega), wrap_in (by omega) (by omega)]) ?_
    simpa using this
theorem order_ev (h : IntoOk l4) : ∃ rs ro rp, Walked l4 rs ro rp ∧ Ev (fun k => flow_Order.f k a0 a1 l2 a3 l4) ro.reverse ∧ Ev (fun k => plnref3_Order.f k a0 a1 l2 a3 l4) ro.reverse ∧ Ev (fun k => flow_Loops.f k a0 a1 l2 a3 l4) rp := by
  have hn := h.1
  obtain ⟨rs, ro, rp, k1, hW, k2⟩ := walked_ev (a0 := a0) (a1 := a1) (l2 := l2) (a3 := a3) h
  have hlen : ro.length ≤ l4.length := by have := hW.dfs.size; have := List.count_le_length (l := rs) (a := 2); have := hW.dfs.len; omega
  refine ⟨rs, ro, rp, hW, ?_, ?_, ?_⟩
  · unfold flow_Order.f
    exact Ev.bind k1 (reverse_ev ro (by omega))
  · by_cases c : (l4.length : Int) = 0
    · have : ro = [] := by
        have : ro.length = 0 := by omega
        exact List.eq_nil_of_length_eq_zero this
      rw [this, List.reverse_nil]
      exact Ev.congr (fun k => by unfold plnref3_Order.f; rw [if_pos c]) (Ev.now _)
    · obtain ⟨seen, k3⟩ := k2 (by omega)
      refine Ev.congr (fun k => by unfold plnref3_Order.f; rw [if_neg c, if_pos (by omega), if_pos (by simp; omega), Int.toNat_natCast]) (Ev.bind k3 ?_)
      have := order_l0 ro (by omega) ro.length [] (by omega) (by simp)
      simp only [wrap_in (show -9223372036854775808 ≤ (ro.length : Int) - 1 by omega) (by omega)]
      simpa using this
  · unfold flow_Loops.f
    exact Ev.bind k1 (Ev.now _)
theorem light_ev (h : IntoOk l4) : ∃ r, Ev (fun k => plnkeep_Light.f k a0 a1 l2 a3 l4) r ∧ (r = true → l4.length ≤ 16) := by
  have l0 : ∀ b, 0 ≤ b → ∀ n, 0 ≤ n → n ≤ 90 → l4.length ≤ 16 → ∃ r, Ev (fun k => plnkeep_Light.l0 k n b a0 a1 l2 a3 l4) r := by
    refine up_to (l4.length : Int) _ ?_ ?_
    · intro b hb n n0 n1 hl
      exact ⟨true, Ev.step (fun k => by simp only [plnkeep_Light.l0]; rw [if_neg (by omega)]) (Ev.now _)⟩
    · intro b b0 b1 ih n n0 n1 hl
      obtain ⟨h1, h2⟩ := h.2 b b0 b1
      have hw : wrap64 (n + ((rd_T54 l4 b).f0.length : Int)) = n + ((rd_T54 l4 b).f0.length : Int) := wrap_in (by omega) (by omega)
      by_cases c : n + ((rd_T54 l4 b).f0.length : Int) > 90
      · exact ⟨false, Ev.step (fun k => by simp only [plnkeep_Light.l0]; rw [if_pos b1, if_pos b0, hw, if_pos c]) (Ev.now _)⟩
      · have l1 : ∀ i, 0 ≤ i → ∃ r, Ev (fun k => plnkeep_Light.l1 k (n + ((rd_T54 l4 b).f0.length : Int)) b i a0 a1 l2 a3 l4) r := by
          refine up_to ((rd_T54 l4 b).f0.length : Int) _ ?_ ?_
          · intro i hi
            obtain ⟨r, hr⟩ := ih (n + ((rd_T54 l4 b).f0.length : Int)) (by omega) (by omega) hl
            exact ⟨r, Ev.step (fun k => by simp only [plnkeep_Light.l1]; rw [if_pos b0, if_pos b1, if_neg (by omega), wrap_in (by omega) (by omega)]) hr⟩
          · intro i i0 i1 ⟨r, hr⟩
            by_cases c1 : ((rd_T56 (rd_T54 l4 b).f0 i).f5.length : Int) > 20
            · exact ⟨false, Ev.step (fun k => by simp only [plnkeep_Light.l1]; rw [if_pos b0, if_pos b1, if_pos i1, if_pos i0, if_pos c1]) (Ev.now _)⟩
            by_cases c2 : ((rd_T56 (rd_T54 l4 b).f0 i).f6.length : Int) > 20
            · exact ⟨false, Ev.step (fun k => by simp only [plnkeep_Light.l1]; rw [if_pos b0, if_pos b1, if_pos i1, if_pos i0, if_neg c1, if_pos c2]) (Ev.now _)⟩
            exact ⟨r, Ev.step (fun k => by simp only [plnkeep_Light.l1]; rw [if_pos b0, if_pos b1, if_pos i1, if_pos i0, if_neg c1, if_neg c2, wrap_in (by omega) (by omega)]) hr⟩
        obtain ⟨r, hr⟩ := l1 0 (by omega)
        exact ⟨r, Ev.step (fun k => by simp only [plnkeep_Light.l0]; rw [if_pos b1, if_pos b0, hw, if_neg c]) hr⟩
  have j0 : ∀ t, (t = false → l4.length ≤ 16) → ∃ r, Ev (fun k => plnkeep_Light.j0 k t a0 a1 l2 a3 l4) r ∧ (r = true → l4.length ≤ 16) := fun t ht => by
    cases t with
    | true => exact ⟨false, Ev.step (fun k => by simp only [plnkeep_Light.j0]; rw [if_pos trivial]) (Ev.now _), fun e => by cases e⟩
    | false =>
      obtain ⟨r, hr⟩ := l0 0 (by omega) 0 (by omega) (by omega) (ht rfl)
      exact ⟨r, Ev.step (fun k => by simp only [plnkeep_Light.j0]; rw [if_neg (by decide)]) hr, fun _ => ht rfl⟩
  by_cases c1 : (a0.size : Int) > 40
  · obtain ⟨r, h1, h2⟩ := j0 true (fun e => by cases e)
    exact ⟨r, Ev.congr (fun k => by unfold plnkeep_Light.f; rw [if_pos c1]) h1, h2⟩
  by_cases c2 : (l2.length : Int) > 8
  · obtain ⟨r, h1, h2⟩ := j0 true (fun e => by cases e)
    exact ⟨r, Ev.congr (fun k => by unfold plnkeep_Light.f; rw [if_neg c1, if_pos c2]) h1, h2⟩
  · obtain ⟨r, h1, h2⟩ := j0 (decide ((l4.length : Int) > 16)) (fun e => by simp at e; omega)
    exact ⟨r, Ev.congr (fun k => by unfold plnkeep_Light.f; rw [if_neg c1, if_neg c2]) h1, h2⟩
end
theorem first_ev : Ev (fun k => plnlaw4_first.f k) true := Ev.of (k := 60) (fun k => plnlaw4_first.mono k) (by decide +kernel)
end Go.Proofs.Ytkcimaibaicdcaa.Gr
end
