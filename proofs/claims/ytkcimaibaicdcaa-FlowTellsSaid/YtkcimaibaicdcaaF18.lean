/- A part of the proof of the law of FlowTells: lemmas and walks, out of this session's texts, with what the claim does not use struck out. -/
import Derived.Test.YtkcimaibaicdcaaF6
import Derived.Test.YtkcimaibaicdcaaF17
namespace Go.Proofs.Ytkcimaibaicdcaa.P
open Go.RowKit Go.Proofs.YtkcimaibaicdcaaW.PrintWords Go.Proofs.YtkcimaibaicdcaaW.PrintLast Go.Proofs.YtkcimaibaicdcaaW.PrintMore
attribute [local go_sem] max2_int min2_int max_two min_two max_three min_three max_four min_four   
set_option linter.unusedVariables false
set_option linter.unusedSimpArgs false
def plnref3_Order.l0 : Nat → List Int → List Int → Int → Option (List Int)
 | 0, _, _, _ => none
 | k + 1, x4, x5, x6 => if x6 ≥ 0 then (if 0 ≤ x6 then (if x6 < (x4.length : Int) then (if x5.length < 17592186044416 then (plnref3_Order.l0 k x4 (x5 ++ [rd x4 x6]) (wrap64 (x6 - 1))) else (none)) else (none)) else (none)) else (some x5)
def plnref3_Order.f (k : Nat) (a0_0 : ByteArray) (a0_1 : Bool) (l0_2 : List Int) (a0_3 : Int) (l0_4 : List (S54)) : Option (List Int) := if (l0_4.length : Int) = 0 then (some ([] : List Int)) else (if 0 ≤ (l0_4.length : Int) then (if ((l0_4.length : Int) : Int).toNat ≤ 281474976710656 then ((plnref3_deep.f k a0_0 a0_1 l0_2 a0_3 l0_4 0 (List.replicate ((l0_4.length : Int) : Int).toNat false) ([] : List Int)).bind fun bt264 => (plnref3_Order.l0 k bt264.1 ([] : List Int) (wrap64 ((bt264.1.length : Int) - 1)))) else (none)) else (none))
theorem plnref3_Order.mono_l : ∀ k, (∀ y0 y1 y2, LeO (plnref3_Order.l0 k y0 y1 y2) (plnref3_Order.l0 (k + 1) y0 y1 y2))
 | 0 => fun _ _ _ r h => by simp [plnref3_Order.l0] at h
 | k + 1 => by
  have ih0 := plnref3_Order.mono_l k
  ·intro y0 y1 y2
   unfold plnref3_Order.l0
   repeat' first
   | (with_reducible exact ih0 _ _ _)
   | (with_reducible exact plnref3_deep.mono _ _ _ _ _ _ _ _ _)
   | (with_reducible exact LeO.refl _)
   | (with_reducible exact LeO.none _)
   | (with_reducible refine LeO.ite ?_ ?_)
   | (with_reducible refine LeO.bind ?_ (fun _ => ?_))
   | exact ih0 _ _ _
   | exact plnref3_deep.mono _ _ _ _ _ _ _ _ _
   | exact LeO.none _
   | refine LeO.ite ?_ ?_
   | refine LeO.bind ?_ (fun _ => ?_)
theorem plnref3_Order.mono : ∀ a0 a1 a2 a3 a4 k, LeO (plnref3_Order.f k a0 a1 a2 a3 a4) (plnref3_Order.f (k + 1) a0 a1 a2 a3 a4) := by
 intro a0 a1 a2 a3 a4 k
 have ih0 := plnref3_Order.mono_l k
 unfold plnref3_Order.f
 repeat' first
   | (with_reducible exact ih0 _ _ _)
   | (with_reducible exact plnref3_deep.mono _ _ _ _ _ _ _ _ _)
   | (with_reducible exact LeO.refl _)
   | (with_reducible exact LeO.none _)
   | (with_reducible refine LeO.ite ?_ ?_)
   | (with_reducible refine LeO.bind ?_ (fun _ => ?_))
   | exact ih0 _ _ _
   | exact plnref3_deep.mono _ _ _ _ _ _ _ _ _
   | exact LeO.none _
   | refine LeO.ite ?_ ?_
   | refine LeO.bind ?_ (fun _ => ?_)
set_option maxHeartbeats 8000000 in
set_option maxRecDepth 100000 in
theorem plnref3_Order.calls (k : Nat) (a0_0 : ByteArray) (a0_1 : Bool) (A0_2 : Option Addr) (c0_2 : Nat) (l0_2 : List Int) (a0_3 : Int) (A0_4 : Option Addr) (c0_4 : Nat) (l0_4 : List (S54)) (r : List Int) (w : World) (hr0_2 : Kd.C (Kd.int .i64) w A0_2 l0_2.length l0_2) (hc0_2 : l0_2.length ≤ c0_2) (hr0_4 : Kd.C k54 w A0_4 l0_4.length l0_4) (hc0_4 : l0_4.length ≤ c0_4) (h : plnref3_Order.f k a0_0 a0_1 l0_2 a0_3 l0_4 = some r) :
  Calls Try.prog 28 #[.agg #[.string a0_0, .bool a0_1, .slice A0_2 l0_2.length c0_2, .int .i64 a0_3, .slice A0_4 l0_4.length c0_4]] w fun e w' => ∃ v0_ : Value, e = .returned (v0_) ∧ Kd.R (Kd.int .i64) 3 w' w.heap.size (fun _ => True) v0_ r ∧ Below w.heap.size w w' := by
 have hu25 := Try.underlying25
 have HR0_2 := Aside0.mk hr0_2
 have HC0_2 := Aside0.mk hc0_2
 clear hr0_2 hc0_2
 have HR0_4 := Aside0.mk hr0_4
 have HC0_4 := Aside0.mk hc0_4
 clear hr0_4 hc0_4; have HB := Aside0.mk (Below.refl w.heap.size w)
 have H : (if (l0_4.length : Int) = 0 then (some ([] : List Int)) else (if 0 ≤ (l0_4.length : Int) then (if ((l0_4.length : Int) : Int).toNat ≤ 281474976710656 then ((plnref3_deep.f k a0_0 a0_1 l0_2 a0_3 l0_4 0 (List.replicate ((l0_4.length : Int) : Int).toNat false) ([] : List Int)).bind fun bt264 => (plnref3_Order.l0 k bt264.1 ([] : List Int) (wrap64 ((bt264.1.length : Int) - 1)))) else (none)) else (none))) = some r := h
 clear h
 by_cases c2 : (l0_4.length : Int) = 0
 ·rw [if_pos c2] at H
  have c2b0 : ((l0_4.length : Int) == 0) = true := beq_iff_eq.mpr c2
  have c2b1 : ((l0_4.length : Int) != 0) = false := bne_eq_false_iff_eq.mpr c2
  clear c2
  obtain rfl := Option.some.inj H
  go_enter Try.func28, Try.ntmps28
  go_wp2_with (first | ((with_reducible refine gate_dst (N := 1) rfl ?_); refine box_event ?hg (N := 1) ?hd (cs := #[.string a0_0, .bool a0_1, .slice A0_2 l0_2.length c0_2, .int .i64 a0_3, .slice A0_4 l0_4.length c0_4]) (t := 25) ?hr ?_; (case hd => rfl); (case hg => rfl); (case hr => first | (go_simp; done) | (go_simp; rfl)); intro gb260 hg w3 hbox hb; have n0_ := Aside0.mk (below_step (by repeat (first | (with_reducible first | exact HB.out | apply below_alloc | apply pw_below_drewN | apply below_drew1) | exact HB.out)) hb); have n1_ := Aside0.mk (hbox); have n2_ := Aside0.mk ((by rw [hg]; exact (below_size (by repeat (first | (with_reducible first | exact HB.out | apply below_alloc | apply pw_below_drewN | apply below_drew1) | exact HB.out))) : w.heap.size ≤ gb260)); have n3_ := Aside0.mk ((by rw [hg]; exact (below_size (by repeat (first | (with_reducible first | exact HB.out | apply below_alloc | apply pw_below_drewN | apply below_drew1) | exact HB.out))) : w.heap.size ≤ gb260)); clear HB; have HB := n0_; have BK260 := n1_; have GW260 := n2_; have GE260 := n3_; clear n0_ n1_ n2_ n3_; clear hb hbox hg; have hcz4_0 : w3.cell? ⟨gb260, 0, none⟩ = some (.string a0_0) := (blk_cell BK260.out 0).trans rfl; have hcz4_1 : w3.cell? ⟨gb260, 1, none⟩ = some (.bool a0_1) := (blk_cell BK260.out 1).trans rfl; have hcz4_2 : w3.cell? ⟨gb260, 2, none⟩ = some (.slice A0_2 l0_2.length c0_2) := (blk_cell BK260.out 2).trans rfl; have hcz4_3 : w3.cell? ⟨gb260, 3, none⟩ = some (.int .i64 a0_3) := (blk_cell BK260.out 3).trans rfl; have hcz4_4 : w3.cell? ⟨gb260, 4, none⟩ = some (.slice A0_4 l0_4.length c0_4) := (blk_cell BK260.out 4).trans rfl; have hfz4_0 := blk_frozen BK260.out 0; have hfz4_1 := blk_frozen BK260.out 1; have hfz4_2 := blk_frozen BK260.out 2; have hfz4_3 := blk_frozen BK260.out 3; have hfz4_4 := blk_frozen BK260.out 4))
  go_ret
  exact ⟨_, by first | rfl | (simp [errW_none, errW_some] <;> rfl) | (simp [*, errW_none, errW_some] <;> rfl), by first | exact Kd.R_nil _ _ _ _ _ | exact Kd.N_nil _ _ _ _ _ | exact Kd.V_nil _ _ _ _ _ | exact Kd.Q_nil _ _ _ _ _ | exact Kd.S_nil _ _ _ _ _, by repeat (first | (with_reducible first | exact HB.out | apply below_alloc | apply pw_below_drewN | apply below_drew1 | refine below_set ?_ GE260.out) | exact HB.out)⟩
 ·rw [if_neg c2] at H
  have c2b0 : ((l0_4.length : Int) == 0) = false := beq_eq_false_iff_ne.mpr c2
  have c2b1 : ((l0_4.length : Int) != 0) = true := bne_iff_ne.mpr c2
  have c2b2 : ¬ (l0_4 = []) := fun h_ => c2 (by rw [h_]; rfl)
  by_cases c5 : 0 ≤ (l0_4.length : Int)
  ·rw [if_pos c5] at H
   have c5b0 := eq_true c5
   have c5b1 : decide (0 ≤ (l0_4.length : Int)) = true := decide_eq_true c5
   clear c5
   by_cases c6 : ((l0_4.length : Int) : Int).toNat ≤ 281474976710656
   ·rw [if_pos c6] at H
    have c6b0 := eq_true c6
    have c6b1 : decide (((l0_4.length : Int) : Int).toNat ≤ 281474976710656) = true := decide_eq_true c6
    clear c6
    obtain ⟨y261, hy261⟩ : ∃ y_ : List Bool, y_ = (List.replicate ((l0_4.length : Int) : Int).toNat false) := ⟨_, rfl⟩
    replace H : ((plnref3_deep.f k a0_0 a0_1 l0_2 a0_3 l0_4 0 y261 ([] : List Int)).bind fun bt264 => (plnref3_Order.l0 k bt264.1 ([] : List Int) (wrap64 ((bt264.1.length : Int) - 1)))) = some r := by first | (rw [hy261]; with_reducible exact H) | (have H2_ := (Option.bind_some _ _).symm.trans H; rw [hy261]; with_reducible exact H2_) | (have H2_ := (Option.bind_some _ _).symm.trans H; with_reducible exact H2_) | with_reducible exact H | (rw [hy261]; exact H) | exact H
    have Ny261 := Aside0.mk hy261
    clear hy261
    replace H := Option.bind_eq_some_iff.mp H
    obtain ⟨⟨t264, t267⟩, A70, H⟩ := H
    replace H : (plnref3_Order.l0 k t264 ([] : List Int) (wrap64 ((t264.length : Int) - 1))) = some r := H
    have A7 := Aside0.mk A70
    clear A70
    have H' := Aside0.mk H
    clear H
    go_enter Try.func28, Try.ntmps28
    go_wp2_with (first | ((with_reducible refine gate_dst (N := 1) rfl ?_); refine box_event ?hg (N := 1) ?hd (cs := #[.string a0_0, .bool a0_1, .slice A0_2 l0_2.length c0_2, .int .i64 a0_3, .slice A0_4 l0_4.length c0_4]) (t := 25) ?hr ?_; (case hd => rfl); (case hg => rfl); (case hr => first | (go_simp; done) | (go_simp; rfl)); intro gb260 hg w8 hbox hb; have n0_ := Aside0.mk (below_step (by repeat (first | (with_reducible first | exact HB.out | apply below_alloc | apply pw_below_drewN | apply below_drew1) | exact HB.out)) hb); have n1_ := Aside0.mk (hbox); have n2_ := Aside0.mk ((by rw [hg]; exact (below_size (by repeat (first | (with_reducible first | exact HB.out | apply below_alloc | apply pw_below_drewN | apply below_drew1) | exact HB.out))) : w.heap.size ≤ gb260)); have n3_ := Aside0.mk ((by rw [hg]; exact (below_size (by repeat (first | (with_reducible first | exact HB.out | apply below_alloc | apply pw_below_drewN | apply below_drew1) | exact HB.out))) : w.heap.size ≤ gb260)); clear HB; have HB := n0_; have BK260 := n1_; have GW260 := n2_; have GE260 := n3_; clear n0_ n1_ n2_ n3_; clear hb hbox hg; have hcz9_0 : w8.cell? ⟨gb260, 0, none⟩ = some (.string a0_0) := (blk_cell BK260.out 0).trans rfl; have hcz9_1 : w8.cell? ⟨gb260, 1, none⟩ = some (.bool a0_1) := (blk_cell BK260.out 1).trans rfl; have hcz9_2 : w8.cell? ⟨gb260, 2, none⟩ = some (.slice A0_2 l0_2.length c0_2) := (blk_cell BK260.out 2).trans rfl; have hcz9_3 : w8.cell? ⟨gb260, 3, none⟩ = some (.int .i64 a0_3) := (blk_cell BK260.out 3).trans rfl; have hcz9_4 : w8.cell? ⟨gb260, 4, none⟩ = some (.slice A0_4 l0_4.length c0_4) := (blk_cell BK260.out 4).trans rfl; have hfz9_0 := blk_frozen BK260.out 0; have hfz9_1 := blk_frozen BK260.out 1; have hfz9_2 := blk_frozen BK260.out 2; have hfz9_3 := blk_frozen BK260.out 3; have hfz9_4 := blk_frozen BK260.out 4) | ((with_reducible refine gate_dst (N := 14) rfl ?_); refine Kd.R_make Kd.bool _ 4 rfl (N := 14) rfl 34 _ _ rfl (l0_4.length : Int) rfl rfl Try.underlying34 (.bool false) 1 info4 rfl (by decide) (by omega) false (ok := fun _ => True) (okp := fun _ => True) rfl (fun _ hk => hk) trivial (of_decide_eq_true (by first | (with_reducible assumption) | assumption)) (Nat.le_trans (Nat.mul_le_mul_right _ (of_decide_eq_true (by first | (with_reducible assumption) | assumption) : (l0_4.length : Int).toNat ≤ 281474976710656)) (by omega)) (Below.refl _ _) (Nat.le_refl _) ?_; intro v262 w10 ho11 hb hg_ hnew_; clear hg_ hnew_; (first | rw [← Ny261.out] at ho11 | (simp only [Int.reduceToNat] at ho11; rw [← Ny261.out] at ho11)); have n0_ := Aside0.mk (Kd.R_lower ho11 (below_size (by repeat (first | (with_reducible first | exact HB.out | apply below_alloc | apply pw_below_drewN | apply below_drew1 | refine below_set ?_ GE260.out) | exact HB.out)))); have n1_ := Aside0.mk (blk_below (g := gb260) (o := .cells #[.string a0_0, .bool a0_1, .slice A0_2 l0_2.length c0_2, .int .i64 a0_3, .slice A0_4 l0_4.length c0_4] 25 (0, 0)) (by (with_reducible repeat (first | refine blk_drewN ?_ _ | refine blk_drew ?_ | refine blk_alloc ?_ _)); exact BK260.out) hb); have n2_ := Aside0.mk (below_step (by repeat (first | (with_reducible first | exact HB.out | apply below_alloc | apply pw_below_drewN | apply below_drew1 | refine below_set ?_ GE260.out) | exact HB.out)) hb); clear BK260; clear HB; have HO263 := n0_; have BK260 := n1_; have HB := n2_; clear n0_ n1_ n2_; clear hb ho11; have hcz12_0 : w10.cell? ⟨gb260, 0, none⟩ = some (.string a0_0) := (blk_cell BK260.out 0).trans rfl; have hcz12_1 : w10.cell? ⟨gb260, 1, none⟩ = some (.bool a0_1) := (blk_cell BK260.out 1).trans rfl; have hcz12_2 : w10.cell? ⟨gb260, 2, none⟩ = some (.slice A0_2 l0_2.length c0_2) := (blk_cell BK260.out 2).trans rfl; have hcz12_3 : w10.cell? ⟨gb260, 3, none⟩ = some (.int .i64 a0_3) := (blk_cell BK260.out 3).trans rfl; have hcz12_4 : w10.cell? ⟨gb260, 4, none⟩ = some (.slice A0_4 l0_4.length c0_4) := (blk_cell BK260.out 4).trans rfl; have hfz12_0 := blk_frozen BK260.out 0; have hfz12_1 := blk_frozen BK260.out 1; have hfz12_2 := blk_frozen BK260.out 2; have hfz12_3 := blk_frozen BK260.out 3; have hfz12_4 := blk_frozen BK260.out 4; obtain ⟨Ao13, co13, eo13⟩ := Kd.R_slice HO263.out; subst eo13) | ((with_reducible refine gate_callee (f := 67) rfl ?_); refine goesL_ (some 18) rfl rfl Try.func67 (by kernel_rfl) rfl #[.agg #[.string a0_0, .bool a0_1, .slice A0_2 l0_2.length c0_2, .int .i64 a0_3, .slice A0_4 l0_4.length c0_4], .int .i64 0, .slice Ao13 y261.length co13, .slice none 0 0] rfl (by (try simp only [List.map_toArray, List.map_cons, List.map_nil]); first | done | rfl | (simp only [List.length_drop, List.length_take]; rfl)) ?_; (refine (plnref3_deep.calls k a0_0 a0_1 _ _ l0_2 a0_3 _ _ l0_4 0 (fun k_ => some k_ = (.slice Ao13 y261.length co13 : Value).ownBlock) (.slice Ao13 y261.length co13) y261 (fun k_ => some k_ = (.slice none 0 0 : Value).ownBlock) (.slice none 0 0) ([] : List Int) t264 t267 w _ ?side1 ?side2 ?side3 ?side4 ?side5 ?side6 ?side7 A7.out).mono ?_); (case side1 => repeat (first | (with_reducible first | exact HB.out | apply below_alloc | apply pw_below_drewN | apply below_drew1 | refine below_set ?_ GE260.out) | exact HB.out)); (case side2 => exact Kd.C_kept_came (Kd.heap_int .i64) HR0_2.out (by repeat (first | (with_reducible first | exact HB.out | apply below_alloc | apply pw_below_drewN | apply below_drew1 | refine below_set ?_ GE260.out) | exact HB.out)) (fun k_ hs_ => Or.elim hs_ (fun e_ => (fun e_ => Kd.R_base HO263.out k_ e_.symm) e_) (fun e_ => (fun e_ => by simp [Value.ownBlock] at e_) e_))); (case side3 => exact HC0_2.out); (case side4 => exact Kd.C_kept_came k54_heap HR0_4.out (by repeat (first | (with_reducible first | exact HB.out | apply below_alloc | apply pw_below_drewN | apply below_drew1 | refine below_set ?_ GE260.out) | exact HB.out)) (fun k_ hs_ => Or.elim hs_ (fun e_ => (fun e_ => Kd.R_base HO263.out k_ e_.symm) e_) (fun e_ => (fun e_ => by simp [Value.ownBlock] at e_) e_))); (case side5 => exact HC0_4.out); (case side6 => exact Kd.R_tight rfl HO263.out); (case side7 => exact Kd.R_nil _ _ _ _ _); rintro e w14 ⟨v265, rfl, ho0, hy0, hb, hkp⟩; refine ⟨_, rfl, ?_⟩; have n0_ := Aside0.mk (blk_kept (by (with_reducible repeat (first | refine blk_drewN ?_ _ | refine blk_drew ?_ | refine blk_alloc ?_ _)); exact BK260.out) hkp (fun hs_ => Or.elim hs_ (fun e_ => (fun e_ => (Kd.R_ne HO263.out BK260.out (by decide)) e_) e_) (fun e_ => (fun e_ => by simp [Value.ownBlock] at e_) e_))); have n1_ := Aside0.mk (Kd.R_reok rfl hy0 (fun k_ e_ => HO263.out.1 k_ e_)); have n2_ := Aside0.mk (Kd.R_mono (ok' := fun k_ => True) ho0 (fun k_ hk_ => trivial)); have n3_ := Aside0.mk (hb); clear BK260; clear HO263; clear HB; have BK260 := n0_; have HO263 := n1_; have HO266 := n2_; have HB := n3_; clear n0_ n1_ n2_ n3_; (try clear hb); (try clear hkp); (try clear ho0); (try clear hy0); obtain ⟨Ao15, co15, eo15⟩ := Kd.R_slice HO266.out; subst eo15))
    go_loopg [5, 6] k (fun kq v5 v6 w' => ∃ (x5_1 : List Int) (x6_1 : Int), v6 = .int .i64 x6_1 ∧ Aside0 (plnref3_Order.l0 kq t264 x5_1 x6_1 = some r) ∧ Aside0 (kq ≤ k) ∧ Aside0 (Kd.R (Kd.int .i64) 3 w' w.heap.size (fun k_ => some k_ ≠ (v5 : Value).ownBlock) (.slice Ao15 t264.length co15) t264) ∧ Aside0 (Kd.R (Kd.int .i64) 3 w' w.heap.size (fun k_ => some k_ ≠ ((.slice Ao15 t264.length co15) : Value).ownBlock) v5 x5_1) ∧ Aside0 (w'.heap[gb260]? = some (.cells #[.string a0_0, .bool a0_1, (.slice A0_2 l0_2.length c0_2), .int .i64 a0_3, (.slice A0_4 l0_4.length c0_4)] 25 (0, 0))) ∧ Aside0 (Below w.heap.size w w'))
    case atStart => exact ⟨(([] : List Int)), (wrap64 ((t264.length : Int) - 1)), (by first | rfl | (simp; done) | (simp [*]; done)), H', ⟨Nat.le_refl _⟩, ⟨by (with_reducible repeat (first | apply Kd.R_alloc | apply Kd.R_drewN | apply Kd.R_drew)); exact Kd.R_mono HO266.out (fun _ hk => (by simp [Value.ownBlock]))⟩, ⟨by first | exact Kd.R_nil _ _ _ _ _ | exact Kd.N_nil _ _ _ _ _ | exact Kd.V_nil _ _ _ _ _ | exact Kd.Q_nil _ _ _ _ _ | exact Kd.S_nil _ _ _ _ _⟩, ⟨by (with_reducible repeat (first | refine blk_drewN ?_ _ | refine blk_drew ?_ | refine blk_alloc ?_ _)); exact BK260.out⟩, ⟨by repeat (first | (with_reducible first | exact HB.out | apply below_alloc | apply pw_below_drewN | apply below_drew1 | refine below_set ?_ GE260.out) | exact HB.out)⟩⟩
    case round =>
     clear H'
     try clear c2
     try clear c2b0
     try clear c2b1
     try clear c2b2
     try clear p2
     try clear c5
     try clear c5b0
     try clear c5b1
     try clear c6
     try clear c6b0
     try clear c6b1
     try clear p6
     try clear hcz12_0
     try clear hcz12_1
     try clear hcz12_2
     try clear hcz12_3
     try clear hcz12_4
     try clear hcz4_0
     try clear hcz4_1
     try clear hcz4_2
     try clear hcz4_3
     try clear hcz4_4
     try clear hcz9_0
     try clear hcz9_1
     try clear hcz9_2
     try clear hcz9_3
     try clear hcz9_4
     try clear hfz12_0
     try clear hfz12_1
     try clear hfz12_2
     try clear hfz12_3
     try clear hfz12_4
     try clear hfz4_0
     try clear hfz4_1
     try clear hfz4_2
     try clear hfz4_3
     try clear hfz4_4
     try clear hfz9_0
     try clear hfz9_1
     try clear hfz9_2
     try clear hfz9_3
     try clear hfz9_4
     obtain ⟨x5_1, x6_1, rfl, HA, HK1, HO_4, HO_5, BK260, HB⟩ := hrel
     cases gk with
     | zero => exact absurd HA.out (by simp [plnref3_Order.l0])
     | succ k1 =>
      have H := HA.out
      clear HA
      simp only [plnref3_Order.l0] at H
      by_cases c16 : x6_1 ≥ 0
      ·rw [if_pos c16] at H
       have c16b0 : decide (0 ≤ x6_1) = true := decide_eq_true c16
       clear c16
       by_cases c17 : 0 ≤ x6_1
       ·rw [if_pos c17] at H
        have c17b0 : decide (0 ≤ x6_1) = true := decide_eq_true c17
        clear c17
        by_cases c18 : x6_1 < (t264.length : Int)
        ·rw [if_pos c18] at H
         have c18b0 : decide (x6_1 < (t264.length : Int)) = true := decide_eq_true c18
         clear c18
         by_cases c19 : x5_1.length < 17592186044416
         ·rw [if_pos c19] at H
          have LMc19 := Aside0.mk c19
          clear c19
          obtain ⟨y269, hy269⟩ : ∃ y_ : List Int, y_ = (x5_1 ++ [rd t264 x6_1]) := ⟨_, rfl⟩
          replace H : (plnref3_Order.l0 k1 t264 y269 (wrap64 (x6_1 - 1))) = some r := by first | (rw [hy269]; with_reducible exact H) | (have H2_ := (Option.bind_some _ _).symm.trans H; rw [hy269]; with_reducible exact H2_) | (have H2_ := (Option.bind_some _ _).symm.trans H; with_reducible exact H2_) | with_reducible exact H | (rw [hy269]; exact H) | exact H
          have Ny269 := Aside0.mk hy269
          clear hy269
          have H' := Aside0.mk H
          clear H
          have p268 : 0 ≤ (x6_1 : Int) := of_decide_eq_true (by first | (with_reducible assumption) | assumption)
          have q268 : x6_1 < (t264.length : Int) := of_decide_eq_true (by first | (with_reducible assumption) | assumption)
          obtain ⟨ad268, e268, hx268_0⟩ := Kd.at_int (Kd.R_reads' HO_4.out).2.2 x6_1 p268 q268
          cases e268
          replace p268 := eq_true p268
          replace q268 := eq_true q268
          go_wp2_with (first | ((with_reducible refine gate_builtin (b := .append) (xs := #[.tmp 26, .tmp 31]) rfl ?_); at_builtin; refine Kd.R_append (Kd.int .i64) (w0 := w) w.heap.size rfl (.tmp 26) (.tmp 31) 22 3 (.int .i64 0) 8 rfl Try.underlying22 info3 rfl (by decide) (by omega) u5 x5_1 (rd t264 x6_1) [.int .i64 (rd t264 x6_1)] (fun k_ => some k_ ≠ (.slice (some ad268) t264.length co15 : Value).ownBlock) (fun _ => False) rfl rfl ?aP (fun _ hk => hk.elim) ?aF ?aO ?aB ?aS ?aL ?_; (case aP => exact rfl); (case aB => exact (by repeat (first | (with_reducible first | exact HB.out | apply below_alloc | apply pw_below_drewN | apply below_drew1 | refine below_set ?_ GE260.out) | exact HB.out))); (case aF => exact (fun k_ hk => Kd.fresh' (Kd.R_lt (by (with_reducible repeat (first | apply Kd.R_alloc | apply Kd.R_drewN | apply Kd.R_drew)); exact HO_4.out)) k_ hk)); (case aO => exact (by (with_reducible repeat (first | apply Kd.R_alloc | apply Kd.R_drewN | apply Kd.R_drew)); exact HO_5.out)); (case aS => exact (below_size (by repeat (first | (with_reducible first | exact HB.out | apply below_alloc | apply pw_below_drewN | apply below_drew1 | refine below_set ?_ GE260.out) | exact HB.out)))); (case aL => have := LMc19.out; omega); intro v270 w20 ho hb hg hat; rw [← Ny269.out] at ho; have n0_ := Aside0.mk (Kd.R_after (ok := (fun _ => True)) (by (with_reducible repeat (first | apply Kd.R_alloc | apply Kd.R_drewN | apply Kd.R_drew)); exact Kd.R_mono HO_4.out (fun _ hk => ⟨trivial, hk⟩)) hg hat); have n1_ := Aside0.mk (blk_grown (g := gb260) (o := .cells #[.string a0_0, .bool a0_1, .slice A0_2 l0_2.length c0_2, .int .i64 a0_3, .slice A0_4 l0_4.length c0_4] 25 (0, 0)) (by (with_reducible repeat (first | refine blk_drewN ?_ _ | refine blk_drew ?_ | refine blk_alloc ?_ _)); exact BK260.out) hg (Kd.R_ne HO_5.out BK260.out (by decide))); have n2_ := Aside0.mk (hb); have n3_ := Aside0.mk (ho); clear HO_4; clear BK260; clear HB; clear HO_5; have HO_4 := n0_; have BK260 := n1_; have HB := n2_; have HO271 := n3_; clear n0_ n1_ n2_ n3_; clear ho hb hg hat))
          go_roundg k1
          case measure => have := HK1.out; omega
          case rel => exact ⟨(y269), (wrap64 (x6_1 - 1)), (by first | rfl | (simp; done) | (simp [*]; done)), H', ⟨by have := HK1.out; omega⟩, ⟨by (with_reducible repeat (first | apply Kd.R_alloc | apply Kd.R_drewN | apply Kd.R_drew)); exact Kd.R_mono HO_4.out (fun _ hk => hk.2)⟩, ⟨by (with_reducible repeat (first | apply Kd.R_alloc | apply Kd.R_drewN | apply Kd.R_drew)); exact HO271.out⟩, ⟨by (with_reducible repeat (first | refine blk_drewN ?_ _ | refine blk_drew ?_ | refine blk_alloc ?_ _)); exact BK260.out⟩, ⟨by repeat (first | (with_reducible first | exact HB.out | apply below_alloc | apply pw_below_drewN | apply below_drew1 | refine below_set ?_ GE260.out) | exact HB.out)⟩⟩
         ·rw [if_neg c19] at H
          exact absurd H (by simp)
        ·rw [if_neg c18] at H
         exact absurd H (by simp)
       ·rw [if_neg c17] at H
        exact absurd H (by simp)
      ·rw [if_neg c16] at H
       have c16b0 : decide (0 ≤ x6_1) = false := decide_eq_false c16
       clear c16
       obtain rfl := Option.some.inj H
       go_wp2
       go_ret
       exact ⟨_, by first | rfl | (simp [errW_none, errW_some] <;> rfl) | (simp [*, errW_none, errW_some] <;> rfl), by (with_reducible repeat (first | apply Kd.R_alloc | apply Kd.R_drewN | apply Kd.R_drew)); exact Kd.R_mono HO_5.out (fun _ hk => trivial), by repeat (first | (with_reducible first | exact HB.out | apply below_alloc | apply pw_below_drewN | apply below_drew1 | refine below_set ?_ GE260.out) | exact HB.out)⟩
   ·rw [if_neg c6] at H
    exact absurd H (by simp)
  ·rw [if_neg c5] at H
   exact absurd H (by simp)
end Go.Proofs.Ytkcimaibaicdcaa.P
