/- A part of the proof of the law of DomWays: lemmas and walks, out of this session's texts, with what the claim does not use struck out. -/
import Derived.Test.YtkcimaibaicdcaaD6
import Derived.Test.YtkcimaibaicdcaaD9
import Derived.Test.YtkcimaibaicdcaaD10
import Derived.Test.YtkcimaibaicdcaaD11
import Derived.Test.YtkcimaibaicdcaaD12
import Derived.Test.YtkcimaibaicdcaaD21
section
namespace Go.Proofs.Ytkcimaibaicdcaa.P
open Go.RowKit Go.Proofs.YtkcimaibaicdcaaW.PrintWords Go.Proofs.YtkcimaibaicdcaaW.PrintLast Go.Proofs.YtkcimaibaicdcaaW.PrintMore
attribute [local go_sem] max2_int min2_int max_two min_two max_three min_three max_four min_four   
set_option linter.unusedVariables false
set_option linter.unusedSimpArgs false
mutual
def plnref3_deep.l0 : Nat → Int → List Bool → List Int → List Int → Int → ByteArray → Bool → List Int → Int → List (S54) → Option (List Int × List Bool)
 | 0, _, _, _, _, _, _, _, _, _, _ => none
 | k + 1, x1, x2, x3, x9, x10, x246000, x246001, x246002, x246003, x246004 => if x10 < (x9.length : Int) then (if 0 ≤ x10 then (if 0 ≤ (rd x9 x10) then (if (rd x9 x10) < (x2.length : Int) then (if (rdOf false x2 (rd x9 x10) = true) then (plnref3_deep.l0 k x1 x2 x3 x9 (wrap64 (x10 + 1)) x246000 x246001 x246002 x246003 x246004) else ((plnref3_deep.f k x246000 x246001 x246002 x246003 x246004 (rd x9 x10) x2 x3).bind fun bt253 => (plnref3_deep.l0 k x1 bt253.2 bt253.1 x9 (wrap64 (x10 + 1)) x246000 x246001 x246002 x246003 x246004))) else (none)) else (none)) else (none)) else (if x3.length < 17592186044416 then (some ((x3 ++ [x1]), x2)) else (none))
def plnref3_deep.f : Nat → ByteArray → Bool → List Int → Int → List (S54) → Int → List Bool → List Int → Option (List Int × List Bool)
 | 0, _, _, _, _, _, _, _, _ => none
 | k + 1, a0_0, a0_1, l0_2, a0_3, l0_4, a1, l2, l3 => if 0 ≤ a1 then (if a1 < (l2.length : Int) then ((plnref3_Next.f k a0_0 a0_1 l0_2 a0_3 l0_4 a1).bind fun t247 => (plnref3_deep.l0 k a1 (l2.set (a1 : Int).toNat true) l3 t247 0 a0_0 a0_1 l0_2 a0_3 l0_4)) else (none)) else (none)
end
theorem plnref3_deep.mono_l : ∀ k, (∀ y0 y1 y2 y3 y4 y5 y6 y7, LeO (plnref3_deep.f k y0 y1 y2 y3 y4 y5 y6 y7) (plnref3_deep.f (k + 1) y0 y1 y2 y3 y4 y5 y6 y7)) ∧ (∀ y0 y1 y2 y3 y4 y5 y6 y7 y8 y9, LeO (plnref3_deep.l0 k y0 y1 y2 y3 y4 y5 y6 y7 y8 y9) (plnref3_deep.l0 (k + 1) y0 y1 y2 y3 y4 y5 y6 y7 y8 y9))
 | 0 => ⟨fun _ _ _ _ _ _ _ _ r h => by simp [plnref3_deep.f] at h, fun _ _ _ _ _ _ _ _ _ _ r h => by simp [plnref3_deep.l0] at h⟩
 | k + 1 => by
  obtain ⟨ih0, ih1⟩ := plnref3_deep.mono_l k
  refine ⟨?_, ?_⟩
  ·intro y0 y1 y2 y3 y4 y5 y6 y7
   unfold plnref3_deep.f
   repeat' first
   | (with_reducible exact ih0 _ _ _ _ _ _ _ _)
   | (with_reducible exact ih1 _ _ _ _ _ _ _ _ _ _)
   | (with_reducible exact plnref3_Next.mono _ _ _ _ _ _ _)
   | (with_reducible exact LeO.refl _)
   | (with_reducible exact LeO.none _)
   | (with_reducible refine LeO.ite ?_ ?_)
   | (with_reducible refine LeO.bind ?_ (fun _ => ?_))
   | exact ih0 _ _ _ _ _ _ _ _
   | exact ih1 _ _ _ _ _ _ _ _ _ _
   | exact plnref3_Next.mono _ _ _ _ _ _ _
   | exact LeO.none _
   | refine LeO.ite ?_ ?_
   | refine LeO.bind ?_ (fun _ => ?_)
  ·intro y0 y1 y2 y3 y4 y5 y6 y7 y8 y9
   unfold plnref3_deep.l0
   repeat' first
   | (with_reducible exact ih0 _ _ _ _ _ _ _ _)
   | (with_reducible exact ih1 _ _ _ _ _ _ _ _ _ _)
   | (with_reducible exact plnref3_Next.mono _ _ _ _ _ _ _)
   | (with_reducible exact LeO.refl _)
   | (with_reducible exact LeO.none _)
   | (with_reducible refine LeO.ite ?_ ?_)
   | (with_reducible refine LeO.bind ?_ (fun _ => ?_))
   | exact ih0 _ _ _ _ _ _ _ _
   | exact ih1 _ _ _ _ _ _ _ _ _ _
   | exact plnref3_Next.mono _ _ _ _ _ _ _
   | exact LeO.none _
   | refine LeO.ite ?_ ?_
   | refine LeO.bind ?_ (fun _ => ?_)
theorem plnref3_deep.mono : ∀ a0 a1 a2 a3 a4 a5 a6 a7 k, LeO (plnref3_deep.f k a0 a1 a2 a3 a4 a5 a6 a7) (plnref3_deep.f (k + 1) a0 a1 a2 a3 a4 a5 a6 a7) := by
 intro a0 a1 a2 a3 a4 a5 a6 a7 k
 obtain ⟨ih0, ih1⟩ := plnref3_deep.mono_l k
 exact ih0 a0 a1 a2 a3 a4 a5 a6 a7
def plnref3_deep.T7 : Bool × List (List Nat × List Nat) := (true, [([], []), ([], []), ([], []), ([1, 2], [1, 2]), ([3], [3]), ([], []), ([], []), ([0, 4, 5, 6], [0, 4, 5, 6]), ([7, 7, 0, 1, 2, 3, 4, 5, 6, 7], [6, 7])])
def plnref3_deep.B7 : List Nat := [0, 0, 0, 6, 14, 0, 0, 127, 255]
theorem plnref3_deep.tab7 : rtab .any (opsOf Try.f67 7) = plnref3_deep.T7 := by kernel_rfl
theorem plnref3_deep.bits7 : waitsOk plnref3_deep.T7.2 plnref3_deep.B7 = true := by kernel_rfl
set_option maxHeartbeats 8000000 in
set_option maxRecDepth 100000 in
theorem plnref3_deep.calls (k : Nat) : ∀ (a0_0 : ByteArray) (a0_1 : Bool) (A0_2 : Option Addr) (c0_2 : Nat) (l0_2 : List Int) (a0_3 : Int) (A0_4 : Option Addr) (c0_4 : Nat) (l0_4 : List (S54)) (a1 : Int) (P2_ : Nat → Prop) (u9000_ : Value) (l2 : List Bool) (P3_ : Nat → Prop) (u9001_ : Value) (l3 : List Int) (r1 : List Int) (r2 : List Bool) (w0 w : World) (hB : Below w0.heap.size w0 w) (hr0_2 : ∀ W_, Kept w W_ (fun k_ => P2_ k_ ∨ P3_ k_) → Kd.C (Kd.int .i64) W_ A0_2 l0_2.length l0_2) (hc0_2 : l0_2.length ≤ c0_2) (hr0_4 : ∀ W_, Kept w W_ (fun k_ => P2_ k_ ∨ P3_ k_) → Kd.C k54 W_ A0_4 l0_4.length l0_4) (hc0_4 : l0_4.length ≤ c0_4) (ho2 : Kd.R Kd.bool 4 w w0.heap.size P2_ u9000_ l2) (ho3 : Kd.R (Kd.int .i64) 3 w w0.heap.size P3_ u9001_ l3) (h : plnref3_deep.f k a0_0 a0_1 l0_2 a0_3 l0_4 a1 l2 l3 = some (r1, r2)),
  Calls Try.prog 67 #[.agg #[.string a0_0, .bool a0_1, .slice A0_2 l0_2.length c0_2, .int .i64 a0_3, .slice A0_4 l0_4.length c0_4], .int .i64 a1, u9000_, u9001_] w fun e w' => ∃ v0_ : Value, e = .returned (v0_) ∧ Kd.R (Kd.int .i64) 3 w' w0.heap.size (fun k_ => ((P2_ k_ ∨ P3_ k_) ∨ w.heap.size ≤ k_)) v0_ r1 ∧ Kd.R Kd.bool 4 w' w0.heap.size (fun k_ => ((P2_ k_ ∨ P3_ k_) ∨ w.heap.size ≤ k_)) u9000_ r2 ∧ Below w0.heap.size w0 w' ∧ Kept w w' (fun k_ => P2_ k_ ∨ P3_ k_) := by
 induction k using Nat.strongRecOn with
 | _ k ih =>
 intro a0_0 a0_1 A0_2 c0_2 l0_2 a0_3 A0_4 c0_4 l0_4 a1 P2_ u9000_ l2 P3_ u9001_ l3 r1 r2 w0 w hB hr0_2 hc0_2 hr0_4 hc0_4 ho2 ho3 h
 cases k with
 | zero => exact absurd h (by simp [plnref3_deep.f])
 | succ k =>
 simp only [plnref3_deep.f] at h
 have hu25 := Try.underlying25
 have HR0_2 := Aside0.mk hr0_2
 have HC0_2 := Aside0.mk hc0_2
 clear hr0_2 hc0_2
 have HR0_4 := Aside0.mk hr0_4
 have HC0_4 := Aside0.mk hc0_4
 clear hr0_4 hc0_4; have HO2 := Aside0.mk (show Kd.R Kd.bool 4 w w0.heap.size (fun k_ => ((P2_ k_ ∨ P3_ k_) ∨ w.heap.size ≤ k_)) u9000_ l2 from Kd.R_mono ho2 (fun k_ hk => (.inl (.inl hk)))); have HO3 := Aside0.mk (show Kd.R (Kd.int .i64) 3 w w0.heap.size (fun k_ => ((P2_ k_ ∨ P3_ k_) ∨ w.heap.size ≤ k_)) u9001_ l3 from Kd.R_mono ho3 (fun k_ hk => (.inl (.inr hk)))); have HK := Aside0.mk (Kept.refl w (fun k_ => P2_ k_ ∨ P3_ k_))
 have HW0 := Aside0.mk hB.size
 have HB := Aside0.mk hB
 clear hB
 have H : (if 0 ≤ a1 then (if a1 < (l2.length : Int) then ((plnref3_Next.f k a0_0 a0_1 l0_2 a0_3 l0_4 a1).bind fun t247 => (plnref3_deep.l0 k a1 (l2.set (a1 : Int).toNat true) l3 t247 0 a0_0 a0_1 l0_2 a0_3 l0_4)) else (none)) else (none)) = some (r1, r2) := h
 clear h
 by_cases c5 : 0 ≤ a1
 ·rw [if_pos c5] at H
  have c5b0 : decide (0 ≤ a1) = true := decide_eq_true c5
  clear c5
  by_cases c6 : a1 < (l2.length : Int)
  ·rw [if_pos c6] at H
   have c6b0 : decide (a1 < (l2.length : Int)) = true := decide_eq_true c6
   clear c6
   obtain ⟨y246, hy246⟩ : ∃ y_ : List Bool, y_ = (l2.set (a1 : Int).toNat true) := ⟨_, rfl⟩
   replace H : ((plnref3_Next.f k a0_0 a0_1 l0_2 a0_3 l0_4 a1).bind fun t247 => (plnref3_deep.l0 k a1 y246 l3 t247 0 a0_0 a0_1 l0_2 a0_3 l0_4)) = some (r1, r2) := by first | (rw [hy246]; with_reducible exact H) | (have H2_ := (Option.bind_some _ _).symm.trans H; rw [hy246]; with_reducible exact H2_) | (have H2_ := (Option.bind_some _ _).symm.trans H; with_reducible exact H2_) | with_reducible exact H | (rw [hy246]; exact H) | exact H
   have Ny246 := Aside0.mk hy246
   clear hy246
   replace H := Option.bind_eq_some_iff.mp H
   obtain ⟨t247, A80, H⟩ := H
   replace H : (plnref3_deep.l0 k a1 y246 l3 t247 0 a0_0 a0_1 l0_2 a0_3 l0_4) = some (r1, r2) := H
   have A8 := Aside0.mk A80
   clear A80
   have H' := Aside0.mk H
   clear H
   go_enter Try.func67, Try.ntmps67
   go_wp2_with (first | ((with_reducible refine gate_dst (N := 4) rfl ?_); refine box_event ?hg (N := 4) ?hd (cs := #[.string a0_0, .bool a0_1, .slice A0_2 l0_2.length c0_2, .int .i64 a0_3, .slice A0_4 l0_4.length c0_4]) (t := 25) ?hr ?_; (case hd => rfl); (case hg => rfl); (case hr => first | (go_simp; done) | (go_simp; rfl)); intro gb245 hg w9 hbox hb; have n0_ := Aside0.mk (Kd.R_below (by (with_reducible repeat (first | apply Kd.R_alloc | apply Kd.R_drewN | apply Kd.R_drew)); exact HO2.out) hb); have n1_ := Aside0.mk (Kd.R_below (by (with_reducible repeat (first | apply Kd.R_alloc | apply Kd.R_drewN | apply Kd.R_drew)); exact HO3.out) hb); have n2_ := Aside0.mk (Kept.below (S := (fun k_ => P2_ k_ ∨ P3_ k_)) (by repeat (first | (with_reducible first | exact HK.out | apply Kept.alloc | apply Kept.drewN | apply Kept.drew) | exact HK.out)) hb); have n3_ := Aside0.mk (below_step (by repeat (first | (with_reducible first | exact HB.out | apply below_alloc | apply pw_below_drewN | apply below_drew1) | exact HB.out)) hb); have n4_ := Aside0.mk (hbox); have n5_ := Aside0.mk ((by rw [hg]; exact (by first | exact HK.out.1 | exact (show Kept w _ (fun k_ => P2_ k_ ∨ P3_ k_) from by repeat (first | (with_reducible first | exact HK.out | apply Kept.alloc | apply Kept.drewN | apply Kept.drew) | exact HK.out)).1) : w.heap.size ≤ gb245)); have n6_ := Aside0.mk ((by rw [hg]; exact (below_size (by repeat (first | (with_reducible first | exact HB.out | apply below_alloc | apply pw_below_drewN | apply below_drew1) | exact HB.out))) : w0.heap.size ≤ gb245)); clear HO2; clear HO3; clear HK; clear HB; have HO2 := n0_; have HO3 := n1_; have HK := n2_; have HB := n3_; have BK245 := n4_; have GW245 := n5_; have GE245 := n6_; clear n0_ n1_ n2_ n3_ n4_ n5_ n6_; clear hb hbox hg; have p7 : 0 ≤ (a1 : Int) := of_decide_eq_true (by first | (with_reducible assumption) | assumption); have q7 : (a1 : Int) < ((l2.length : Int) : Int) := of_decide_eq_true (by first | (with_reducible assumption) | assumption); obtain ⟨go7, co7, eo7, gb7, gl7, cl7, HG7⟩ := Kd.R_form HO2.out (by omega); (first | cases eo7 | (injection eo7 with ea_ en_ ec_; (first | subst ea_ | (injection ea_ with ea_; subst ea_)); subst ec_; clear en_)); have GB7 := Aside0.mk gb7; have GG7 := Aside0.mk HG7; clear gb7 gl7 HG7; have HMgo7 := Aside0.mk (show ((P2_ go7 ∨ P3_ go7) ∨ w.heap.size ≤ go7) from (HO2.out.1 _ rfl)); obtain ⟨hx7_0, hf7_0⟩ := Kd.R_celln false HO2.out (a1 : Int) p7 q7; replace p7 := eq_true p7; replace q7 := eq_true q7; obtain ⟨hy10_, hz10_⟩ := Kd.R_celln false HO2.out (a1 : Int) (of_decide_eq_true (by first | (with_reducible assumption) | assumption)) (of_decide_eq_true (by first | (with_reducible assumption) | assumption)); have HP10 := Kd.R_putg HO2.out (a1 : Int) true) | ((with_reducible refine gate_store (t := 4) (p := 13) rfl ?_); refine store_event (t := 4) (p := 13) (v := ?vo_w11) (w1 := (w9.setCell ⟨go7, (a1 : Int).toNat, none⟩ (.bool true))) ?hg ?ho ?hn ?hr ?_; (case ho => rfl); (case hg => rfl); (case hn => rfl); (case hr => first | (go_simp; done) | (go_simp; rfl)); intro w11 hw; have hg : w9.grownBy w11 (some go7) := (by rw [hw]; exact HP10.2); have hp_ : Kd.R Kd.bool 4 w11 w0.heap.size (fun k_ => ((P2_ k_ ∨ P3_ k_) ∨ w.heap.size ≤ k_)) (.slice (some ⟨go7, 0, none⟩) l2.length co7) y246 := (by rw [hw, Ny246.out]; exact HP10.1); clear HP10; have n0_ := Aside0.mk (hp_); have n1_ := Aside0.mk (Kd.R_over' (v := (.slice (some ⟨go7, 0, none⟩) l2.length co7)) (by (with_reducible repeat (first | apply Kd.R_alloc | apply Kd.R_drewN | apply Kd.R_drew)); exact HO3.out) (Kd.R_typed HO2.out) (by decide) hg); have n2_ := Aside0.mk (blk_grown (g := gb245) (o := .cells #[.string a0_0, .bool a0_1, .slice A0_2 l0_2.length c0_2, .int .i64 a0_3, .slice A0_4 l0_4.length c0_4] 25 (0, 0)) (by (with_reducible repeat (first | refine blk_drewN ?_ _ | refine blk_drew ?_ | refine blk_alloc ?_ _)); exact BK245.out) hg (Kd.R_ne HO2.out BK245.out (by decide))); have n3_ := Aside0.mk ((by rw [hw]; exact below_set (HB.out) GB7.out : Below w0.heap.size w0 w11)); have n4_ := Aside0.mk (Kept.of_grown (S := (fun k_ => P2_ k_ ∨ P3_ k_)) hg (by repeat (first | (with_reducible first | exact HK.out | apply Kept.alloc | apply Kept.drewN | apply Kept.drew | refine Kept.setCell ?_ (.inr GW245.out) _) | exact HK.out)) (fun k_ e_ => (HO2.out.1 k_ e_))); clear HO2; clear HO3; clear BK245; clear HB; clear HK; have HO2 := n0_; have HO3 := n1_; have BK245 := n2_; have HB := n3_; have HK := n4_; clear n0_ n1_ n2_ n3_ n4_; clear hg hw hp_; have hcz12_0 : w11.cell? ⟨gb245, 0, none⟩ = some (.string a0_0) := (blk_cell BK245.out 0).trans rfl; have hcz12_1 : w11.cell? ⟨gb245, 1, none⟩ = some (.bool a0_1) := (blk_cell BK245.out 1).trans rfl; have hcz12_2 : w11.cell? ⟨gb245, 2, none⟩ = some (.slice A0_2 l0_2.length c0_2) := (blk_cell BK245.out 2).trans rfl; have hcz12_3 : w11.cell? ⟨gb245, 3, none⟩ = some (.int .i64 a0_3) := (blk_cell BK245.out 3).trans rfl; have hcz12_4 : w11.cell? ⟨gb245, 4, none⟩ = some (.slice A0_4 l0_4.length c0_4) := (blk_cell BK245.out 4).trans rfl; have hfz12_0 := blk_frozen BK245.out 0; have hfz12_1 := blk_frozen BK245.out 1; have hfz12_2 := blk_frozen BK245.out 2; have hfz12_3 := blk_frozen BK245.out 3; have hfz12_4 := blk_frozen BK245.out 4) | ((with_reducible refine gate_callee (f := 20) rfl ?_); refine goesL_ (some 16) rfl rfl Try.func20 (by kernel_rfl) rfl #[.agg #[.string a0_0, .bool a0_1, .slice A0_2 l0_2.length c0_2, .int .i64 a0_3, .slice A0_4 l0_4.length c0_4], .int .i64 a1] rfl (by (try simp only [List.map_toArray, List.map_cons, List.map_nil]); first | done | rfl | (simp only [List.length_drop, List.length_take]; rfl)) ?_; (with_reducible refine (plnref3_Next.calls k a0_0 a0_1 _ _ l0_2 a0_3 _ _ l0_4 a1 t247 _ ?side1 ?side2 ?side3 ?side4 A8.out).mono ?_); (case side1 => exact Kd.C_kept_now HR0_2.out (by repeat (first | (with_reducible first | exact HK.out | apply Kept.alloc | apply Kept.drewN | apply Kept.drew | refine Kept.setCell ?_ (.inr GW245.out) _) | exact HK.out))); (case side2 => exact HC0_2.out); (case side3 => exact Kd.C_kept_now HR0_4.out (by repeat (first | (with_reducible first | exact HK.out | apply Kept.alloc | apply Kept.drewN | apply Kept.drew | refine Kept.setCell ?_ (.inr GW245.out) _) | exact HK.out))); (case side4 => exact HC0_4.out); rintro e w13 ⟨v248, rfl, ho0, hb⟩; refine ⟨_, rfl, ?_⟩; have n0_ := Aside0.mk (Kd.R_below (by (with_reducible repeat (first | apply Kd.R_alloc | apply Kd.R_drewN | apply Kd.R_drew)); exact HO2.out) hb); have n1_ := Aside0.mk (Kd.R_elder' (by (with_reducible repeat (first | apply Kd.R_alloc | apply Kd.R_drewN | apply Kd.R_drew)); exact HO3.out) (Kd.R_base ho0) hb); have n2_ := Aside0.mk (Kd.R_lower (Kd.R_new' (Kd.R_newM (M := fun k_ => ((P2_ k_ ∨ P3_ k_) ∨ w.heap.size ≤ k_)) ho0 (by first | exact HK.out.1 | exact (show Kept w _ (fun k_ => P2_ k_ ∨ P3_ k_) from by repeat (first | (with_reducible first | exact HK.out | apply Kept.alloc | apply Kept.drewN | apply Kept.drew | refine Kept.setCell ?_ (.inr GW245.out) _) | exact HK.out)).1) (fun k_ h_ => .inr h_)) (Kd.R_lt (by (with_reducible repeat (first | apply Kd.R_alloc | apply Kd.R_drewN | apply Kd.R_drew)); exact HO3.out))) (below_size (by repeat (first | (with_reducible first | exact HB.out | apply below_alloc | apply pw_below_drewN | apply below_drew1 | refine below_set ?_ GE245.out) | exact HB.out)))); have n3_ := Aside0.mk (blk_below (g := gb245) (o := .cells #[.string a0_0, .bool a0_1, .slice A0_2 l0_2.length c0_2, .int .i64 a0_3, .slice A0_4 l0_4.length c0_4] 25 (0, 0)) (by (with_reducible repeat (first | refine blk_drewN ?_ _ | refine blk_drew ?_ | refine blk_alloc ?_ _)); exact BK245.out) hb); have n4_ := Aside0.mk (Kept.below (S := (fun k_ => P2_ k_ ∨ P3_ k_)) (by repeat (first | (with_reducible first | exact HK.out | apply Kept.alloc | apply Kept.drewN | apply Kept.drew | refine Kept.setCell ?_ (.inr GW245.out) _) | exact HK.out)) hb); have n5_ := Aside0.mk (below_step (by repeat (first | (with_reducible first | exact HB.out | apply below_alloc | apply pw_below_drewN | apply below_drew1 | refine below_set ?_ GE245.out) | exact HB.out)) hb); clear HO2; clear HO3; clear BK245; clear HK; clear HB; have HO2 := n0_; have HO3 := n1_; have HO249 := n2_; have BK245 := n3_; have HK := n4_; have HB := n5_; clear n0_ n1_ n2_ n3_ n4_ n5_; (try clear hb); (try clear hb2); (try clear hk); (try clear hi); (try clear ho0)))
   go_loopg [3, 10] k (fun kq v3 v10 w' => ∃ (x2_1 : List Bool) (x3_1 : List Int) (x10_1 : Int), v10 = .int .i64 x10_1 ∧ Aside0 (plnref3_deep.l0 kq a1 x2_1 x3_1 t247 x10_1 a0_0 a0_1 l0_2 a0_3 l0_4 = some (r1, r2)) ∧ Aside0 (kq ≤ k) ∧ Aside0 (Kd.R Kd.bool 4 w' w0.heap.size (fun k_ => ((P2_ k_ ∨ P3_ k_) ∨ w.heap.size ≤ k_)) (.slice (some ⟨go7, 0, none⟩) l2.length co7) x2_1) ∧ Aside0 (Kd.R (Kd.int .i64) 3 w' w0.heap.size (fun k_ => ((P2_ k_ ∨ P3_ k_) ∨ w.heap.size ≤ k_) ∧ some k_ ≠ (v248 : Value).ownBlock) v3 x3_1) ∧ Aside0 (Kd.R (Kd.int .i64) 3 w' w0.heap.size (fun k_ => ((P2_ k_ ∨ P3_ k_) ∨ w.heap.size ≤ k_) ∧ some k_ ≠ (v3 : Value).ownBlock) v248 t247) ∧ Aside0 (w'.heap[gb245]? = some (.cells #[.string a0_0, .bool a0_1, (.slice A0_2 l0_2.length c0_2), .int .i64 a0_3, (.slice A0_4 l0_4.length c0_4)] 25 (0, 0))) ∧ Aside0 (Kept w w' (fun k_ => P2_ k_ ∨ P3_ k_)) ∧ Aside0 (Below w0.heap.size w0 w'))
   case atStart => exact ⟨(y246), (l3), (0), (by first | rfl | (simp; done) | (simp [*]; done)), H', ⟨Nat.le_refl _⟩, ⟨by (with_reducible repeat (first | apply Kd.R_alloc | apply Kd.R_drewN | apply Kd.R_drew)); exact HO2.out⟩, ⟨by (with_reducible repeat (first | apply Kd.R_alloc | apply Kd.R_drewN | apply Kd.R_drew)); exact HO3.out⟩, ⟨by (with_reducible repeat (first | apply Kd.R_alloc | apply Kd.R_drewN | apply Kd.R_drew)); exact Kd.R_mono HO249.out (fun _ hk => ⟨hk.1.1, hk.2⟩)⟩, ⟨by (with_reducible repeat (first | refine blk_drewN ?_ _ | refine blk_drew ?_ | refine blk_alloc ?_ _)); exact BK245.out⟩, ⟨by repeat (first | (with_reducible first | exact HK.out | apply Kept.alloc | apply Kept.drewN | apply Kept.drew | refine Kept.setCell ?_ (.inr GW245.out) _) | exact HK.out)⟩, ⟨by repeat (first | (with_reducible first | exact HB.out | apply below_alloc | apply pw_below_drewN | apply below_drew1 | refine below_set ?_ GE245.out) | exact HB.out)⟩⟩
   case round =>
    clear H'
    try clear c2
    try clear p2
    try clear c5
    try clear c5b0
    try clear c6
    try clear c6b0
    try clear p7
    try clear q7
    try clear hx7
    try clear hf7
    try clear hcz12_0
    try clear hcz12_1
    try clear hcz12_2
    try clear hcz12_3
    try clear hcz12_4
    try clear hfz12_0
    try clear hfz12_1
    try clear hfz12_2
    try clear hfz12_3
    try clear hfz12_4
    try clear hx7_0
    try clear p7
    try clear q7
    obtain ⟨x2_1, x3_1, x10_1, rfl, HA, HK1, HO_2, HO_3, HO_9, BK245, HK, HB⟩ := hrel
    have hl2_1 := (Kd.R_reads' HO_2.out).1
    rw [hl2_1] at HO_2
    (try simp only [hl2_1])
    (try simp only [hl2_1] at BK245)
    (try simp only [hl2_1] at HO_3)
    (try simp only [hl2_1] at HO_9)
    cases gk with
    | zero => exact absurd HA.out (by simp [plnref3_deep.l0])
    | succ k1 =>
     have H := HA.out
     clear HA
     simp only [plnref3_deep.l0] at H
     by_cases c14 : x10_1 < (t247.length : Int)
     ·rw [if_pos c14] at H
      have c14b0 : decide (x10_1 < (t247.length : Int)) = true := decide_eq_true c14
      clear c14
      by_cases c15 : 0 ≤ x10_1
      ·rw [if_pos c15] at H
       have c15b0 : decide (0 ≤ x10_1) = true := decide_eq_true c15
       clear c15
       by_cases c16 : 0 ≤ (rd t247 x10_1)
       ·rw [if_pos c16] at H
        have c16b0 : decide (0 ≤ (rd t247 x10_1)) = true := decide_eq_true c16
        clear c16
        by_cases c17 : (rd t247 x10_1) < (x2_1.length : Int)
        ·rw [if_pos c17] at H
         have c17b0 : decide ((rd t247 x10_1) < (x2_1.length : Int)) = true := decide_eq_true c17
         clear c17
         obtain ⟨bq18, hbq18⟩ : ∃ b_ : Bool, b_ = (rdOf false x2_1 (rd t247 x10_1)) := ⟨_, rfl⟩
         replace H : (if (bq18 = true) then (plnref3_deep.l0 k1 a1 x2_1 x3_1 t247 (wrap64 (x10_1 + 1)) a0_0 a0_1 l0_2 a0_3 l0_4) else ((plnref3_deep.f k1 a0_0 a0_1 l0_2 a0_3 l0_4 (rd t247 x10_1) x2_1 x3_1).bind fun bt253 => (plnref3_deep.l0 k1 a1 bt253.2 bt253.1 t247 (wrap64 (x10_1 + 1)) a0_0 a0_1 l0_2 a0_3 l0_4))) = some (r1, r2) := by rw [← hbq18] at H; exact H
         have Nbq18 := Aside0.mk hbq18
         clear hbq18
         by_cases c19 : (bq18 = true)
         ·subst c19
          have H1 : (plnref3_deep.l0 k1 a1 x2_1 x3_1 t247 (wrap64 (x10_1 + 1)) a0_0 a0_1 l0_2 a0_3 l0_4) = some (r1, r2) := by rw [if_pos rfl] at H; exact H
          clear H; have H := H1; clear H1
          have H' := Aside0.mk H
          clear H
          obtain ⟨Ao20, co20, eo20⟩ := Kd.R_slice HO_9.out
          subst eo20
          have p250 : 0 ≤ (x10_1 : Int) := of_decide_eq_true (by first | (with_reducible assumption) | assumption)
          have q250 : x10_1 < (t247.length : Int) := of_decide_eq_true (by first | (with_reducible assumption) | assumption)
          obtain ⟨ad250, e250, hx250_0⟩ := Kd.at_int (Kd.R_reads' HO_9.out).2.2 x10_1 p250 q250
          cases e250
          replace p250 := eq_true p250
          replace q250 := eq_true q250
          have p251 : 0 ≤ ((rd t247 x10_1) : Int) := of_decide_eq_true (by first | (with_reducible assumption) | assumption)
          have q251 : (rd t247 x10_1) < (x2_1.length : Int) := of_decide_eq_true (by first | (with_reducible assumption) | assumption)
          obtain ⟨ad251, e251, hx251_0⟩ := Kd.at_bool (Kd.R_reads' HO_2.out).2.2 (rd t247 x10_1) p251 q251
          (try rw [← Nbq18.out] at hx251_0)
          obtain rfl : (⟨go7, 0, none⟩ : Addr) = ad251 := (by injection e251)
          (first | simp only [add_plain] at hx251_0 | simp only [add_at] at hx251_0 | simp only [Addr.add, Nat.zero_add] at hx251_0 | skip)
          replace p251 := eq_true p251
          replace q251 := eq_true q251
          go_wp2
          (try simp only [← hl2_1])
          go_roundg k1
          case measure => have := HK1.out; omega
          case rel => exact ⟨(x2_1), (x3_1), (wrap64 (x10_1 + 1)), (by first | rfl | (simp; done) | (simp [*]; done)), H', ⟨by have := HK1.out; omega⟩, ⟨by (try simp only [hl2_1]); (with_reducible repeat (first | apply Kd.R_alloc | apply Kd.R_drewN | apply Kd.R_drew)); exact HO_2.out⟩, ⟨by (try simp only [hl2_1]); (with_reducible repeat (first | apply Kd.R_alloc | apply Kd.R_drewN | apply Kd.R_drew)); exact HO_3.out⟩, ⟨by (try simp only [hl2_1]); (with_reducible repeat (first | apply Kd.R_alloc | apply Kd.R_drewN | apply Kd.R_drew)); exact HO_9.out⟩, ⟨by (try simp only [hl2_1]); (with_reducible repeat (first | refine blk_drewN ?_ _ | refine blk_drew ?_ | refine blk_alloc ?_ _)); exact BK245.out⟩, ⟨by repeat (first | (with_reducible first | exact HK.out | apply Kept.alloc | apply Kept.drewN | apply Kept.drew | refine Kept.setCell ?_ (.inr GW245.out) _) | exact HK.out)⟩, ⟨by repeat (first | (with_reducible first | exact HB.out | apply below_alloc | apply pw_below_drewN | apply below_drew1 | refine below_set ?_ GE245.out) | exact HB.out)⟩⟩
         ·replace c19 := Bool.eq_false_iff.mpr c19
          subst c19
          have H1 : ((plnref3_deep.f k1 a0_0 a0_1 l0_2 a0_3 l0_4 (rd t247 x10_1) x2_1 x3_1).bind fun bt253 => (plnref3_deep.l0 k1 a1 bt253.2 bt253.1 t247 (wrap64 (x10_1 + 1)) a0_0 a0_1 l0_2 a0_3 l0_4)) = some (r1, r2) := by rw [if_neg (show ¬ (false = true) by decide)] at H; exact H
          clear H; have H := H1; clear H1
          replace H := Option.bind_eq_some_iff.mp H
          obtain ⟨⟨t253, t256⟩, A210, H⟩ := H
          replace H : (plnref3_deep.l0 k1 a1 t256 t253 t247 (wrap64 (x10_1 + 1)) a0_0 a0_1 l0_2 a0_3 l0_4) = some (r1, r2) := H
          have A21 := Aside0.mk A210
          clear A210
          have H' := Aside0.mk H
          clear H
          obtain ⟨Ao22, co22, eo22⟩ := Kd.R_slice HO_9.out
          subst eo22
          have p250 : 0 ≤ (x10_1 : Int) := of_decide_eq_true (by first | (with_reducible assumption) | assumption)
          have q250 : x10_1 < (t247.length : Int) := of_decide_eq_true (by first | (with_reducible assumption) | assumption)
          obtain ⟨ad250, e250, hx250_0⟩ := Kd.at_int (Kd.R_reads' HO_9.out).2.2 x10_1 p250 q250
          cases e250
          replace p250 := eq_true p250
          replace q250 := eq_true q250
          have p251 : 0 ≤ ((rd t247 x10_1) : Int) := of_decide_eq_true (by first | (with_reducible assumption) | assumption)
          have q251 : (rd t247 x10_1) < (x2_1.length : Int) := of_decide_eq_true (by first | (with_reducible assumption) | assumption)
          obtain ⟨ad251, e251, hx251_0⟩ := Kd.at_bool (Kd.R_reads' HO_2.out).2.2 (rd t247 x10_1) p251 q251
          (try rw [← Nbq18.out] at hx251_0)
          obtain rfl : (⟨go7, 0, none⟩ : Addr) = ad251 := (by injection e251)
          (first | simp only [add_plain] at hx251_0 | simp only [add_at] at hx251_0 | simp only [Addr.add, Nat.zero_add] at hx251_0 | skip)
          replace p251 := eq_true p251
          replace q251 := eq_true q251
          try go_wp2
          have n0_ := Aside0.mk (Kd.R_drew HO_2.out); have n1_ := Aside0.mk (Kd.R_drew HO_3.out); have n2_ := Aside0.mk (Kd.R_drew HO_9.out); have n3_ := Aside0.mk (blk_drew BK245.out); have n4_ := Aside0.mk (Kept.drew HK.out); have n5_ := Aside0.mk (below_drew1 HB.out); clear HO_2 HO_3 HO_9 BK245 HK HB; have HO_2 := n0_; have HO_3 := n1_; have HO_9 := n2_; have BK245 := n3_; have HK := n4_; have HB := n5_; clear n0_ n1_ n2_ n3_ n4_ n5_
          have p252 : 0 ≤ (x10_1 : Int) := of_decide_eq_true (by first | (with_reducible assumption) | assumption)
          have q252 : x10_1 < (t247.length : Int) := of_decide_eq_true (by first | (with_reducible assumption) | assumption)
          obtain ⟨ad252, e252, hx252_0⟩ := Kd.at_int (Kd.R_reads' HO_9.out).2.2 x10_1 p252 q252
          obtain rfl : ad250 = ad252 := (by injection e252)
          replace p252 := eq_true p252
          replace q252 := eq_true q252
          obtain ⟨Ao24, co24, eo24⟩ := Kd.R_slice HO_3.out
          (first | subst eo24 | (injection eo24 with f1_ f2_ f3_; have f4_ := f1_.symm; have f5_ := f3_.symm; clear f1_ f2_ f3_; subst f4_; subst f5_))
          refine start_ (n := 9) (S := fun w' => w'.cell? ⟨gb245, 0, none⟩ = some (.string a0_0) ∧ w'.cell? ⟨gb245, 1, none⟩ = some (.bool a0_1) ∧ w'.cell? ⟨gb245, 2, none⟩ = some (.slice A0_2 l0_2.length c0_2) ∧ w'.cell? ⟨gb245, 3, none⟩ = some (.int .i64 a0_3) ∧ w'.cell? ⟨gb245, 4, none⟩ = some (.slice A0_4 l0_4.length c0_4) ∧ w'.cell? (ad250.add (x10_1).toNat) = some (.int .i64 (rd t247 x10_1))) (ds := []) #[false, false, false, false, false, false, false, false, false] (by kernel_rfl) rfl rfl ⟨(blk_cell BK245.out 0).trans rfl, (blk_cell BK245.out 1).trans rfl, (blk_cell BK245.out 2).trans rfl, (blk_cell BK245.out 3).trans rfl, (blk_cell BK245.out 4).trans rfl, hx252_0⟩ (fun hHeld => ?_); refine with_tabW plnref3_deep.tab7 plnref3_deep.bits7 (fun HT_ HW_ => ?_)
          generalize wr.drew = w23 at HO_2 HO_3 HO_9 BK245 HK HB hx252_0 hHeld ⊢
          refine pure_ (i := 1) (N := some 32) (v := ?_) (a' := ?_) #[false, true, false, false, false, false, false, false, false] rfl rfl (any_of HT_.out (by kernel_rfl)) (fun _ _ _ h => h) (Or.inl ⟨by rfl, ?_⟩) ?_ ?_
          rotate_left
          ·intro w'
           go_simp
           with_reducible rfl
          rotate_left
          ·simp only [Act.put, List.setIfInBounds_toArray, List.set_cons_zero, List.set_cons_succ, i64_w, i32_w]; rfl
          refine pure_ (i := 2) (N := some 33) (v := ?_) (a' := ?_) #[false, true, true, false, false, false, false, false, false] rfl rfl (any_of HT_.out (by kernel_rfl)) (fun _ _ _ h => h) (Or.inl ⟨by rfl, ?_⟩) ?_ ?_
          rotate_left
          ·intro w'
           go_simp
           with_reducible rfl
          rotate_left
          ·simp only [Act.put, List.setIfInBounds_toArray, List.set_cons_zero, List.set_cons_succ, i64_w, i32_w]; rfl
          refine pure_ (i := 3) (N := some 34) (v := ?_) (a' := ?_) #[false, true, true, true, false, false, false, false, false] rfl rfl (any_of HT_.out (by kernel_rfl)) (fun _ _ _ h => h) (Or.inl ⟨by rfl, ?_⟩) ?_ ?_
          rotate_left
          ·intro w'
           go_simp
           with_reducible rfl
          rotate_left
          ·simp only [Act.put, List.setIfInBounds_toArray, List.set_cons_zero, List.set_cons_succ, i64_w, i32_w]; rfl
          refine pure_ (i := 5) (N := some 36) (v := ?_) (a' := ?_) #[false, true, true, true, false, true, false, false, false] rfl rfl (any_of HT_.out (by kernel_rfl)) (fun _ _ _ h => h) (Or.inl ⟨by rfl, ?_⟩) ?_ ?_
          rotate_left
          ·intro w'
           go_simp
           with_reducible rfl
          rotate_left
          ·simp only [Act.put, List.setIfInBounds_toArray, List.set_cons_zero, List.set_cons_succ, i64_w, i32_w]; rfl
          refine pure_ (i := 6) (N := some 37) (v := ?_) (a' := ?_) #[false, true, true, true, false, true, true, false, false] rfl rfl (any_of HT_.out (by kernel_rfl)) (fun _ _ _ h => h) (Or.inl ⟨by rfl, ?_⟩) ?_ ?_
          rotate_left
          ·intro w'
           go_simp
           with_reducible rfl
          rotate_left
          ·simp only [Act.put, List.setIfInBounds_toArray, List.set_cons_zero, List.set_cons_succ, i64_w, i32_w]; rfl
          refine take_ (i := 0) (N := some 31) (v := ?_) (a' := ?_) #[true, true, true, true, false, true, true, false, false] rfl rfl (take_ofW HT_.out HW_.out (by kernel_rfl)) (fun _ _ _ h => h) (Or.inl ⟨by rfl, ?_⟩) hHeld ?_ ?_
          rotate_left
          ·rintro w' ⟨s0, s1, s2, s3, s4, s5⟩
           go_simp
           with_reducible rfl
          rotate_left
          ·simp only [Act.put, List.setIfInBounds_toArray, List.set_cons_zero, List.set_cons_succ, i64_w, i32_w]; rfl
          refine take_ (i := 4) (N := some 35) (v := ?_) (a' := ?_) #[true, true, true, true, true, true, true, false, false] rfl rfl (take_ofW HT_.out HW_.out (by kernel_rfl)) (fun _ _ _ h => h) (Or.inl ⟨by rfl, ?_⟩) hHeld ?_ ?_
          rotate_left
          ·rintro w' ⟨s0, s1, s2, s3, s4, s5⟩
           go_simp
           with_reducible rfl
          rotate_left
          ·simp only [Act.put, List.setIfInBounds_toArray, List.set_cons_zero, List.set_cons_succ, i64_w, i32_w]; rfl
          refine one_ (i := 7) (N := some 38) #[true, true, true, true, true, true, true, true, false] rfl rfl (one_of HT_.out (by kernel_rfl)) (by decide) (fun K hK => ?_)
          refine goes_ Try.func67 (by kernel_rfl) rfl #[.agg #[.string a0_0, .bool a0_1, .slice A0_2 l0_2.length c0_2, .int .i64 a0_3, .slice A0_4 l0_4.length c0_4], .int .i64 (rd t247 x10_1), .slice (some ⟨go7, 0, none⟩) x2_1.length co7, .slice Ao24 x3_1.length co24] (by rfl) rfl rfl (by (try simp only [List.map_toArray, List.map_cons, List.map_nil]); first | done | rfl | (simp only [List.length_drop, List.length_take]; rfl)) ?_
          with_reducible refine (ih k1 (by have := HK1.out; omega) a0_0 a0_1 _ _ l0_2 a0_3 _ _ l0_4 (rd t247 x10_1) (fun k_ => some k_ = (.slice (some ⟨go7, 0, none⟩) x2_1.length co7 : Value).ownBlock) (.slice (some ⟨go7, 0, none⟩) x2_1.length co7) x2_1 (fun k_ => some k_ = (.slice Ao24 x3_1.length co24 : Value).ownBlock) (.slice Ao24 x3_1.length co24) x3_1 t253 t256 w0 _ ?side1 ?side2 ?side3 ?side4 ?side5 ?side6 ?side7 A21.out).mono ?_
          (case side1 => repeat (first | (with_reducible first | exact HB.out | apply below_alloc | apply pw_below_drewN | apply below_drew1 | refine below_set ?_ GE245.out) | exact HB.out))
          (case side2 => exact Kd.C_kept_call HR0_2.out (by repeat (first | (with_reducible first | exact HK.out | apply Kept.alloc | apply Kept.drewN | apply Kept.drew | refine Kept.setCell ?_ (.inr GW245.out) _) | exact HK.out)) (fun k_ hs_ => Or.elim hs_ (fun e_ => (fun e_ => (HO_2.out.1 k_ e_.symm)) e_) (fun e_ => (fun e_ => (HO_3.out.1 k_ e_.symm).1) e_)))
          (case side3 => exact HC0_2.out)
          (case side4 => exact Kd.C_kept_call HR0_4.out (by repeat (first | (with_reducible first | exact HK.out | apply Kept.alloc | apply Kept.drewN | apply Kept.drew | refine Kept.setCell ?_ (.inr GW245.out) _) | exact HK.out)) (fun k_ hs_ => Or.elim hs_ (fun e_ => (fun e_ => (HO_2.out.1 k_ e_.symm)) e_) (fun e_ => (fun e_ => (HO_3.out.1 k_ e_.symm).1) e_)))
          (case side5 => exact HC0_4.out)
          (case side6 => exact Kd.R_tight rfl HO_2.out)
          (case side7 => exact Kd.R_tight rfl HO_3.out)
          rintro e w25 ⟨v254, rfl, ho0, hy0, hb, hkp⟩
          have HS5_ := cell_kept (hHeld.2.2.2.2.2) hkp (by first | (rw [add_block]; exact (fun hs_ => Or.elim hs_ (fun e_ => ((((Kd.R_apart' HO_9.out (Kd.R_typed HO_2.out) (by decide))).1 _ rfl).2) e_) (fun e_ => ((((Kd.R_apart' HO_9.out (Kd.R_typed HO_2.out) (by decide))).1 _ rfl).1.2) e_))) | (show ¬ _; simp only [add_block]; exact (fun hs_ => Or.elim hs_ (fun e_ => ((((Kd.R_apart' HO_9.out (Kd.R_typed HO_2.out) (by decide))).1 _ rfl).2) e_) (fun e_ => ((((Kd.R_apart' HO_9.out (Kd.R_typed HO_2.out) (by decide))).1 _ rfl).1.2) e_))) | exact (fun hs_ => Or.elim hs_ (fun e_ => ((((Kd.R_apart' HO_9.out (Kd.R_typed HO_2.out) (by decide))).1 _ rfl).2) e_) (fun e_ => ((((Kd.R_apart' HO_9.out (Kd.R_typed HO_2.out) (by decide))).1 _ rfl).1.2) e_)))
          refine ⟨_, rfl, ?_⟩
          have n0_ := Aside0.mk (Kd.R_reok rfl hy0 (fun k_ e_ => HO_2.out.1 k_ e_)); have n1_ := Aside0.mk (Kd.R_mono (ok' := fun k_ => ((P2_ k_ ∨ P3_ k_) ∨ w.heap.size ≤ k_) ∧ some k_ ≠ (v254 : Value).ownBlock) (Kd.R_keptB ((Kd.R_apart' HO_9.out (Kd.R_typed HO_2.out) (by decide))) hkp (fun k_ hk_ hs_ => Or.elim hs_ (fun e_ => (hk_.2) e_) (fun e_ => (hk_.1.2) e_))) (fun k_ hk_ => ⟨hk_.1.1.1, fun e_ => Or.elim (ho0.1 k_ e_.symm) (fun hs_ => hk_.2.1 hs_) (fun hn_ => Nat.not_le.2 hk_.2.2 hn_)⟩)); have n2_ := Aside0.mk (blk_kept (by (with_reducible repeat (first | refine blk_drewN ?_ _ | refine blk_drew ?_ | refine blk_alloc ?_ _)); exact BK245.out) hkp (fun hs_ => Or.elim hs_ (fun e_ => (fun e_ => (Kd.R_ne HO_2.out BK245.out (by decide)) e_) e_) (fun e_ => (fun e_ => (Kd.R_ne HO_3.out BK245.out (by decide)) e_) e_))); have n3_ := Aside0.mk (Kd.R_mono (ok' := fun k_ => ((P2_ k_ ∨ P3_ k_) ∨ w.heap.size ≤ k_) ∧ some k_ ≠ (.slice (some ad250) t247.length co22 : Value).ownBlock) ho0 (fun k_ hk_ => ⟨Or.elim hk_ (fun hs_ => Or.elim hs_ (fun hs_ => (HO_2.out.1 k_ (hs_).symm)) (fun hs_ => (HO_3.out.1 k_ (hs_).symm).1)) (fun hn_ => (.inr (Nat.le_trans (by first | exact HK.out.1 | exact (show Kept w _ (fun k_ => P2_ k_ ∨ P3_ k_) from by repeat (first | (with_reducible first | exact HK.out | apply Kept.alloc | apply Kept.drewN | apply Kept.drew | refine Kept.setCell ?_ (.inr GW245.out) _) | exact HK.out)).1) hn_))), Or.elim hk_ (fun hs_ => Or.elim hs_ (fun hs_ => fun e_ => ((((Kd.R_apart' HO_9.out (Kd.R_typed HO_2.out) (by decide))).1 k_ e_.symm).2) hs_) (fun hs_ => fun e_ => ((((Kd.R_apart' HO_9.out (Kd.R_typed HO_2.out) (by decide))).1 k_ e_.symm).1.2) hs_)) (fun hn_ => (Kd.fresh' (Kd.R_lt (by (with_reducible repeat (first | apply Kd.R_alloc | apply Kd.R_drewN | apply Kd.R_drew)); exact HO_9.out)) k_ hn_))⟩)); have n4_ := Aside0.mk (Kept.then_ (S := (fun k_ => P2_ k_ ∨ P3_ k_)) (by repeat (first | (with_reducible first | exact HK.out | apply Kept.alloc | apply Kept.drewN | apply Kept.drew | refine Kept.setCell ?_ (.inr GW245.out) _) | exact HK.out)) hkp (fun k_ hs_ => Or.elim hs_ (fun e_ => (fun e_ => (HO_2.out.1 k_ e_.symm)) e_) (fun e_ => (fun e_ => (HO_3.out.1 k_ e_.symm).1) e_))); have n5_ := Aside0.mk (hb); clear HO_2 HO_9 BK245 HK HB HO_3; have HO_2 := n0_; have HO_9 := n1_; have BK245 := n2_; have HO255 := n3_; have HK := n4_; have HB := n5_; clear n0_ n1_ n2_ n3_ n4_ n5_; (try clear hb); (try clear hkp); (try clear ho0); (try clear hy0)
          refine hK.out _ _ ⟨(blk_cell BK245.out 0).trans rfl, (blk_cell BK245.out 1).trans rfl, (blk_cell BK245.out 2).trans rfl, (blk_cell BK245.out 3).trans rfl, (blk_cell BK245.out 4).trans rfl, HS5_⟩ (fun hHeld => ?_)
          clear hK K; refine norm_ (a' := ?_) ?_ ?_; rotate_left
          ·show Act.put _ (some 38) _ = _; simp only [Act.put, List.setIfInBounds_toArray, List.set_cons_zero, List.set_cons_succ, i64_w, i32_w]; rfl
          refine pure_ (i := 8) (N := some 3) (v := ?_) (a' := ?_) #[true, true, true, true, true, true, true, true, true] rfl rfl (any_of HT_.out (by kernel_rfl)) (fun _ _ _ h => h) (Or.inl ⟨by rfl, ?_⟩) ?_ ?_
          rotate_left
          ·intro w'
           go_simp
           with_reducible rfl
          rotate_left
          ·simp only [Act.put, List.setIfInBounds_toArray, List.set_cons_zero, List.set_cons_succ, i64_w, i32_w]; rfl
          refine done_ (done_of HT_.out (by kernel_rfl)) ?_
          try go_wp2
          (try simp only [← hl2_1])
          go_roundg k1
          case measure => have := HK1.out; omega
          case rel => exact ⟨(t256), (t253), (wrap64 (x10_1 + 1)), (by first | rfl | (simp; done) | (simp [*]; done)), H', ⟨by have := HK1.out; omega⟩, ⟨by (try simp only [hl2_1]); (with_reducible repeat (first | apply Kd.R_alloc | apply Kd.R_drewN | apply Kd.R_drew)); exact HO_2.out⟩, ⟨by (try simp only [hl2_1]); (with_reducible repeat (first | apply Kd.R_alloc | apply Kd.R_drewN | apply Kd.R_drew)); exact HO255.out⟩, ⟨by (try simp only [hl2_1]); (with_reducible repeat (first | apply Kd.R_alloc | apply Kd.R_drewN | apply Kd.R_drew)); exact HO_9.out⟩, ⟨by (try simp only [hl2_1]); (with_reducible repeat (first | refine blk_drewN ?_ _ | refine blk_drew ?_ | refine blk_alloc ?_ _)); exact BK245.out⟩, ⟨by repeat (first | (with_reducible first | exact HK.out | apply Kept.alloc | apply Kept.drewN | apply Kept.drew | refine Kept.setCell ?_ (.inr GW245.out) _) | exact HK.out)⟩, ⟨by repeat (first | (with_reducible first | exact HB.out | apply below_alloc | apply pw_below_drewN | apply below_drew1 | refine below_set ?_ GE245.out) | exact HB.out)⟩⟩
        ·rw [if_neg c17] at H
         exact absurd H (by simp)
       ·rw [if_neg c16] at H
        exact absurd H (by simp)
      ·rw [if_neg c15] at H
       exact absurd H (by simp)
     ·rw [if_neg c14] at H
      have c14b0 : decide (x10_1 < (t247.length : Int)) = false := decide_eq_false c14
      clear c14
      by_cases c26 : x3_1.length < 17592186044416
      ·rw [if_pos c26] at H
       have LMc26 := Aside0.mk c26
       clear c26
       obtain ⟨y257, hy257⟩ : ∃ y_ : List Int, y_ = (x3_1 ++ [a1]) := ⟨_, rfl⟩
       replace H : (some (y257, x2_1)) = some (r1, r2) := by first | (rw [hy257]; with_reducible exact H) | (have H2_ := (Option.bind_some _ _).symm.trans H; rw [hy257]; with_reducible exact H2_) | (have H2_ := (Option.bind_some _ _).symm.trans H; with_reducible exact H2_) | with_reducible exact H | (rw [hy257]; exact H) | exact H
       have Ny257 := Aside0.mk hy257
       clear hy257
       simp only [Option.some.injEq, Prod.mk.injEq] at H
       obtain ⟨rfl, rfl⟩ := H
       obtain ⟨Ao27, co27, eo27⟩ := Kd.R_slice HO_9.out
       subst eo27
       go_wp2_with (first | ((with_reducible refine gate_builtin (b := .append) (xs := #[.tmp 39, .tmp 41]) rfl ?_); at_builtin; refine Kd.R_append (Kd.int .i64) (w0 := w0) w0.heap.size rfl (.tmp 39) (.tmp 41) 22 3 (.int .i64 0) 8 rfl Try.underlying22 info3 rfl (by decide) (by omega) u3 x3_1 a1 [.int .i64 a1] (fun k_ => ((P2_ k_ ∨ P3_ k_) ∨ w.heap.size ≤ k_) ∧ some k_ ≠ (.slice Ao27 t247.length co27 : Value).ownBlock) (fun _ => False) rfl rfl ?aP (fun _ hk => hk.elim) ?aF ?aO ?aB ?aS ?aL ?_; (case aP => exact rfl); (case aB => exact (by repeat (first | (with_reducible first | exact HB.out | apply below_alloc | apply pw_below_drewN | apply below_drew1 | refine below_set ?_ GE245.out) | exact HB.out))); (case aF => exact (fun k_ hk => ⟨(.inr (Nat.le_trans (by first | exact HK.out.1 | exact (show Kept w _ (fun k_ => P2_ k_ ∨ P3_ k_) from by repeat (first | (with_reducible first | exact HK.out | apply Kept.alloc | apply Kept.drewN | apply Kept.drew | refine Kept.setCell ?_ (.inr GW245.out) _) | exact HK.out)).1) hk)), Kd.fresh' (Kd.R_lt (by (with_reducible repeat (first | apply Kd.R_alloc | apply Kd.R_drewN | apply Kd.R_drew)); exact HO_9.out)) k_ hk⟩)); (case aO => exact (by (with_reducible repeat (first | apply Kd.R_alloc | apply Kd.R_drewN | apply Kd.R_drew)); exact HO_3.out)); (case aS => exact (below_size (by repeat (first | (with_reducible first | exact HB.out | apply below_alloc | apply pw_below_drewN | apply below_drew1 | refine below_set ?_ GE245.out) | exact HB.out)))); (case aL => have := LMc26.out; omega); intro v258 w28 ho hb hg hat; rw [← Ny257.out] at ho; have n0_ := Aside0.mk (Kd.R_over' (by (with_reducible repeat (first | apply Kd.R_alloc | apply Kd.R_drewN | apply Kd.R_drew)); exact HO_2.out) (Kd.R_typed (by (with_reducible repeat (first | apply Kd.R_alloc | apply Kd.R_drewN | apply Kd.R_drew)); exact HO_3.out)) (by decide) hg); have n1_ := Aside0.mk (Kd.R_after (ok := (fun k_ => ((P2_ k_ ∨ P3_ k_) ∨ w.heap.size ≤ k_))) (by (with_reducible repeat (first | apply Kd.R_alloc | apply Kd.R_drewN | apply Kd.R_drew)); exact HO_9.out) hg hat); have n2_ := Aside0.mk (blk_grown (g := gb245) (o := .cells #[.string a0_0, .bool a0_1, .slice A0_2 l0_2.length c0_2, .int .i64 a0_3, .slice A0_4 l0_4.length c0_4] 25 (0, 0)) (by (with_reducible repeat (first | refine blk_drewN ?_ _ | refine blk_drew ?_ | refine blk_alloc ?_ _)); exact BK245.out) hg (Kd.R_ne HO_3.out BK245.out (by decide))); have n3_ := Aside0.mk (hb); have n4_ := Aside0.mk (Kept.of_grown (S := (fun k_ => P2_ k_ ∨ P3_ k_)) hg (by repeat (first | (with_reducible first | exact HK.out | apply Kept.alloc | apply Kept.drewN | apply Kept.drew | refine Kept.setCell ?_ (.inr GW245.out) _) | exact HK.out)) (fun k_ e_ => (HO_3.out.1 k_ e_).1)); have n5_ := Aside0.mk (ho); clear HO_2; clear HO_9; clear BK245; clear HB; clear HK; clear HO_3; have HO_2 := n0_; have HO_9 := n1_; have BK245 := n2_; have HB := n3_; have HK := n4_; have HO259 := n5_; clear n0_ n1_ n2_ n3_ n4_ n5_; clear ho hb hg hat))
       go_ret
       exact ⟨_, by first | rfl | (simp [errW_none, errW_some] <;> rfl) | (simp [*, errW_none, errW_some] <;> rfl), by (with_reducible repeat (first | apply Kd.R_alloc | apply Kd.R_drewN | apply Kd.R_drew)); exact Kd.R_mono HO259.out (fun _ hk => hk.1), (by first | exact (by (with_reducible repeat (first | apply Kd.R_alloc | apply Kd.R_drewN | apply Kd.R_drew)); exact HO_2.out) | (simp only [hl2_1]; exact (by (with_reducible repeat (first | apply Kd.R_alloc | apply Kd.R_drewN | apply Kd.R_drew)); exact HO_2.out))), by repeat (first | (with_reducible first | exact HB.out | apply below_alloc | apply pw_below_drewN | apply below_drew1 | refine below_set ?_ GE245.out) | exact HB.out), by repeat (first | (with_reducible first | exact HK.out | apply Kept.alloc | apply Kept.drewN | apply Kept.drew | refine Kept.setCell ?_ (.inr GW245.out) _) | exact HK.out)⟩
      ·rw [if_neg c26] at H
       exact absurd H (by simp)
  ·rw [if_neg c6] at H
   exact absurd H (by simp)
 ·rw [if_neg c5] at H
  exact absurd H (by simp)
end Go.Proofs.Ytkcimaibaicdcaa.P
end
section
namespace Go.Proofs.Ytkcimaibaicdcaa.P
open Go.RowKit Go.Proofs.YtkcimaibaicdcaaW.PrintWords Go.Proofs.YtkcimaibaicdcaaW.PrintLast Go.Proofs.YtkcimaibaicdcaaW.PrintMore
attribute [local go_sem] max2_int min2_int max_two min_two max_three min_three max_four min_four   
set_option linter.unusedVariables false
set_option linter.unusedSimpArgs false
end Go.Proofs.Ytkcimaibaicdcaa.P
end
section
namespace Go.Proofs.Ytkcimaibaicdcaa.P
open Go.RowKit Go.Proofs.YtkcimaibaicdcaaW.PrintWords Go.Proofs.YtkcimaibaicdcaaW.PrintLast Go.Proofs.YtkcimaibaicdcaaW.PrintMore
attribute [local go_sem] max2_int min2_int max_two min_two max_three min_three max_four min_four   
set_option linter.unusedVariables false
set_option linter.unusedSimpArgs false
end Go.Proofs.Ytkcimaibaicdcaa.P
end
section
namespace Go.Proofs.Ytkcimaibaicdcaa.Gr
open Go.RowKit Go.Proofs.YtkcimaibaicdcaaW.PrintWords Go.Proofs.Ytkcimaibaicdcaa.P
def SeenIs (n : Nat) (ls : List Int) (seen : List Bool) : Prop := seen.length = n ∧ ∀ v : Int, 0 ≤ v → v < (n : Int) → (rdOf false seen v = true ↔ rd ls v ≠ 0)
section
variable {a0 : ByteArray} {a1 : Bool} {l2 : List Int} {a3 : Int} {l4 : List S54}
theorem next_len (h : IntoOk l4) (b : Int) : ((nextOf l4 b).length : Int) ≤ 17592186043904 := by
  unfold nextOf
  split
  · rename_i hg
    obtain ⟨g0, g1, g2, _⟩ := hg
    have hp := List.length_pos_iff.2 g2
    obtain ⟨h4, _⟩ := (h.2 b g0 g1).2 (((rd_T54 l4 b).f0.length : Int) - 1) (by omega) (by omega)
    have := fold_len (n := l4.length) (x := (lastI l4 b).f6) (out := [])
    have h4' : (lastI l4 b).f6.length ≤ 17592186043904 := h4
    simp at this
    omega
  · simp
structure Comes (l4 : List S54) (ls : List Int) (b : Int) : Prop where
  met : Rc (nextOf l4) (fun _ => True) 0 b
  grey : ∀ v : Int, 0 ≤ v → v < (l4.length : Int) → rd ls v = 1 → Rc (nextOf l4) (fun _ => True) v b
  from_ : b = 0 ∨ ∃ p : Int, 0 ≤ p ∧ p < (l4.length : Int) ∧ b ∈ nextOf l4 p ∧ p ≠ b ∧ rd ls p = 1
def Ends (a0 : ByteArray) (a1 : Bool) (l2 : List Int) (a3 : Int) (l4 : List S54) (f : Nat → Option (List Int × List Int × Bool)) (g : List Bool → Nat → Option (List Int × List Bool)) (ls lo : List Int) (lp : Bool) (b : Int) (Q : List Int → List Int → Bool → Prop) : Prop :=
  ∃ rs ro rp, Ev f (rs, ro, rp) ∧ (∀ seen, SeenIs l4.length ls seen → ∃ seen', SeenIs l4.length rs seen' ∧ Ev (g seen) (ro, seen')) ∧ Dfs (nextOf l4) l4.length 0 rs ro rp ∧ Q rs ro rp ∧ rd rs b = 2
theorem visit_loop (h : IntoOk l4) (b : Int) (b0 : 0 ≤ b) (b1 : b < (l4.length : Int)) (m : Nat)
    (ih : ∀ (t : Int) ls lo lp, Dfs (nextOf l4) l4.length 0 ls lo lp → ls.count 0 ≤ m → 0 ≤ t → t < (l4.length : Int) → rd ls t = 0 → Comes l4 ls t →
      Ends a0 a1 l2 a3 l4 (fun k => flow_visit.f k a0 a1 l2 a3 l4 t ls lo lp) (fun seen k => plnref3_deep.f k a0 a1 l2 a3 l4 t seen lo) ls lo lp t (fun rs ro rp => Went l4.length ls lo rs ro lp rp)) :
    ∀ i, 0 ≤ i → ∀ ls lo lp, Dfs (nextOf l4) l4.length 0 ls lo lp → ls.count 0 ≤ m → rd ls b = 1 → Comes l4 ls b →
      (∀ j, 0 ≤ j → j < i → j < ((nextOf l4 b).length : Int) → rd ls (rd (nextOf l4 b) j) ≠ 0 ∧ (lp = false → rd (nextOf l4 b) j ∈ lo)) →
      Ends a0 a1 l2 a3 l4 (fun k => flow_visit.l0 k a0 a1 l2 a3 l4 b (nextOf l4 b) i ls lo lp) (fun seen k => plnref3_deep.l0 k b seen lo (nextOf l4 b) i a0 a1 l2 a3 l4) ls lo lp b
        (fun rs ro rp => ∃ lf lof, rs = lf.set b.toNat 2 ∧ ro = lof ++ [b] ∧ Went l4.length ls lo lf lof lp rp) := by
  have hn := h.1
  have hx := next_len h b
  refine up_to ((nextOf l4 b).length : Int) _ ?_ ?_
  · intro i hi ls lo lp hD hm hb hC hin
    have hl : b < (ls.length : Int) := by rw [hD.len]; exact b1
    have hsz : lo.length < 17592186044416 := by have := hD.size; have := List.count_le_length (l := ls) (a := 2); have := hD.len; omega
    have rs : ∀ v : Int, 0 ≤ v → rd (ls.set b.toNat 2) v = if b = v then 2 else rd ls v := fun v hv => rd_set b0 hl hv
    refine ⟨ls.set b.toNat 2, lo ++ [b], lp, Ev.step (fun k => by simp only [flow_visit.l0]; rw [if_neg (by omega), if_pos b0, if_pos hl, if_pos hsz]) (Ev.now _), fun seen hs => ⟨seen, ⟨hs.1, fun v v0 v1 => ?_⟩, Ev.step (fun k => by simp only [plnref3_deep.l0]; rw [if_neg (by omega), if_pos hsz]) (Ev.now _)⟩, ?_, ⟨ls, lo, rfl, rfl, Went.refl _ _ _ _⟩, by rw [rs b b0, if_pos rfl]⟩
    · rw [hs.2 v v0 v1, rs v v0]
      by_cases e : b = v
      · subst e; rw [if_pos rfl, hb]; simp
      · rw [if_neg e]
    · refine hD.leave b0 b1 hb (fun w hw => ?_) hC.from_
      obtain ⟨w0, w1⟩ := next_in hw
      obtain ⟨j, j0, j1, rfl⟩ := mem_rd hw
      obtain ⟨k1, k2⟩ := hin j j0 (by omega) j1
      exact ⟨w0, w1, k1, k2⟩
  · intro i i0 i1 ihi ls lo lp hD hm hb hC hin
    have hlen := hD.len
    have hw := rd_mem i0 i1
    obtain ⟨t0, t1⟩ := next_in hw
    have tl : rd (nextOf l4 b) i < (ls.length : Int) := by omega
    have hrt : Rc (nextOf l4) (fun _ => True) 0 (rd (nextOf l4 b) i) := .step hC.met hw trivial
    rcases hD.three _ t0 t1 with e | e | e
    ·
      have hC' : Comes l4 ls (rd (nextOf l4 b) i) := ⟨hrt, fun v v0 v1 hv => .step (hC.grey v v0 v1 hv) hw trivial, .inr ⟨b, b0, b1, hw, fun e2 => by rw [← e2] at e; omega, hb⟩⟩
      obtain ⟨rs, ro, rp, k1, k2, k3, k4, k5⟩ := ih _ ls lo lp hD hm t0 t1 e hC'
      have hb' : rd rs b = 1 := by rw [k4.keep b b0 b1 (by omega)]; exact hb
      have hC2 : Comes l4 rs b := ⟨hC.met, fun v v0 v1 hv => hC.grey v v0 v1 (k4.grey v v0 v1 hv), hC.from_.imp id (fun ⟨p, p0, p1, pv, pn, hp⟩ => ⟨p, p0, p1, pv, pn, by rw [k4.keep p p0 p1 (by omega)]; exact hp⟩)⟩
      have hflag : rp = false → lp = false := fun e2 => by cases lp with | false => rfl | true => exact absurd (k4.flag rfl) (by simp [e2])
      obtain ⟨tt, rfl⟩ := k4.more
      have hin2 : ∀ j, 0 ≤ j → j < i + 1 → j < ((nextOf l4 b).length : Int) → rd rs (rd (nextOf l4 b) j) ≠ 0 ∧ (rp = false → rd (nextOf l4 b) j ∈ lo ++ tt) := fun j j0 j1 j2 => by
        rcases Int.lt_or_eq_of_le (Int.le_of_lt_add_one j1) with hj | rfl
        · obtain ⟨m1, m2⟩ := hin j j0 hj j2
          obtain ⟨u0, u1⟩ := next_in (rd_mem j0 j2)
          exact ⟨by rw [k4.keep _ u0 u1 m1]; exact m1, fun e2 => List.mem_append_left _ (m2 (hflag e2))⟩
        · exact ⟨by omega, fun _ => (k3.mem _).2 ⟨t0, t1, k5⟩⟩
      obtain ⟨rs2, ro2, rp2, m1, m2, m3, ⟨lf, lof, m4, m5, m6⟩, m7⟩ := ihi rs (lo ++ tt) rp k3 (Nat.le_trans k4.zero hm) hb' hC2 hin2
      refine ⟨rs2, ro2, rp2, Ev.step (fun k => by simp only [flow_visit.l0]; rw [if_pos i1, if_pos i0, if_pos t0, if_pos tl, if_pos e, wrap_in (by omega) (by omega)]) (Ev.bind k1 m1), fun seen hs => ?_, m3, ⟨lf, lof, m4, m5, k4.trans m6⟩, m7⟩
      obtain ⟨s1, g1, g2⟩ := k2 seen hs
      obtain ⟨s2, g3, g4⟩ := m2 s1 g1
      refine ⟨s2, g3, Ev.step (fun k => by simp only [plnref3_deep.l0]; rw [if_pos i1, if_pos i0, if_pos t0, if_pos (by rw [hs.1]; exact t1), if_neg (by rw [hs.2 _ t0 t1]; simp [e]), wrap_in (by omega) (by omega)]) (Ev.bind g2 g4)⟩
    ·
      have hD' : Dfs (nextOf l4) l4.length 0 ls lo true := hD.turn hC.met hw (hC.grey _ t0 t1 e)
      have hin2 : ∀ j, 0 ≤ j → j < i + 1 → j < ((nextOf l4 b).length : Int) → rd ls (rd (nextOf l4 b) j) ≠ 0 ∧ (true = false → rd (nextOf l4 b) j ∈ lo) := fun j j0 j1 j2 => by
        rcases Int.lt_or_eq_of_le (Int.le_of_lt_add_one j1) with hj | rfl
        · exact ⟨(hin j j0 hj j2).1, fun e2 => by cases e2⟩
        · exact ⟨by omega, fun e2 => by cases e2⟩
      obtain ⟨rs2, ro2, rp2, m1, m2, m3, ⟨lf, lof, m4, m5, m6⟩, m7⟩ := ihi ls lo true hD' hm hb hC hin2
      refine ⟨rs2, ro2, rp2, Ev.step (fun k => by simp only [flow_visit.l0]; rw [if_pos i1, if_pos i0, if_pos t0, if_pos tl, if_neg (by omega), if_pos e, wrap_in (by omega) (by omega)]) m1, fun seen hs => ?_, m3, ⟨lf, lof, m4, m5, ⟨m6.keep, m6.grey, m6.more, fun _ => m6.flag rfl, m6.zero⟩⟩, m7⟩
      obtain ⟨s2, g3, g4⟩ := m2 seen hs
      refine ⟨s2, g3, Ev.step (fun k => by simp only [plnref3_deep.l0]; rw [if_pos i1, if_pos i0, if_pos t0, if_pos (by rw [hs.1]; exact t1), if_pos (by rw [hs.2 _ t0 t1]; omega), wrap_in (by omega) (by omega)]) g4⟩
    ·
      have hin2 : ∀ j, 0 ≤ j → j < i + 1 → j < ((nextOf l4 b).length : Int) → rd ls (rd (nextOf l4 b) j) ≠ 0 ∧ (lp = false → rd (nextOf l4 b) j ∈ lo) := fun j j0 j1 j2 => by
        rcases Int.lt_or_eq_of_le (Int.le_of_lt_add_one j1) with hj | rfl
        · exact hin j j0 hj j2
        · exact ⟨by omega, fun _ => (hD.mem _).2 ⟨t0, t1, e⟩⟩
      obtain ⟨rs2, ro2, rp2, m1, m2, m3, m4, m7⟩ := ihi ls lo lp hD hm hb hC hin2
      refine ⟨rs2, ro2, rp2, Ev.step (fun k => by simp only [flow_visit.l0]; rw [if_pos i1, if_pos i0, if_pos t0, if_pos tl, if_neg (by omega), if_neg (by omega), wrap_in (by omega) (by omega)]) m1, fun seen hs => ?_, m3, m4, m7⟩
      obtain ⟨s2, g3, g4⟩ := m2 seen hs
      refine ⟨s2, g3, Ev.step (fun k => by simp only [plnref3_deep.l0]; rw [if_pos i1, if_pos i0, if_pos t0, if_pos (by rw [hs.1]; exact t1), if_pos (by rw [hs.2 _ t0 t1]; omega), wrap_in (by omega) (by omega)]) g4⟩
theorem visit_ev (h : IntoOk l4) : ∀ (m : Nat) (t : Int) ls lo lp, Dfs (nextOf l4) l4.length 0 ls lo lp → ls.count 0 ≤ m → 0 ≤ t → t < (l4.length : Int) → rd ls t = 0 → Comes l4 ls t →
      Ends a0 a1 l2 a3 l4 (fun k => flow_visit.f k a0 a1 l2 a3 l4 t ls lo lp) (fun seen k => plnref3_deep.f k a0 a1 l2 a3 l4 t seen lo) ls lo lp t (fun rs ro rp => Went l4.length ls lo rs ro lp rp) := by
  intro m
  induction m with
  | zero =>
    intro t ls lo lp hD hm t0 t1 ht _
    have := hD.len
    have : 0 < ls.count 0 := List.count_pos_iff.2 (ht ▸ rd_mem t0 (by omega))
    omega
  | succ m ih =>
    intro b ls lo lp hD hm b0 b1 hb hC
    have hl : b < (ls.length : Int) := by rw [hD.len]; exact b1
    have rs1 : ∀ v : Int, 0 ≤ v → rd (ls.set b.toNat 1) v = if b = v then 1 else rd ls v := fun v hv => rd_set b0 hl hv
    have hz := count_put (x := 1) (y := 0) b0 hl
    rw [hb] at hz
    simp at hz
    have hC1 : Comes l4 (ls.set b.toNat 1) b := by
      refine ⟨hC.met, fun v v0 v1 hv => ?_, hC.from_.imp id (fun ⟨p, p0, p1, pv, pn, hp⟩ => ⟨p, p0, p1, pv, pn, by rw [rs1 p p0]; split <;> first | rfl | exact hp⟩)⟩
      rw [rs1 v v0] at hv
      by_cases e : b = v
      · subst e; exact .refl trivial
      · rw [if_neg e] at hv; exact hC.grey v v0 v1 hv
    obtain ⟨rs, ro, rp, k1, k2, k3, ⟨lf, lof, k4, k5, k6⟩, k7⟩ := visit_loop h b b0 b1 m ih 0 (by omega) _ lo lp (hD.enter b0 b1 hb hC.met) (by omega) (by rw [rs1 b b0, if_pos rfl]) hC1 (fun j j0 j1 => by omega)
    have hlf : lf.length = l4.length := by have := k3.len; rw [k4, List.length_set] at this; exact this
    have rs2 : ∀ v : Int, 0 ≤ v → rd rs v = if b = v then 2 else rd lf v := fun v hv => by rw [k4]; exact rd_set b0 (by rw [hlf]; exact b1) hv
    refine ⟨rs, ro, rp, Ev.step (fun k => by simp only [flow_visit.f]; rw [if_pos b0, if_pos hl]) (Ev.bind (next_ev h b) k1), fun seen hs => ?_, k3, ⟨fun v v0 v1 hv => ?_, fun v v0 v1 hv => ?_, ?_, k6.flag, ?_⟩, k7⟩
    · obtain ⟨s1, g1, g2⟩ := k2 (seen.set b.toNat true) ⟨by simpa using hs.1, fun v v0 v1 => by
        rw [rdb_set b0 (by rw [hs.1]; exact b1) v0, rs1 v v0]
        by_cases e : b = v
        · simp [e]
        · rw [if_neg e, if_neg e]; exact hs.2 v v0 v1⟩
      exact ⟨s1, g1, Ev.step (fun k => by simp only [plnref3_deep.f]; rw [if_pos b0, if_pos (by rw [hs.1]; exact b1)]) (Ev.bind (rnext_ev h b) g2)⟩
    · have e : ¬ b = v := by rintro rfl; exact hv hb
      have e1 : rd (ls.set b.toNat 1) v = rd ls v := by rw [rs1 v v0, if_neg e]
      rw [rs2 v v0, if_neg e, k6.keep v v0 v1 (by rw [e1]; exact hv), e1]
    · rw [rs2 v v0] at hv
      have e : ¬ b = v := by rintro rfl; rw [if_pos rfl] at hv; omega
      rw [if_neg e] at hv
      have := k6.grey v v0 v1 hv
      rwa [rs1 v v0, if_neg e] at this
    · obtain ⟨t, ht⟩ := k6.more
      exact ⟨t ++ [b], by rw [k5, ht, List.append_assoc]⟩
    · have e2 := count_put (xs := lf) (x := 2) (y := 0) b0 (by rw [hlf]; exact b1)
      rw [← k4] at e2
      have hbf : rd lf b = 1 := by rw [k6.keep b b0 b1 (by rw [rs1 b b0, if_pos rfl]; omega), rs1 b b0, if_pos rfl]
      rw [hbf] at e2
      simp at e2
      have := k6.zero
      omega
structure Walked (l4 : List S54) (rs ro : List Int) (rp : Bool) : Prop where
  dfs : Dfs (nextOf l4) l4.length 0 rs ro rp
  done : ∀ v : Int, 0 ≤ v → v < (l4.length : Int) → rd rs v = 0 ∨ rd rs v = 2
  root : (0 : Int) < l4.length → (0 : Int) ∈ ro ∧ ro.idxOf 0 + 1 = ro.length
theorem walked_ev (h : IntoOk l4) : ∃ rs ro rp, Ev (fun k => flow_walked.f k a0 a1 l2 a3 l4) (rs, ro, rp) ∧ Walked l4 rs ro rp ∧
    ((0 : Int) < l4.length → ∃ seen, Ev (fun k => plnref3_deep.f k a0 a1 l2 a3 l4 0 (List.replicate l4.length false) []) (ro, seen)) := by
  have hn := h.1
  have z : ∀ v : Int, 0 ≤ v → v < (l4.length : Int) → rd (List.replicate l4.length 0) v = 0 := fun v v0 v1 => rd_replicate v0 v1
  have hD : Dfs (nextOf l4) l4.length 0 (List.replicate l4.length 0) [] false := by
    refine ⟨by simp, fun v v0 v1 => .inl (z v v0 v1), by simp, by simp [List.count_replicate], fun v => ?_, (fun v hv => by cases hv), (fun _ v hv => by cases hv), (fun v hv => by cases hv), fun v v0 v1 hv => absurd (z v v0 v1) hv, (fun e => by cases e)⟩
    constructor
    · intro hv; cases hv
    · rintro ⟨v0, v1, hv⟩; rw [z v v0 v1] at hv; omega
  by_cases c : 0 < (l4.length : Int)
  · obtain ⟨rs, ro, rp, k1, k2, k3, k4, k5⟩ := visit_ev (a0 := a0) (a1 := a1) (l2 := l2) (a3 := a3) h _ 0 _ [] false hD (Nat.le_refl _) (by omega) c (z 0 (by omega) c) ⟨.refl trivial, fun v v0 v1 hv => by rw [z v v0 v1] at hv; omega, .inl rfl⟩
    have h0 := (k3.mem 0).2 ⟨by omega, c, k5⟩
    have hgr : ∀ v : Int, 0 ≤ v → v < (l4.length : Int) → rd rs v ≠ 1 := fun v v0 v1 e => by
      have := k4.grey v v0 v1 e
      rw [z v v0 v1] at this
      omega
    refine ⟨rs, ro, rp, Ev.congr (fun k => by unfold flow_walked.f; rw [if_pos (by omega), if_pos c]) k1, ⟨k3, fun v v0 v1 => ?_, fun _ => ⟨h0, ?_⟩⟩, fun _ => ?_⟩
    · rcases k3.three v v0 v1 with e | e | e
      · exact .inl e
      · exact absurd e (hgr v v0 v1)
      · exact .inr e
    ·
      have hlt := List.idxOf_lt_length_iff.2 h0
      have hp : 0 < ro.length := by omega
      have hlast : ro[ro.length - 1] ∈ ro := List.getElem_mem _
      have hidx : ro.idxOf ro[ro.length - 1] = ro.length - 1 := List.Nodup.idxOf_getElem k3.nodup _ _
      rcases k3.tree _ hlast with e | ⟨p, p0, p1, _, hp1 | ⟨hp1, hp2⟩⟩
      · rw [e] at hidx; omega
      · exact absurd hp1 (hgr p p0 p1)
      · have := List.idxOf_lt_length_iff.2 hp1
        omega
    · obtain ⟨s, _, g⟩ := k2 (List.replicate l4.length false) ⟨by simp, fun v v0 v1 => by rw [rdb_replicate, z v v0 v1]; simp⟩
      exact ⟨s, g⟩
  · refine ⟨_, _, _, Ev.congr (fun k => by unfold flow_walked.f; rw [if_pos (by omega), if_neg c]) (Ev.now _), ⟨hD, fun v v0 v1 => .inl (z v v0 v1), fun hh => absurd hh c⟩, fun hh => absurd hh c⟩
end
end Go.Proofs.Ytkcimaibaicdcaa.Gr
end
section
namespace Go.Proofs.Ytkcimaibaicdcaa.P
open Go.RowKit Go.Proofs.YtkcimaibaicdcaaW.PrintWords Go.Proofs.YtkcimaibaicdcaaW.PrintLast Go.Proofs.YtkcimaibaicdcaaW.PrintMore
attribute [local go_sem] max2_int min2_int max_two min_two max_three min_three max_four min_four   
set_option linter.unusedVariables false
set_option linter.unusedSimpArgs false
end Go.Proofs.Ytkcimaibaicdcaa.P
end
