/- A part of the proof of the law of FlowTells: lemmas and walks, out of this session's texts, with what the claim does not use struck out. -/
import Derived.Test.YtkcimaibaicdcaaF6
import Derived.Test.YtkcimaibaicdcaaF8
namespace Go.Proofs.Ytkcimaibaicdcaa.P
open Go.RowKit Go.Proofs.YtkcimaibaicdcaaW.PrintWords Go.Proofs.YtkcimaibaicdcaaW.PrintLast Go.Proofs.YtkcimaibaicdcaaW.PrintMore
attribute [local go_sem] max2_int min2_int max_two min_two max_three min_three max_four min_four   
set_option linter.unusedVariables false
set_option linter.unusedSimpArgs false
def flow_Reach.l0 : Nat → List Int → List Bool → Int → Option (List Bool)
 | 0, _, _, _ => none
 | k + 1, x, o, i => if i < (x.length : Int) then (if 0 ≤ i then (if i < (o.length : Int) then flow_Reach.l0 k x (o.set i.toNat (rd x i != 0)) (wrap64 (i + 1)) else none) else none) else some o
def flow_Reach.f (k : Nat) (a0 : ByteArray) (a1 : Bool) (l2 : List Int) (a3 : Int) (l4 : List S54) : Option (List Bool) :=
 (flow_walked.f k a0 a1 l2 a3 l4).bind fun r => if l4.length ≤ 281474976710656 then flow_Reach.l0 k r.1 (List.replicate l4.length false) 0 else none
theorem flow_Reach.mono_l : ∀ k y0 y1 y2, LeO (flow_Reach.l0 k y0 y1 y2) (flow_Reach.l0 (k + 1) y0 y1 y2)
 | 0 => fun _ _ _ r h => by simp [flow_Reach.l0] at h
 | k + 1 => fun y0 y1 y2 => by
  unfold flow_Reach.l0
  exact LeO.ite (LeO.ite (LeO.ite (flow_Reach.mono_l k _ _ _) (LeO.refl _)) (LeO.refl _)) (LeO.refl _)
theorem flow_Reach.mono : ∀ y0 y1 y2 y3 y4 k, LeO (flow_Reach.f k y0 y1 y2 y3 y4) (flow_Reach.f (k + 1) y0 y1 y2 y3 y4) := fun y0 y1 y2 y3 y4 k => by
 unfold flow_Reach.f
 exact LeO.bind (flow_walked.mono _ _ _ _ _ _) (fun _ => LeO.ite (flow_Reach.mono_l _ _ _ _) (LeO.refl _))
set_option maxHeartbeats 8000000 in
set_option maxRecDepth 100000 in
theorem flow_Reach.calls (k : Nat) (a0_0 : ByteArray) (a0_1 : Bool) (A0_2 : Option Addr) (c0_2 : Nat) (l0_2 : List Int) (a0_3 : Int) (A0_4 : Option Addr) (c0_4 : Nat) (l0_4 : List (S54)) (r : List Bool) (w : World) (hr0_2 : Kd.C (Kd.int .i64) w A0_2 l0_2.length l0_2) (hc0_2 : l0_2.length ≤ c0_2) (hr0_4 : Kd.C k54 w A0_4 l0_4.length l0_4) (hc0_4 : l0_4.length ≤ c0_4) (h : flow_Reach.f k a0_0 a0_1 l0_2 a0_3 l0_4 = some r) :
    Calls Try.prog 25 #[.agg #[.string a0_0, .bool a0_1, .slice A0_2 l0_2.length c0_2, .int .i64 a0_3, .slice A0_4 l0_4.length c0_4]] w fun e w' => ∃ v0_ : Value, e = .returned (v0_) ∧ Kd.R Kd.bool 4 w' w.heap.size (fun _ => True) v0_ r ∧ Below w.heap.size w w' := by
  unfold flow_Reach.f at h
  obtain ⟨⟨rs, ro, rp⟩, h1, h2⟩ := Option.bind_eq_some_iff.mp h
  by_cases c1 : l0_4.length ≤ 281474976710656
  case neg => rw [if_neg c1] at h2; exact absurd h2 (by simp)
  rw [if_pos c1] at h2
  have HR2 := Aside0.mk hr0_2
  have HC2 := Aside0.mk hc0_2
  have HR4 := Aside0.mk hr0_4
  have HC4 := Aside0.mk hc0_4
  have H := Aside0.mk h1
  have H2 := Aside0.mk h2
  have C1 := Aside0.mk c1
  have HB0 := Aside0.mk (Below.refl w.heap.size w); clear hr0_2 hc0_2 hr0_4 hc0_4 h h1 h2 c1
  have hu25 := Try.underlying25
  go_enter Try.func25, Try.ntmps25
  go_wp2_with (first
    | ((with_reducible refine gate_callee (f := 64) rfl ?_); refine goesL_ (some 8) rfl rfl Try.func64 (by kernel_rfl) rfl #[.agg #[.string a0_0, .bool a0_1, .slice A0_2 l0_2.length c0_2, .int .i64 a0_3, .slice A0_4 l0_4.length c0_4]] rfl (by (try simp only [List.map_toArray, List.map_cons, List.map_nil]); rfl) ?_
       have hb0 := below_alloc HB0.out (.cells #[.string a0_0, .bool a0_1, .slice A0_2 l0_2.length c0_2, .int .i64 a0_3, .slice A0_4 l0_4.length c0_4] 25)
       have hs2 := Kd.C_below HR2.out hb0
       have hs4 := Kd.C_below HR4.out hb0
       (with_reducible refine (flow_walked.calls k a0_0 a0_1 A0_2 c0_2 l0_2 a0_3 A0_4 c0_4 l0_4 rs ro rp _ hs2 HC2.out hs4 HC4.out H.out).mono ?_)
       rintro e w1 ⟨g, vs, vo, rfl, hW⟩
       refine ⟨_, rfl, ?_⟩
       obtain ⟨As, cs, rfl⟩ := Kd.R_slice hW.2.2.2.1
       have HS := Aside0.mk (Kd.R_reads' hW.2.2.2.1).2.2
       have HB := Aside0.mk (below_step hb0 hW.1)
       have HG := Aside0.mk hW.2.2.1
       have z4 : w1.cell? ⟨w.heap.size, 4, none⟩ = some (.slice A0_4 l0_4.length c0_4) := (blk_cell (blk_below (blk_new w (.cells #[.string a0_0, .bool a0_1, .slice A0_2 l0_2.length c0_2, .int .i64 a0_3, .slice A0_4 l0_4.length c0_4] 25)) hW.1) 4).trans rfl
       clear hs2 hs4 hb0 hW)
    | ((with_reducible refine gate_dst (N := 12) rfl ?_); refine Kd.R_make Kd.bool (w0 := w1) w1.heap.size 4 rfl (N := 12) rfl 34 _ _ rfl (l0_4.length : Int) rfl rfl Try.underlying34 (.bool false) 1 info4 rfl (by decide) (by omega) false (ok := fun _ => True) (okp := fun _ => True) rfl (fun _ hk => hk) trivial (by omega) (by have := C1.out; simp; omega) (Below.refl _ _) (Nat.le_refl _) ?_
       intro vr w2 ho hb hg hat
       rw [Int.toNat_natCast] at ho
       have HO := Aside0.mk ho
       have HB2 := Aside0.mk hb
       have z5 : w2.cell? ⟨g, 5, none⟩ = some (.slice As rs.length cs) := (blk_cell (blk_below HG.out hb) 5).trans rfl
       clear ho hb hg hat z4))
  go_loopg [18] k (fun kq v18 w' => ∃ (i : Int) (o : List Bool), v18 = .int .i64 i ∧ Aside0 (flow_Reach.l0 kq rs o i = some r) ∧ Aside0 (kq ≤ k) ∧ Aside0 (Kd.R Kd.bool 4 w' w1.heap.size (fun _ => True) vr o) ∧ Aside0 (Below w1.heap.size w1 w'))
  case atStart => exact ⟨0, _, rfl, H2, ⟨Nat.le_refl _⟩, HO, HB2⟩
  case round =>
    clear HO HB2 H2 z5
    obtain ⟨i, o, rfl, HA, HK, HO, HB2⟩ := hrel
    cases gk with
    | zero => exact absurd HA.out (by simp [flow_Reach.l0])
    | succ k1 =>
      have H := HA.out
      clear HA
      simp only [flow_Reach.l0] at H
      by_cases d1 : i < (rs.length : Int)
      · rw [if_pos d1] at H
        by_cases d2 : 0 ≤ i
        case neg => rw [if_neg d2] at H; exact absurd H (by simp)
        rw [if_pos d2] at H
        by_cases d3 : i < (o.length : Int)
        case neg => rw [if_neg d3] at H; exact absurd H (by simp)
        rw [if_pos d3] at H
        obtain ⟨ad, rfl, hx⟩ := Kd.at_int (Kd.C_below HS.out HB2.out) i d2 d1
        obtain ⟨go, co, rfl, hgo, _, _⟩ := Kd.R_form HO.out (by omega)
        obtain ⟨sx, sf⟩ := Kd.R_celln false HO.out i d2 d3
        generalize rd rs i = s at H hx
        obtain ⟨bv, hbv⟩ : ∃ b, (s != 0) = b := ⟨_, rfl⟩
        rw [hbv] at H
        have H' := Aside0.mk H
        have hp := Aside0.mk (Kd.R_putg HO.out i bv)
        have HGO := Aside0.mk hgo
        have d1b : decide (i < (rs.length : Int)) = true := decide_eq_true d1
        have d2b : decide (0 ≤ i) = true := decide_eq_true d2
        have d3b : decide (i < (o.length : Int)) = true := decide_eq_true d3
        clear H hgo
        go_wp2
        go_roundg k1
        case measure => have := HK.out; omega
        case rel => exact ⟨_, _, rfl, H', ⟨by have := HK.out; omega⟩, ⟨hp.out.1⟩, ⟨below_set HB2.out HGO.out⟩⟩
      · rw [if_neg d1] at H
        obtain rfl : o = r := by simpa using H
        have d1b : decide (i < (rs.length : Int)) = false := decide_eq_false d1
        have hsz := Aside0.mk HB.out.size
        clear H d1
        go_wp2
        go_ret
        exact ⟨_, rfl, Kd.R_lower HO.out hsz.out, below_then HB.out hsz.out HB2.out⟩
end Go.Proofs.Ytkcimaibaicdcaa.P
