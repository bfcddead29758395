/- A part of the proof of the law of FlowOrders: lemmas and walks, out of this session's texts, with what the claim does not use struck out. -/
import Derived.Test.YtkcimaibaicdcaaO6
import Derived.Test.YtkcimaibaicdcaaO10
import Derived.Test.YtkcimaibaicdcaaO11
import Derived.Test.YtkcimaibaicdcaaO13
import Derived.Test.YtkcimaibaicdcaaO16
section
namespace Go.Proofs.Ytkcimaibaicdcaa.P
open Go.RowKit Go.Proofs.YtkcimaibaicdcaaW.PrintWords Go.Proofs.YtkcimaibaicdcaaW.PrintLast Go.Proofs.YtkcimaibaicdcaaW.PrintMore
attribute [local go_sem] max2_int min2_int max_two min_two max_three min_three max_four min_four   
set_option linter.unusedVariables false
set_option linter.unusedSimpArgs false
def plnkeep_Rows.l0 : Nat → List (List Int) → List (List Int) → Int → Option (Bool)
 | 0, _, _, _ => none
 | k + 1, x0, x1, x5 => if x5 < (x0.length : Int) then (if 0 ≤ x5 then (if x5 < (x1.length : Int) then ((plnref3_Ints.f k (rd_L1 x0 x5) (rd_L1 x1 x5)).bind fun t197 => (if t197 = true then (plnkeep_Rows.l0 k x0 x1 (wrap64 (x5 + 1))) else (some false))) else (none)) else (none)) else (some true)
def plnkeep_Rows.f (k : Nat) (l0 : List (List Int)) (l1 : List (List Int)) : Option (Bool) := if (l0.length : Int) = (l1.length : Int) then (plnkeep_Rows.l0 k l0 l1 0) else (some false)
theorem plnkeep_Rows.mono_l : ∀ k, (∀ y0 y1 y2, LeO (plnkeep_Rows.l0 k y0 y1 y2) (plnkeep_Rows.l0 (k + 1) y0 y1 y2))
 | 0 => fun _ _ _ r h => by simp [plnkeep_Rows.l0] at h
 | k + 1 => by
  have ih0 := plnkeep_Rows.mono_l k
  ·intro y0 y1 y2
   unfold plnkeep_Rows.l0
   repeat' first
   | (with_reducible exact ih0 _ _ _)
   | (with_reducible exact plnref3_Ints.mono _ _ _)
   | (with_reducible exact LeO.refl _)
   | (with_reducible exact LeO.none _)
   | (with_reducible refine LeO.ite ?_ ?_)
   | (with_reducible refine LeO.bind ?_ (fun _ => ?_))
   | exact ih0 _ _ _
   | exact plnref3_Ints.mono _ _ _
   | exact LeO.none _
   | refine LeO.ite ?_ ?_
   | refine LeO.bind ?_ (fun _ => ?_)
theorem plnkeep_Rows.mono : ∀ a0 a1 k, LeO (plnkeep_Rows.f k a0 a1) (plnkeep_Rows.f (k + 1) a0 a1) := by
 intro a0 a1 k
 have ih0 := plnkeep_Rows.mono_l k
 unfold plnkeep_Rows.f
 repeat' first
   | (with_reducible exact ih0 _ _ _)
   | (with_reducible exact plnref3_Ints.mono _ _ _)
   | (with_reducible exact LeO.refl _)
   | (with_reducible exact LeO.none _)
   | (with_reducible refine LeO.ite ?_ ?_)
   | (with_reducible refine LeO.bind ?_ (fun _ => ?_))
   | exact ih0 _ _ _
   | exact plnref3_Ints.mono _ _ _
   | exact LeO.none _
   | refine LeO.ite ?_ ?_
   | refine LeO.bind ?_ (fun _ => ?_)
set_option maxHeartbeats 8000000 in
set_option maxRecDepth 100000 in
theorem plnkeep_Rows.calls (k : Nat) (A0 : Option Addr) (c0 : Nat) (l0 : List (List Int)) (A1 : Option Addr) (c1 : Nat) (l1 : List (List Int)) (r : Bool) (w : World) (hr0 : Kd.C (Kd.slice 3 (Kd.int .i64)) w A0 l0.length l0) (hc0 : l0.length ≤ c0) (hr1 : Kd.C (Kd.slice 3 (Kd.int .i64)) w A1 l1.length l1) (hc1 : l1.length ≤ c1) (h : plnkeep_Rows.f k l0 l1 = some r) :
  Calls Try.prog 21 #[.slice A0 l0.length c0, .slice A1 l1.length c1] w fun e w' => e = .returned (.bool r) ∧ Drawn0 w w' := by
 have HR0 := Aside0.mk hr0
 have HC0 := Aside0.mk hc0
 clear hr0 hc0
 have HR1 := Aside0.mk hr1
 have HC1 := Aside0.mk hc1
 clear hr1 hc1
 have H : (if (l0.length : Int) = (l1.length : Int) then (plnkeep_Rows.l0 k l0 l1 0) else (some false)) = some r := h
 clear h
 by_cases c3 : (l0.length : Int) = (l1.length : Int)
 ·rw [if_pos c3] at H
  have c3b0 : ((l0.length : Int) == (l1.length : Int)) = true := beq_iff_eq.mpr c3
  have c3b1 : ((l0.length : Int) != (l1.length : Int)) = false := bne_eq_false_iff_eq.mpr c3
  have c3b2 : (l0.length == l1.length) = true := by first | simpa using c3 | (simp at c3 ⊢; omega)
  clear c3
  have H' := Aside0.mk H
  clear H
  go_enter Try.func21, Try.ntmps21
  go_wp2
  repeat (go_quiet (fail); try go_wp2)
  go_loopg [5] k (fun kq v5 w' => ∃ (x5_1 : Int), v5 = .int .i64 x5_1 ∧ Aside0 (plnkeep_Rows.l0 kq l0 l1 x5_1 = some r) ∧ Aside0 (kq ≤ k) ∧ Drawn0 w w')
  case atStart => exact ⟨(0), (by first | rfl | (simp; done) | (simp [*]; done)), H', ⟨Nat.le_refl _⟩, by repeat (first | exact Drawn0.refl _ | apply Drawn0.step)⟩
  case round =>
   clear H'
   try clear c1
   try clear c2
   try clear p2
   try clear c3
   try clear c3b0
   try clear c3b1
   try clear c3b2
   obtain ⟨x5_1, rfl, HA, HK1, ⟨m1, rfl⟩⟩ := hrel
   cases gk with
   | zero => exact absurd HA.out (by simp [plnkeep_Rows.l0])
   | succ k1 =>
    have H := HA.out
    clear HA
    simp only [plnkeep_Rows.l0] at H
    by_cases c4 : x5_1 < (l0.length : Int)
    ·rw [if_pos c4] at H
     have c4b0 : decide (x5_1 < (l0.length : Int)) = true := decide_eq_true c4
     clear c4
     by_cases c5 : 0 ≤ x5_1
     ·rw [if_pos c5] at H
      have c5b0 : decide (0 ≤ x5_1) = true := decide_eq_true c5
      clear c5
      by_cases c6 : x5_1 < (l1.length : Int)
      ·rw [if_pos c6] at H
       have c6b0 : decide (x5_1 < (l1.length : Int)) = true := decide_eq_true c6
       clear c6
       replace H := Option.bind_eq_some_iff.mp H
       obtain ⟨t197, A70, H⟩ := H
       replace H : (if t197 = true then (plnkeep_Rows.l0 k1 l0 l1 (wrap64 (x5_1 + 1))) else (some false)) = some r := H
       have A7 := Aside0.mk A70
       clear A70
       by_cases c8 : t197 = true
       ·subst c8
        have H1 : (plnkeep_Rows.l0 k1 l0 l1 (wrap64 (x5_1 + 1))) = some r := by rw [if_pos rfl] at H; exact H
        clear H; have H := H1; clear H1
        have H' := Aside0.mk H
        clear H
        have p195 : 0 ≤ (x5_1 : Int) := of_decide_eq_true (by first | (with_reducible assumption) | assumption)
        have q195 : x5_1 < (l0.length : Int) := of_decide_eq_true (by first | (with_reducible assumption) | assumption)
        obtain ⟨ad195, A195_0, c195_0, e195, hx195_0, hl195_0, hi195_0⟩ := at_L1 HR0.out x5_1 p195 q195
        cases e195
        have HR195_0 := Aside0.mk hi195_0
        have HC195_0 := Aside0.mk hl195_0
        clear hi195_0 hl195_0
        replace p195 := eq_true p195
        replace q195 := eq_true q195
        have p196 : 0 ≤ (x5_1 : Int) := of_decide_eq_true (by first | (with_reducible assumption) | assumption)
        have q196 : x5_1 < (l1.length : Int) := of_decide_eq_true (by first | (with_reducible assumption) | assumption)
        obtain ⟨ad196, A196_0, c196_0, e196, hx196_0, hl196_0, hi196_0⟩ := at_L1 HR1.out x5_1 p196 q196
        cases e196
        have HR196_0 := Aside0.mk hi196_0
        have HC196_0 := Aside0.mk hl196_0
        clear hi196_0 hl196_0
        replace p196 := eq_true p196
        replace q196 := eq_true q196
        go_wp2_with (first | (go_at_call 18; (with_reducible refine (plnref3_Ints.calls k1 _ _ (rd_L1 l0 x5_1) _ _ (rd_L1 l1 x5_1) true _ ?side1 ?side2 ?side3 ?side4 A7.out).mono ?_); (case side1 => repeat (first | exact HR195_0.out | (with_reducible refine Kd.C_alloc ?_ _) | (with_reducible refine Kd.C_drewN ?_ _) | (with_reducible refine Kd.C_drew ?_))); (case side2 => exact HC195_0.out); (case side3 => repeat (first | exact HR196_0.out | (with_reducible refine Kd.C_alloc ?_ _) | (with_reducible refine Kd.C_drewN ?_ _) | (with_reducible refine Kd.C_drew ?_))); (case side4 => exact HC196_0.out); rintro e w' ⟨rfl, ⟨nd, rfl⟩⟩; (try first | exact ⟨rfl, _, World.drewN_drewN _ _ _⟩ | exact ⟨rfl, _, Eq.trans (World.drewN_drewN _ _ _) (congrArg (World.drewN _) (Nat.add_assoc _ _ _))⟩)))
        repeat (go_quiet (first | (go_at_call 18; (with_reducible refine (plnref3_Ints.calls k1 _ _ (rd_L1 l0 x5_1) _ _ (rd_L1 l1 x5_1) true _ ?side1 ?side2 ?side3 ?side4 A7.out).mono ?_); (case side1 => repeat (first | exact HR195_0.out | (with_reducible refine Kd.C_alloc ?_ _) | (with_reducible refine Kd.C_drewN ?_ _) | (with_reducible refine Kd.C_drew ?_))); (case side2 => exact HC195_0.out); (case side3 => repeat (first | exact HR196_0.out | (with_reducible refine Kd.C_alloc ?_ _) | (with_reducible refine Kd.C_drewN ?_ _) | (with_reducible refine Kd.C_drew ?_))); (case side4 => exact HC196_0.out); rintro e w' ⟨rfl, ⟨nd, rfl⟩⟩; (try first | exact ⟨rfl, _, World.drewN_drewN _ _ _⟩ | exact ⟨rfl, _, Eq.trans (World.drewN_drewN _ _ _) (congrArg (World.drewN _) (Nat.add_assoc _ _ _))⟩))); try go_wp2_with (first | (go_at_call 18; (with_reducible refine (plnref3_Ints.calls k1 _ _ (rd_L1 l0 x5_1) _ _ (rd_L1 l1 x5_1) true _ ?side1 ?side2 ?side3 ?side4 A7.out).mono ?_); (case side1 => repeat (first | exact HR195_0.out | (with_reducible refine Kd.C_alloc ?_ _) | (with_reducible refine Kd.C_drewN ?_ _) | (with_reducible refine Kd.C_drew ?_))); (case side2 => exact HC195_0.out); (case side3 => repeat (first | exact HR196_0.out | (with_reducible refine Kd.C_alloc ?_ _) | (with_reducible refine Kd.C_drewN ?_ _) | (with_reducible refine Kd.C_drew ?_))); (case side4 => exact HC196_0.out); rintro e w' ⟨rfl, ⟨nd, rfl⟩⟩; (try first | exact ⟨rfl, _, World.drewN_drewN _ _ _⟩ | exact ⟨rfl, _, Eq.trans (World.drewN_drewN _ _ _) (congrArg (World.drewN _) (Nat.add_assoc _ _ _))⟩))))
        go_roundg k1
        case measure => have := HK1.out; omega
        case rel => exact ⟨(wrap64 (x5_1 + 1)), (by first | rfl | (simp; done) | (simp [*]; done)), H', ⟨by have := HK1.out; omega⟩, by repeat (first | exact Drawn0.refl _ | apply Drawn0.step)⟩
       ·replace c8 := Bool.eq_false_iff.mpr c8
        subst c8
        have H1 : (some false) = some r := by rw [if_neg (show ¬ (false = true) by decide)] at H; exact H
        clear H; have H := H1; clear H1
        obtain rfl := Option.some.inj H
        have p195 : 0 ≤ (x5_1 : Int) := of_decide_eq_true (by first | (with_reducible assumption) | assumption)
        have q195 : x5_1 < (l0.length : Int) := of_decide_eq_true (by first | (with_reducible assumption) | assumption)
        obtain ⟨ad195, A195_0, c195_0, e195, hx195_0, hl195_0, hi195_0⟩ := at_L1 HR0.out x5_1 p195 q195
        cases e195
        have HR195_0 := Aside0.mk hi195_0
        have HC195_0 := Aside0.mk hl195_0
        clear hi195_0 hl195_0
        replace p195 := eq_true p195
        replace q195 := eq_true q195
        have p196 : 0 ≤ (x5_1 : Int) := of_decide_eq_true (by first | (with_reducible assumption) | assumption)
        have q196 : x5_1 < (l1.length : Int) := of_decide_eq_true (by first | (with_reducible assumption) | assumption)
        obtain ⟨ad196, A196_0, c196_0, e196, hx196_0, hl196_0, hi196_0⟩ := at_L1 HR1.out x5_1 p196 q196
        cases e196
        have HR196_0 := Aside0.mk hi196_0
        have HC196_0 := Aside0.mk hl196_0
        clear hi196_0 hl196_0
        replace p196 := eq_true p196
        replace q196 := eq_true q196
        go_wp2_with (first | (go_at_call 18; (with_reducible refine (plnref3_Ints.calls k1 _ _ (rd_L1 l0 x5_1) _ _ (rd_L1 l1 x5_1) false _ ?side1 ?side2 ?side3 ?side4 A7.out).mono ?_); (case side1 => repeat (first | exact HR195_0.out | (with_reducible refine Kd.C_alloc ?_ _) | (with_reducible refine Kd.C_drewN ?_ _) | (with_reducible refine Kd.C_drew ?_))); (case side2 => exact HC195_0.out); (case side3 => repeat (first | exact HR196_0.out | (with_reducible refine Kd.C_alloc ?_ _) | (with_reducible refine Kd.C_drewN ?_ _) | (with_reducible refine Kd.C_drew ?_))); (case side4 => exact HC196_0.out); rintro e w' ⟨rfl, ⟨nd, rfl⟩⟩; (try first | exact ⟨rfl, _, World.drewN_drewN _ _ _⟩ | exact ⟨rfl, _, Eq.trans (World.drewN_drewN _ _ _) (congrArg (World.drewN _) (Nat.add_assoc _ _ _))⟩)))
        repeat (go_quiet (first | (go_at_call 18; (with_reducible refine (plnref3_Ints.calls k1 _ _ (rd_L1 l0 x5_1) _ _ (rd_L1 l1 x5_1) false _ ?side1 ?side2 ?side3 ?side4 A7.out).mono ?_); (case side1 => repeat (first | exact HR195_0.out | (with_reducible refine Kd.C_alloc ?_ _) | (with_reducible refine Kd.C_drewN ?_ _) | (with_reducible refine Kd.C_drew ?_))); (case side2 => exact HC195_0.out); (case side3 => repeat (first | exact HR196_0.out | (with_reducible refine Kd.C_alloc ?_ _) | (with_reducible refine Kd.C_drewN ?_ _) | (with_reducible refine Kd.C_drew ?_))); (case side4 => exact HC196_0.out); rintro e w' ⟨rfl, ⟨nd, rfl⟩⟩; (try first | exact ⟨rfl, _, World.drewN_drewN _ _ _⟩ | exact ⟨rfl, _, Eq.trans (World.drewN_drewN _ _ _) (congrArg (World.drewN _) (Nat.add_assoc _ _ _))⟩))); try go_wp2_with (first | (go_at_call 18; (with_reducible refine (plnref3_Ints.calls k1 _ _ (rd_L1 l0 x5_1) _ _ (rd_L1 l1 x5_1) false _ ?side1 ?side2 ?side3 ?side4 A7.out).mono ?_); (case side1 => repeat (first | exact HR195_0.out | (with_reducible refine Kd.C_alloc ?_ _) | (with_reducible refine Kd.C_drewN ?_ _) | (with_reducible refine Kd.C_drew ?_))); (case side2 => exact HC195_0.out); (case side3 => repeat (first | exact HR196_0.out | (with_reducible refine Kd.C_alloc ?_ _) | (with_reducible refine Kd.C_drewN ?_ _) | (with_reducible refine Kd.C_drew ?_))); (case side4 => exact HC196_0.out); rintro e w' ⟨rfl, ⟨nd, rfl⟩⟩; (try first | exact ⟨rfl, _, World.drewN_drewN _ _ _⟩ | exact ⟨rfl, _, Eq.trans (World.drewN_drewN _ _ _) (congrArg (World.drewN _) (Nat.add_assoc _ _ _))⟩))))
        go_ret
        exact ⟨by first | rfl | (simp; done) | (simp [*]; done), by repeat (first | exact Drawn0.refl _ | apply Drawn0.step)⟩
      ·rw [if_neg c6] at H
       exact absurd H (by simp)
     ·rw [if_neg c5] at H
      exact absurd H (by simp)
    ·rw [if_neg c4] at H
     have c4b0 : decide (x5_1 < (l0.length : Int)) = false := decide_eq_false c4
     clear c4
     obtain rfl := Option.some.inj H
     go_wp2
     repeat (go_quiet (fail); try go_wp2)
     go_ret
     exact ⟨by first | rfl | (simp; done) | (simp [*]; done), by repeat (first | exact Drawn0.refl _ | apply Drawn0.step)⟩
 ·rw [if_neg c3] at H
  have c3b0 : ((l0.length : Int) == (l1.length : Int)) = false := beq_eq_false_iff_ne.mpr c3
  have c3b1 : ((l0.length : Int) != (l1.length : Int)) = true := bne_iff_ne.mpr c3
  have c3b2 : (l0.length == l1.length) = false := by first | simpa using c3 | (simp at c3 ⊢; omega)
  obtain rfl := Option.some.inj H
  go_enter Try.func21, Try.ntmps21
  go_wp2
  repeat (go_quiet (fail); try go_wp2)
  go_ret
  exact ⟨by first | rfl | (simp; done) | (simp [*]; done), by repeat (first | exact Drawn0.refl _ | apply Drawn0.step)⟩
end Go.Proofs.Ytkcimaibaicdcaa.P
end
section
namespace Go.Proofs.Ytkcimaibaicdcaa.Gr
open Go.RowKit Go.Proofs.YtkcimaibaicdcaaW.PrintWords Go.Proofs.Ytkcimaibaicdcaa.P
theorem drop_rd {x : List Int} {i : Int} (h0 : 0 ≤ i) (h1 : i < (x.length : Int)) : x.drop i.toNat = rd x i :: x.drop (i + 1).toNat := by
  have hl : i.toNat < x.length := by omega
  have e : (i + 1).toNat = i.toNat + 1 := by omega
  rw [e, List.drop_eq_getElem_cons hl]
  have := rd_eq h0 h1
  rw [List.getElem?_eq_getElem hl] at this
  rw [Option.some.inj this]
theorem drop_end {x : List Int} {i : Int} (h1 : ¬ i < (x.length : Int)) : x.drop i.toNat = [] := List.drop_eq_nil_of_le (by omega)
theorem up_to (n : Int) (Q : Int → Prop) (hend : ∀ i, n ≤ i → Q i) (hstep : ∀ i, 0 ≤ i → i < n → Q (i + 1) → Q i) : ∀ i, 0 ≤ i → Q i := by
  have key : ∀ (d : Nat) (i : Int), 0 ≤ i → (n - i).toNat ≤ d → Q i := by
    intro d
    induction d with
    | zero => intro i _ hd; exact hend i (by omega)
    | succ d ih =>
      intro i h0 hd
      by_cases h : i < n
      · exact hstep i h0 h (ih (i + 1) (by omega) (by omega))
      · exact hend i (by omega)
  exact fun i h0 => key _ i h0 (Nat.le_refl _)
theorem in_ev (x : List Int) (v : Int) (hx : x.length ≤ 9223372036854775807) : Ev (fun k => plnref3_In.f k x v) (decide (v ∈ x)) := by
  have key := up_to (x.length : Int) (fun i => Ev (fun k => plnref3_In.l0 k x v i) (decide (v ∈ x.drop i.toNat))) ?_ ?_ 0 (by omega)
  · unfold plnref3_In.f
    simpa using key
  · intro i hi
    refine Ev.step (fun k => by simp only [plnref3_In.l0]; rw [if_neg (by omega)]) ?_
    rw [drop_end (by omega)]
    exact Ev.now _
  · intro i h0 h1 ih
    by_cases e : rd x i = v
    · refine Ev.step (fun k => by simp only [plnref3_In.l0]; rw [if_pos h1, if_pos h0, if_pos e]) ?_
      rw [drop_rd h0 h1, e]
      simp
      exact Ev.now _
    · refine Ev.step (fun k => by simp only [plnref3_In.l0]; rw [if_pos h1, if_pos h0, if_neg e, wrap_in (by omega) (by omega)]) ?_
      rw [drop_rd h0 h1]
      simpa [Ne.symm e] using ih
theorem contains_ev (x : List Int) (v : Int) (hx : x.length ≤ 9223372036854775807) : Ev (fun k => slices_Contains_int_int.f k x v) (decide (v ∈ x)) := by
  have key := up_to (x.length : Int) (fun i => ∃ r, Ev (fun k => slices_Index_int_int.l0 k x v x.length i) r ∧ decide (r ≥ 0) = decide (v ∈ x.drop i.toNat)) ?_ ?_ 0 (by omega)
  · obtain ⟨r, hr, h⟩ := key
    unfold slices_Contains_int_int.f slices_Index_int_int.f
    refine Ev.bind (a := r) hr ?_
    rw [h]
    simpa using Ev.now _
  · intro i hi
    refine ⟨-1, Ev.step (fun k => by simp only [slices_Index_int_int.l0]; rw [if_neg (by omega)]) (Ev.now _), ?_⟩
    rw [drop_end (by omega)]
    simp
  · intro i h0 h1 ⟨r, hr, h⟩
    by_cases e : v = rd x i
    · refine ⟨i, Ev.step (fun k => by simp only [slices_Index_int_int.l0]; rw [if_pos h1, if_pos h0, if_pos h1, if_pos e]) (Ev.now _), ?_⟩
      rw [drop_rd h0 h1, ← e]
      simp [h0]
    · refine ⟨r, Ev.step (fun k => by simp only [slices_Index_int_int.l0]; rw [if_pos h1, if_pos h0, if_pos h1, if_neg e, wrap_in (by omega) (by omega)]) hr, ?_⟩
      rw [drop_rd h0 h1, h]
      simp [e]
def addTo (n : Nat) (out : List Int) (t : Int) : List Int := if 0 ≤ t ∧ t < (n : Int) ∧ t ∉ out then out ++ [t] else out
def lastI (l : List S54) (b : Int) : S56 := rd_T56 (rd_T54 l b).f0 (((rd_T54 l b).f0.length : Int) - 1)
def goes (l : List S54) (b : Int) : Prop := 0 ≤ b ∧ b < (l.length : Int) ∧ (rd_T54 l b).f0 ≠ [] ∧ ((lastI l b).f0 = 27 ∨ (lastI l b).f0 = 28)
open Classical in
noncomputable def nextOf (l : List S54) (b : Int) : List Int := if goes l b then (lastI l b).f6.foldl (addTo l.length) [] else []
theorem addTo_mem {n : Nat} {out : List Int} {t v : Int} : v ∈ addTo n out t ↔ v ∈ out ∨ (v = t ∧ 0 ≤ t ∧ t < (n : Int)) := by
  unfold addTo
  split
  · rename_i h
    simp only [List.mem_append, List.mem_singleton]
    constructor
    · rintro (h1 | rfl)
      · exact .inl h1
      · exact .inr ⟨rfl, h.1, h.2.1⟩
    · rintro (h1 | ⟨rfl, _⟩)
      · exact .inl h1
      · exact .inr rfl
  · rename_i h
    constructor
    · exact .inl
    · rintro (h1 | ⟨rfl, h2, h3⟩)
      · exact h1
      · exact Decidable.byContradiction fun hn => h ⟨h2, h3, hn⟩
theorem addTo_nodup {n : Nat} {out : List Int} {t : Int} (h : out.Nodup) : (addTo n out t).Nodup := by
  unfold addTo
  split
  · rename_i hh
    rw [List.nodup_append]
    exact ⟨h, by simp, fun x hx y hy => by simp at hy; subst hy; rintro rfl; exact hh.2.2 hx⟩
  · exact h
theorem fold_mem {n : Nat} {v : Int} : ∀ {x out : List Int}, v ∈ x.foldl (addTo n) out ↔ v ∈ out ∨ (v ∈ x ∧ 0 ≤ v ∧ v < (n : Int))
  | [], out => by simp
  | t :: x, out => by
    rw [List.foldl_cons, fold_mem, addTo_mem]
    constructor
    · rintro ((h | ⟨rfl, h⟩) | h)
      · exact .inl h
      · exact .inr ⟨by simp, h⟩
      · exact .inr ⟨List.mem_cons_of_mem _ h.1, h.2⟩
    · rintro (h | ⟨h, h2⟩)
      · exact .inl (.inl h)
      · rcases List.mem_cons.1 h with rfl | h
        · exact .inl (.inr ⟨rfl, h2⟩)
        · exact .inr ⟨h, h2⟩
theorem fold_nodup {n : Nat} : ∀ {x out : List Int}, out.Nodup → (x.foldl (addTo n) out).Nodup
  | [], _, h => h
  | t :: x, out, h => by rw [List.foldl_cons]; exact fold_nodup (addTo_nodup h)
theorem addTo_len {n : Nat} {out : List Int} {t : Int} : (addTo n out t).length ≤ out.length + 1 := by unfold addTo; split <;> simp
theorem fold_len {n : Nat} : ∀ {x out : List Int}, (x.foldl (addTo n) out).length ≤ out.length + x.length
  | [], _ => by simp
  | t :: x, out => by rw [List.foldl_cons]; have := fold_len (n := n) (x := x) (out := addTo n out t); have := addTo_len (n := n) (out := out) (t := t); simp; omega
theorem next_in {l : List S54} {b v : Int} (h : v ∈ nextOf l b) : 0 ≤ v ∧ v < (l.length : Int) := by
  unfold nextOf at h
  split at h
  · rcases fold_mem.1 h with h | h
    · cases h
    · exact h.2
  · cases h
theorem next_nodup (l : List S54) (b : Int) : (nextOf l b).Nodup := by
  unfold nextOf
  split
  · exact fold_nodup (by simp)
  · simp
def IntoOk (l : List S54) : Prop := l.length ≤ 5864062014634 ∧ ∀ b : Int, 0 ≤ b → b < (l.length : Int) → (rd_T54 l b).f0.length ≤ 1599289640354 ∧ ∀ i : Int, 0 ≤ i → i < ((rd_T54 l b).f0.length : Int) → (rd_T56 (rd_T54 l b).f0 i).f6.length ≤ 17592186043904 ∧ (rd_T56 (rd_T54 l b).f0 i).f5.length ≤ 17592186043904
theorem rdT54_mem {l : List S54} {b : Int} (h0 : 0 ≤ b) (h1 : b < (l.length : Int)) : rd_T54 l b ∈ l := by
  have : b.toNat < l.length := by omega
  unfold rd_T54
  rw [List.getD_eq_getElem?_getD, List.getElem?_eq_getElem this]
  exact List.getElem_mem _
theorem rdT56_mem {l : List S56} {b : Int} (h0 : 0 ≤ b) (h1 : b < (l.length : Int)) : rd_T56 l b ∈ l := by
  have : b.toNat < l.length := by omega
  unfold rd_T56
  rw [List.getD_eq_getElem?_getD, List.getElem?_eq_getElem this]
  exact List.getElem_mem _
theorem intoOk_of {a0 : ByteArray} {a1 : Bool} {l2 : List Int} {a3 : Int} {l4 : List S54} (h : B25 ⟨a0, a1, l2, a3, l4⟩) : IntoOk l4 := by
  obtain ⟨_, _, _, _, h4, h5⟩ := h
  have h4' : l4.length * 24 ≤ 140737488351232 := h4
  refine ⟨by omega, fun b h0 h1 => ?_⟩
  obtain ⟨k1, k2⟩ := h5 _ (rdT54_mem h0 h1)
  have k1' : (rd_T54 l4 b).f0.length * 88 ≤ 140737488351232 := k1
  refine ⟨by omega, fun i i0 i1 => ?_⟩
  obtain ⟨_, _, _, _, _, ⟨m1, _⟩, m2, _⟩ := k2 _ (rdT56_mem i0 i1)
  have m1' : (rd_T56 (rd_T54 l4 b).f0 i).f5.length * 8 ≤ 140737488351232 := m1
  have m2' : (rd_T56 (rd_T54 l4 b).f0 i).f6.length * 8 ≤ 140737488351232 := m2
  exact ⟨by omega, by omega⟩
section
variable {a0 : ByteArray} {a1 : Bool} {l2 : List Int} {a3 : Int} {l4 : List S54}
theorem next_l0 (x : List Int) (hx : x.length ≤ 17592186043904) : ∀ i, 0 ≤ i → ∀ out : List Int, (out.length : Int) ≤ i → Ev (fun k => flow_Next.l0 k out x x.length i a0 a1 l2 a3 l4) ((x.drop i.toNat).foldl (addTo l4.length) out) := by
  refine up_to (x.length : Int) _ ?_ ?_
  · intro i hi out _
    refine Ev.step (fun k => by simp only [flow_Next.l0]; rw [if_neg (by omega)]) ?_
    rw [drop_end (by omega)]
    exact Ev.now _
  · intro i h0 h1 ih out ho
    rw [drop_rd h0 h1, List.foldl_cons]
    by_cases c1 : rd x i ≥ 0
    · by_cases c2 : rd x i < (l4.length : Int)
      · refine Ev.step (fun k => by simp only [flow_Next.l0]; rw [if_pos h1, if_pos h0, if_pos h1, if_pos c1, if_pos c2, wrap_in (by omega) (by omega)]) ?_
        refine Ev.bind (contains_ev out (rd x i) (by omega)) ?_
        by_cases c3 : rd x i ∈ out
        · have e : addTo l4.length out (rd x i) = out := by unfold addTo; rw [if_neg (fun h => h.2.2 c3)]
          rw [e]
          simp only [c3, decide_true, if_true]
          exact ih out (by omega)
        · have e : addTo l4.length out (rd x i) = out ++ [rd x i] := by unfold addTo; rw [if_pos ⟨c1, c2, c3⟩]
          rw [e]
          simp only [c3, decide_false, Bool.false_eq_true, if_false]
          have hl : out.length < 17592186044416 := by omega
          simp only [hl, if_true]
          exact ih _ (by simp; omega)
      · have e : addTo l4.length out (rd x i) = out := by unfold addTo; rw [if_neg (fun h => c2 h.2.1)]
        rw [e]
        refine Ev.step (fun k => by simp only [flow_Next.l0]; rw [if_pos h1, if_pos h0, if_pos h1, if_pos c1, if_neg c2, wrap_in (by omega) (by omega)]) ?_
        exact ih out (by omega)
    · have e : addTo l4.length out (rd x i) = out := by unfold addTo; rw [if_neg (fun h => c1 h.1)]
      rw [e]
      refine Ev.step (fun k => by simp only [flow_Next.l0]; rw [if_pos h1, if_pos h0, if_pos h1, if_neg c1, wrap_in (by omega) (by omega)]) ?_
      exact ih out (by omega)
theorem next_ev (h : IntoOk l4) (b : Int) : Ev (fun k => flow_Next.f k a0 a1 l2 a3 l4 b) (nextOf l4 b) := by
  have stop : ∀ (b : Int) (r : List Int), Ev (fun k => flow_Next.j0 k b r true a0 a1 l2 a3 l4) r := fun b r => Ev.step (fun k => by simp only [flow_Next.j0]; rw [if_pos trivial]) (Ev.now _)
  by_cases c0 : b < 0
  · have e : nextOf l4 b = [] := by unfold nextOf; rw [if_neg (fun h => by have := h.1; omega)]
    rw [e]
    exact Ev.congr (fun k => by unfold flow_Next.f; rw [if_pos c0]) (stop _ _)
  by_cases c1 : b ≥ (l4.length : Int)
  · have e : nextOf l4 b = [] := by unfold nextOf; rw [if_neg (fun h => by have := h.2.1; omega)]
    rw [e]
    exact Ev.congr (fun k => by unfold flow_Next.f; rw [if_neg c0, if_pos c1]) (stop _ _)
  have b0 : 0 ≤ b := by omega
  have b1 : b < (l4.length : Int) := by omega
  obtain ⟨h2, h3⟩ := h.2 b b0 b1
  refine Ev.congr (fun k => by unfold flow_Next.f; rw [if_neg c0, if_neg c1, if_pos b0, if_pos b1]) ?_
  by_cases c2 : (rd_T54 l4 b).f0 = []
  · have e : nextOf l4 b = [] := by unfold nextOf; rw [if_neg (fun h => h.2.2.1 c2)]
    rw [e]
    have : ((((rd_T54 l4 b).f0).length : Int) == 0) = true := by rw [c2]; rfl
    rw [this]
    exact stop _ _
  have hp : 0 < (rd_T54 l4 b).f0.length := List.length_pos_iff.2 c2
  have : ((((rd_T54 l4 b).f0).length : Int) == 0) = false := by rw [beq_eq_false_iff_ne]; omega
  rw [this]
  have hw : wrap64 ((((rd_T54 l4 b).f0).length : Int) - 1) = ((rd_T54 l4 b).f0.length : Int) - 1 := wrap_in (by omega) (by omega)
  obtain ⟨h4, _⟩ := h3 (((rd_T54 l4 b).f0.length : Int) - 1) (by omega) (by omega)
  have run : Ev (fun k => flow_Next.l0 k [] (lastI l4 b).f6 (lastI l4 b).f6.length 0 a0 a1 l2 a3 l4) ((lastI l4 b).f6.foldl (addTo l4.length) []) := by
    have := next_l0 (a0 := a0) (a1 := a1) (l2 := l2) (a3 := a3) (l4 := l4) (lastI l4 b).f6 h4 0 (by omega) [] (by simp)
    simpa using this
  by_cases c3 : (lastI l4 b).f0 = 27
  · have e : nextOf l4 b = (lastI l4 b).f6.foldl (addTo l4.length) [] := by unfold nextOf; rw [if_pos ⟨b0, b1, c2, .inl c3⟩]
    rw [e]
    refine Ev.step (fun k => by simp only [flow_Next.j0]; rw [if_neg (by decide), if_pos b0, if_pos b1, hw, if_pos (by omega), if_pos (by omega), if_pos (show (rd_T56 ((rd_T54 l4 b).f0) (((rd_T54 l4 b).f0.length : Int) - 1)).f0 = 27 from c3)]) ?_
    refine Ev.step (fun k => by simp only [flow_Next.j1]; rw [if_neg (by decide)]) ?_
    exact run
  · refine Ev.step (fun k => by simp only [flow_Next.j0]; rw [if_neg (by decide), if_pos b0, if_pos b1, hw, if_pos (by omega), if_pos (by omega), if_neg (show ¬ (rd_T56 ((rd_T54 l4 b).f0) (((rd_T54 l4 b).f0.length : Int) - 1)).f0 = 27 from c3)]) ?_
    by_cases c4 : (lastI l4 b).f0 = 28
    · have e : nextOf l4 b = (lastI l4 b).f6.foldl (addTo l4.length) [] := by unfold nextOf; rw [if_pos ⟨b0, b1, c2, .inr c4⟩]
      rw [e]
      have : ((rd_T56 ((rd_T54 l4 b).f0) (((rd_T54 l4 b).f0.length : Int) - 1)).f0 != 28) = false := by unfold lastI at c4; rw [c4]; rfl
      rw [this]
      refine Ev.step (fun k => by simp only [flow_Next.j1]; rw [if_neg (by decide)]) ?_
      exact run
    · have e : nextOf l4 b = [] := by unfold nextOf; rw [if_neg (fun h => h.2.2.2.elim c3 c4)]
      rw [e]
      have : ((rd_T56 ((rd_T54 l4 b).f0) (((rd_T54 l4 b).f0.length : Int) - 1)).f0 != 28) = true := by unfold lastI at c4; rw [bne_iff_ne]; exact c4
      rw [this]
      exact Ev.step (fun k => by simp only [flow_Next.j1]; rw [if_pos trivial]) (Ev.now _)
end
end Go.Proofs.Ytkcimaibaicdcaa.Gr
end
