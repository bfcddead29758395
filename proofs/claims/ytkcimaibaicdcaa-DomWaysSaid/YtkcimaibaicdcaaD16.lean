/- A part of the proof of the law of DomWays: lemmas and walks, out of this session's texts, with what the claim does not use struck out. -/
import Derived.Test.YtkcimaibaicdcaaD6
import Derived.Test.YtkcimaibaicdcaaD14
import Derived.Test.YtkcimaibaicdcaaD15
namespace Go.Proofs.Ytkcimaibaicdcaa.P
open Go.RowKit Go.Proofs.YtkcimaibaicdcaaW.PrintWords Go.Proofs.YtkcimaibaicdcaaW.PrintLast Go.Proofs.YtkcimaibaicdcaaW.PrintMore
attribute [local go_sem] max2_int min2_int max_two min_two max_three min_three max_four min_four   
set_option linter.unusedVariables false
set_option linter.unusedSimpArgs false
def dom_Front.c : Nat → List (List Bool) → Int → List Int → Int → Option Bool
 | 0, _, _, _, _ => none
 | k + 1, is, a, row, i => if i < (row.length : Int) then (if 0 ≤ i then (if 0 ≤ a then (if a < (is.length : Int) then (if 0 ≤ rd row i then (if rd row i < ((rd_L9 is a).length : Int) then (if rdOf false (rd_L9 is a) (rd row i) = true then some true else dom_Front.c k is a row (wrap64 (i + 1))) else none) else none) else none) else none) else none) else some false
theorem dom_Front.lit (p a : Int) (gis ga : Nat) (Ais : Option Addr) (cis : Nat) (is : List (List Bool)) (w : World)
  (h1 : w.cell? ⟨gis, 0, none⟩ = some (.slice Ais is.length cis)) (h2 : w.cell? ⟨ga, 0, none⟩ = some (.int .i64 a)) (hr : Kd.C (Kd.slice 4 Kd.bool) w Ais is.length is)
  (a0 : 0 ≤ a) (a1 : a < (is.length : Int)) (p0 : 0 ≤ p) (p1 : p < ((rd_L9 is a).length : Int)) :
  Calls Try.prog 70 #[.int .i64 p, .pointer (some ⟨gis, 0, none⟩), .pointer (some ⟨ga, 0, none⟩)] w fun e w' => e = .returned (.bool (rdOf false (rd_L9 is a) p)) ∧ Drawn0 w w' := by
 have HR := Aside0.mk hr
 clear hr
 obtain ⟨ad1, A1, c1, e1, hx1, hl1, hi1⟩ := at_L9 HR.out a a0 a1
 cases e1
 have HI := Aside0.mk hi1
 clear hi1 hl1
 obtain ⟨ad2, e2, hx2⟩ := Kd.at_bool HI.out p p0 p1
 cases e2
 replace a0 := eq_true a0
 replace a1 := eq_true a1
 replace p0 := eq_true p0
 replace p1 := eq_true p1
 go_enter Try.func70, Try.ntmps70
 go_wp2
 go_ret
 exact ⟨by first | rfl | (simp; done) | (simp [*]; done), by repeat (first | exact Drawn0.refl _ | apply Drawn0.step)⟩
theorem dom_Front.index (k : Nat) (a : Int) (gis ga : Nat) (Ais : Option Addr) (cis : Nat) (is : List (List Bool)) (A : Option Addr) (c : Nat) (row : List Int) (r : Bool) (w : World)
  (h1 : w.cell? ⟨gis, 0, none⟩ = some (.slice Ais is.length cis)) (h2 : w.cell? ⟨ga, 0, none⟩ = some (.int .i64 a)) (hr : Kd.C (Kd.slice 4 Kd.bool) w Ais is.length is) (hrow : Kd.C (Kd.int .i64) w A row.length row)
  (h : dom_Front.c k is a row 0 = some r) :
  Calls Try.prog 99 #[.slice A row.length c, .func (.func 70) #[] #[.pointer (some ⟨gis, 0, none⟩), .pointer (some ⟨ga, 0, none⟩)]] w fun e w' => (∃ i : Int, e = .returned (.int .i64 i) ∧ (i ≥ 0 ↔ r = true)) ∧ Drawn0 w w' := by
 have HR := Aside0.mk hr
 have HW := Aside0.mk hrow
 have Z1 := Aside0.mk h1
 have Z2 := Aside0.mk h2
 clear hr hrow h1 h2
 have H' := Aside0.mk h
 clear h
 go_enter Try.func99, Try.ntmps99
 go_wp2
 go_loopg [8] k (fun kq v8 w' => ∃ (x8 : Int), v8 = .int .i64 x8 ∧ Aside0 (dom_Front.c kq is a row x8 = some r) ∧ Aside0 (kq ≤ k) ∧ Drawn0 w w')
 case atStart => exact ⟨(0), (by first | rfl | (simp; done) | (simp [*]; done)), H', ⟨Nat.le_refl _⟩, by repeat (first | exact Drawn0.refl _ | apply Drawn0.step)⟩
 case round =>
  clear H'
  obtain ⟨x8, rfl, HA, HK1, ⟨m1, rfl⟩⟩ := hrel
  cases gk with
  | zero => exact absurd HA.out (by simp [dom_Front.c])
  | succ k1 =>
   have H := HA.out
   clear HA
   simp only [dom_Front.c] at H
   by_cases c3 : x8 < (row.length : Int)
   ·rw [if_pos c3] at H
    by_cases c4 : 0 ≤ x8
    case neg => rw [if_neg c4] at H; exact absurd H (by simp)
    rw [if_pos c4] at H
    by_cases c5 : 0 ≤ a
    case neg => rw [if_neg c5] at H; exact absurd H (by simp)
    rw [if_pos c5] at H
    by_cases c6 : a < (is.length : Int)
    case neg => rw [if_neg c6] at H; exact absurd H (by simp)
    rw [if_pos c6] at H
    by_cases c7 : 0 ≤ rd row x8
    case neg => rw [if_neg c7] at H; exact absurd H (by simp)
    rw [if_pos c7] at H
    by_cases c8 : rd row x8 < ((rd_L9 is a).length : Int)
    case neg => rw [if_neg c8] at H; exact absurd H (by simp)
    rw [if_pos c8] at H
    have G := Aside0.mk (And.intro c5 (And.intro c6 (And.intro c7 c8))); clear c5 c6 c7 c8
    have c3b0 : decide (x8 < (row.length : Int)) = true := decide_eq_true c3
    obtain ⟨ad3, e3, hx3⟩ := Kd.at_int HW.out x8 c4 c3
    cases e3
    replace c4 := eq_true c4
    replace c3 := eq_true c3
    by_cases c9 : rdOf false (rd_L9 is a) (rd row x8) = true
    ·rw [if_pos c9] at H
     obtain rfl := Option.some.inj H
     go_wp2_with (go_at_call 70; (refine (dom_Front.lit (rd row x8) a gis ga Ais cis is _ (by first | exact Z1.out | (simp only [World.cell?_drewN]; exact Z1.out)) (by first | exact Z2.out | (simp only [World.cell?_drewN]; exact Z2.out)) (by repeat (first | exact HR.out | (with_reducible refine Kd.C_drewN ?_ _) | (with_reducible refine Kd.C_drew ?_))) G.out.1 G.out.2.1 G.out.2.2.1 G.out.2.2.2).mono ?_); rintro e w3 ⟨rfl, ⟨m3, rfl⟩⟩; rw [c9])
     go_ret
     exact ⟨⟨x8, by first | rfl | (simp; done) | (simp [*]; done), by have := of_eq_true c4; simp; omega⟩, by repeat (first | exact Drawn0.refl _ | apply Drawn0.step)⟩
    ·rw [if_neg c9] at H
     have H' := Aside0.mk H
     clear H
     have c9' : rdOf false (rd_L9 is a) (rd row x8) = false := by simpa using c9
     go_wp2_with (go_at_call 70; (refine (dom_Front.lit (rd row x8) a gis ga Ais cis is _ (by first | exact Z1.out | (simp only [World.cell?_drewN]; exact Z1.out)) (by first | exact Z2.out | (simp only [World.cell?_drewN]; exact Z2.out)) (by repeat (first | exact HR.out | (with_reducible refine Kd.C_drewN ?_ _) | (with_reducible refine Kd.C_drew ?_))) G.out.1 G.out.2.1 G.out.2.2.1 G.out.2.2.2).mono ?_); rintro e w3 ⟨rfl, ⟨m3, rfl⟩⟩; rw [c9'])
     go_roundg k1
     case measure => have := HK1.out; omega
     case rel => exact ⟨(wrap64 (x8 + 1)), (by first | rfl | (simp; done) | (simp [*]; done)), H', ⟨by have := HK1.out; omega⟩, by repeat (first | exact Drawn0.refl _ | apply Drawn0.step)⟩
   ·rw [if_neg c3] at H
    have c3b0 : decide (x8 < (row.length : Int)) = false := decide_eq_false c3
    clear c3
    obtain rfl := Option.some.inj H
    go_wp2
    go_ret
    exact ⟨⟨-1, by first | rfl | (simp; done) | (simp [*]; done), by simp⟩, by repeat (first | exact Drawn0.refl _ | apply Drawn0.step)⟩
theorem dom_Front.contains (k : Nat) (a : Int) (gis ga : Nat) (Ais : Option Addr) (cis : Nat) (is : List (List Bool)) (A : Option Addr) (c : Nat) (row : List Int) (r : Bool) (w : World)
  (h1 : w.cell? ⟨gis, 0, none⟩ = some (.slice Ais is.length cis)) (h2 : w.cell? ⟨ga, 0, none⟩ = some (.int .i64 a)) (hr : Kd.C (Kd.slice 4 Kd.bool) w Ais is.length is) (hrow : Kd.C (Kd.int .i64) w A row.length row)
  (h : dom_Front.c k is a row 0 = some r) :
  Calls Try.prog 69 #[.slice A row.length c, .func (.func 70) #[] #[.pointer (some ⟨gis, 0, none⟩), .pointer (some ⟨ga, 0, none⟩)]] w fun e w' => e = .returned (.bool r) ∧ Drawn0 w w' := by
 have HH := Aside0.mk (And.intro h1 (And.intro h2 (And.intro hr (And.intro hrow h)))); clear h1 h2 hr hrow h
 go_enter Try.func69, Try.ntmps69
 go_wp2_with (go_at_call 99; (refine (dom_Front.index k a gis ga Ais cis is A c row r _ HH.out.1 HH.out.2.1 HH.out.2.2.1 HH.out.2.2.2.1 HH.out.2.2.2.2).mono ?_); rintro e w3 ⟨⟨i, rfl, hi⟩, ⟨m3, rfl⟩⟩; have hd : decide (i ≥ 0) = r := (by rw [Bool.eq_iff_iff, decide_eq_true_iff]; exact hi))
 go_ret
 exact ⟨by first | rfl | (simp; done) | (simp [*]; done), by repeat (first | exact Drawn0.refl _ | apply Drawn0.step)⟩
def dom_Front.s (is : List (List Bool)) (a b : Int) : Option Bool := if a = b then some false else if 0 ≤ a then (if a < (is.length : Int) then (if b < ((rd_L9 is a).length : Int) then some (rdOf false (rd_L9 is a) b) else none) else none) else none
def dom_Front.g : Bool → Nat → List (List Bool) → List (List Int) → Int → Int → List (List Int) → Int → Option (List (List Int))
 | _, 0, _, _, _, _, _, _ => none
 | false, k + 1, is, prev, n, a, out, _ => if a < n then dom_Front.g true k is prev n a out 0 else some out
 | true, k + 1, is, prev, n, a, out, b => if b < (prev.length : Int) then (if 0 ≤ b then (dom_Front.s is a b).bind fun t => (if t = true then dom_Front.g true k is prev n a out (wrap64 (b + 1)) else (dom_Front.c k is a (rd_L1 prev b) 0).bind fun t2 => (if t2 = true then (if 0 ≤ a then (if a < (out.length : Int) then (if (rd_L1 out a).length < 17592186044416 then dom_Front.g true k is prev n a (out.set a.toNat (rd_L1 out a ++ [b])) (wrap64 (b + 1)) else none) else none) else none) else dom_Front.g true k is prev n a out (wrap64 (b + 1)))) else none) else dom_Front.g false k is prev n (wrap64 (a + 1)) out 0
def dom_Front.f (k : Nat) (a0_0 : ByteArray) (a0_1 : Bool) (l0_2 : List Int) (a0_3 : Int) (l0_4 : List S54) : Option (List (List Int)) :=
 (dom_over.f k a0_0 a0_1 l0_2 a0_3 l0_4).bind fun is => (flow_Prev.f k a0_0 a0_1 l0_2 a0_3 l0_4).bind fun prev => if l0_4.length ≤ 11728124029610 then dom_Front.g false k is prev (l0_4.length : Int) 0 (List.replicate l0_4.length []) 0 else none
theorem dom_Front.mono_c : ∀ k y0 y1 y2 y3, LeO (dom_Front.c k y0 y1 y2 y3) (dom_Front.c (k + 1) y0 y1 y2 y3)
 | 0 => fun _ _ _ _ r h => by simp [dom_Front.c] at h
 | k + 1 => fun y0 y1 y2 y3 => by
  have ih := dom_Front.mono_c k
  rw [dom_Front.c, dom_Front.c]
  repeat' first | exact ih _ _ _ _ | exact LeO.refl _ | refine LeO.ite ?_ ?_
theorem dom_Front.mono_g : ∀ k m y0 y1 y2 y3 y4 y5, LeO (dom_Front.g m k y0 y1 y2 y3 y4 y5) (dom_Front.g m (k + 1) y0 y1 y2 y3 y4 y5)
 | 0 => fun m _ _ _ _ _ _ r h => by cases m <;> simp [dom_Front.g] at h
 | k + 1 => fun m y0 y1 y2 y3 y4 y5 => by
  have ih := dom_Front.mono_g k
  cases m
  all_goals
   rw [dom_Front.g, dom_Front.g]
   repeat' first | exact ih _ _ _ _ _ _ _ | exact dom_Front.mono_c _ _ _ _ _ | exact LeO.refl _ | refine LeO.ite ?_ ?_ | refine LeO.bind ?_ (fun _ => ?_)
theorem dom_Front.mono : ∀ y0 y1 y2 y3 y4 k, LeO (dom_Front.f k y0 y1 y2 y3 y4) (dom_Front.f (k + 1) y0 y1 y2 y3 y4) := fun y0 y1 y2 y3 y4 k => by
 unfold dom_Front.f
 refine LeO.bind (dom_over.mono _ _ _ _ _ _) (fun _ => LeO.bind (flow_Prev.mono _ _ _ _ _ _) (fun _ => LeO.ite (dom_Front.mono_g _ _ _ _ _ _ _ _) (LeO.refl _)))
def dom_Front.T12 : Bool × List (List Nat × List Nat) := (true, [([], []), ([], []), ([], []), ([], []), ([2, 3], [2, 3]), ([4], [4]), ([], []), ([6], [6]), ([5, 7], [5, 7]), ([0, 1, 0, 1, 2, 3, 4, 5, 6, 7, 8], [0, 1]), ([9, 8, 8, 0, 1, 2, 3, 4, 5, 6, 7, 8], [8, 9])])
def dom_Front.B12 : List Nat := [0, 0, 0, 0, 12, 28, 0, 64, 252, 511, 1023]
theorem dom_Front.tab12 : rtab .any (opsOf Try.f34 12) = dom_Front.T12 := by kernel_rfl
theorem dom_Front.bits12 : waitsOk dom_Front.T12.2 dom_Front.B12 = true := by kernel_rfl
set_option maxHeartbeats 8000000 in
set_option maxRecDepth 100000 in
theorem dom_Front.calls (k : Nat) (a0_0 : ByteArray) (a0_1 : Bool) (A0_2 : Option Addr) (c0_2 : Nat) (l0_2 : List Int) (a0_3 : Int) (A0_4 : Option Addr) (c0_4 : Nat) (l0_4 : List (S54)) (r : List (List Int)) (w : World) (hr0_2 : Kd.C (Kd.int .i64) w A0_2 l0_2.length l0_2) (hc0_2 : l0_2.length ≤ c0_2) (hr0_4 : Kd.C k54 w A0_4 l0_4.length l0_4) (hc0_4 : l0_4.length ≤ c0_4) (h : dom_Front.f k a0_0 a0_1 l0_2 a0_3 l0_4 = some r) :
    Calls Try.prog 34 #[.agg #[.string a0_0, .bool a0_1, .slice A0_2 l0_2.length c0_2, .int .i64 a0_3, .slice A0_4 l0_4.length c0_4]] w fun e w' => ∃ v0_ : Value, e = .returned (v0_) ∧ Kd.S (Kd.slice 3 (Kd.int .i64)) 22 w' w.heap.size (fun _ => True) v0_ r ∧ Below w.heap.size w w' := by
  unfold dom_Front.f at h
  obtain ⟨is, h1, h⟩ := Option.bind_eq_some_iff.mp h
  obtain ⟨prev, h2, h⟩ := Option.bind_eq_some_iff.mp h
  by_cases c1 : l0_4.length ≤ 11728124029610
  case neg => rw [if_neg c1] at h; exact absurd h (by simp)
  rw [if_pos c1] at h
  obtain ⟨out0, hout0⟩ : ∃ o : List (List Int), o = List.replicate l0_4.length [] := ⟨_, rfl⟩
  have hlen : out0.length = l0_4.length := by rw [hout0]; simp
  rw [← hout0, ← hlen] at h
  have NO := Aside0.mk hout0
  have NL := Aside0.mk hlen
  clear hout0 hlen
  have HR0_2 := Aside0.mk hr0_2
  have HC0_2 := Aside0.mk hc0_2
  have HR0_4 := Aside0.mk hr0_4
  have HC0_4 := Aside0.mk hc0_4
  have A1 := Aside0.mk h1
  have A2 := Aside0.mk h2
  have H := Aside0.mk h
  have C1 := Aside0.mk c1
  have HB := Aside0.mk (Below.refl w.heap.size w); clear hr0_2 hc0_2 hr0_4 hc0_4 h h1 h2 c1
  have hu25 := Try.underlying25
  go_enter Try.func34, Try.ntmps34
  go_wp2_with (first
    | ((with_reducible refine gate_dst (N := 1) rfl ?_); refine box_event ?hg (N := 1) ?hd (cs := #[.string a0_0, .bool a0_1, .slice A0_2 l0_2.length c0_2, .int .i64 a0_3, .slice A0_4 l0_4.length c0_4]) (t := 25) ?hr ?_
       (case hd => rfl)
       (case hg => rfl)
       (case hr => first | (go_simp; done) | (go_simp; rfl))
       intro gb hg w5 hbox hb; have HB1 := Aside0.mk (below_step HB.out hb)
       have BK := Aside0.mk hbox
       have GB := Aside0.mk (show w.heap.size ≤ gb by rw [hg]; exact below_size HB.out); clear hb hbox hg HB
       have hz1 := (blk_cell BK.out 0).trans rfl
       have hz2 := (blk_cell BK.out 1).trans rfl
       have hz3 := (blk_cell BK.out 2).trans rfl
       have hz4 := (blk_cell BK.out 3).trans rfl
       have hz5 := (blk_cell BK.out 4).trans rfl)
    | ((with_reducible refine gate_callee (f := 68) rfl ?_); refine goesL_ (some 9) rfl rfl Try.func68 (by kernel_rfl) rfl #[.agg #[.string a0_0, .bool a0_1, .slice A0_2 l0_2.length c0_2, .int .i64 a0_3, .slice A0_4 l0_4.length c0_4]] rfl (by (try simp only [List.map_toArray, List.map_cons, List.map_nil]); rfl) ?_
       (with_reducible refine (dom_over.calls k a0_0 a0_1 A0_2 c0_2 l0_2 a0_3 A0_4 c0_4 l0_4 is _ (Kd.C_below HR0_2.out HB1.out) HC0_2.out (Kd.C_below HR0_4.out HB1.out) HC0_4.out A1.out).mono ?_)
       rintro e w6 ⟨vis, rfl, ho0, hb⟩
       refine ⟨_, rfl, ?_⟩
       obtain ⟨Ais, cis, rfl⟩ := Kd.S_slice ho0
       have HI := Aside0.mk (Kd.S_reads' ho0).2.2
       have HB2 := Aside0.mk (below_step HB1.out hb); have BK2 := Aside0.mk (blk_below BK.out hb)
       have HS6 := Aside0.mk hb.size
       clear hz1 hz2 hz3 hz4 hz5 ho0 hb)
    | ((with_reducible refine gate_dst (N := 3) rfl ?_); refine box_event ?hg (N := 3) ?hd (cs := #[.slice none 0 0]) (t := 41) ?hr ?_
       (case hd => rfl)
       (case hg => rfl)
       (case hr => first | (go_simp; done) | (go_simp; rfl))
       intro gis hg w7 hbox hb; have HB3 := Aside0.mk (below_step HB2.out hb); have BK3 := Aside0.mk (blk_below BK2.out hb)
       have BI3 := Aside0.mk hbox
       have GI := Aside0.mk (show w6.heap.size ≤ gis by rw [hg]; exact Nat.le_refl _)
       have BL3 := Aside0.mk hb
       have hzi := (blk_cell BI3.out 0).trans rfl
       have hfi := blk_frozen BI3.out 0
       clear hb hbox hg)
    | ((with_reducible refine gate_store (t := 41) (p := 3) rfl ?_); refine store_event (t := 41) (p := 3) (v := ?vo_w8) (w1 := (w7.setCell ⟨gis, 0, none⟩ (.slice Ais is.length cis))) ?hg ?ho ?hn ?hr ?_
       (case ho => rfl)
       (case hg => rfl)
       (case hn => rfl)
       (case hr => first | (go_simp; done) | (go_simp; rfl))
       intro w8 hw; have BL4 := Aside0.mk (show Below w6.heap.size w6 w8 by rw [hw]; exact below_set BL3.out GI.out); have HB4 := Aside0.mk (below_step HB2.out BL4.out); have BK4 := Aside0.mk (blk_below BK2.out BL4.out); have BI4 := Aside0.mk (show w8.heap[gis]? = some (.cells #[.slice Ais is.length cis] 41 (0, 0)) by rw [hw]; exact blk_put BI3.out 0 _ rfl); have HI4 := Aside0.mk (Kd.C_below HI.out BL4.out); clear hw hzi hfi
       have hz1 := (blk_cell BK4.out 0).trans rfl
       have hz2 := (blk_cell BK4.out 1).trans rfl
       have hz3 := (blk_cell BK4.out 2).trans rfl
       have hz4 := (blk_cell BK4.out 3).trans rfl
       have hz5 := (blk_cell BK4.out 4).trans rfl)
    | ((with_reducible refine gate_callee (f := 22) rfl ?_); refine goesL_ (some 11) rfl rfl Try.func22 (by kernel_rfl) rfl #[.agg #[.string a0_0, .bool a0_1, .slice A0_2 l0_2.length c0_2, .int .i64 a0_3, .slice A0_4 l0_4.length c0_4]] rfl (by (try simp only [List.map_toArray, List.map_cons, List.map_nil]); rfl) ?_
       (with_reducible refine (flow_Prev.calls k a0_0 a0_1 A0_2 c0_2 l0_2 a0_3 A0_4 c0_4 l0_4 prev _ (Kd.C_below HR0_2.out HB4.out) HC0_2.out (Kd.C_below HR0_4.out HB4.out) HC0_4.out A2.out).mono ?_)
       rintro e w9 ⟨vp, rfl, ho0, hb⟩
       refine ⟨_, rfl, ?_⟩
       obtain ⟨Ap, cp, rfl⟩ := Kd.S_slice ho0
       have HP := Aside0.mk (Kd.S_reads' ho0).2.2
       have HB5 := Aside0.mk (below_step HB4.out hb); have BK5 := Aside0.mk (blk_below BK4.out hb); have BI5 := Aside0.mk (blk_below BI4.out hb); have HI5 := Aside0.mk (Kd.C_below HI4.out hb); clear hz1 hz2 hz3 hz4 hz5 ho0 hb
       have hz5 := (blk_cell BK5.out 4).trans rfl)
    | ((with_reducible refine gate_dst (N := 15) rfl ?_); refine Kd.S_make (Kd.slice 3 (Kd.int .i64)) _ 22 rfl (N := 15) rfl 31 _ _ rfl (l0_4.length : Int) rfl rfl Try.underlying31 (.slice none 0 0) 24 info22 rfl (by decide) (by omega) [] (ok := fun _ => True) (okp := fun _ => True) ⟨_, rfl, Kd.R_nil _ _ _ _ _⟩ (fun _ hk => hk) trivial (by omega) (by have := C1.out; omega) (Below.refl _ _) (Nat.le_refl _) ?_
       intro vout w10 ho8 hb hg_ hnew_; have HO := Aside0.mk (show Kd.S (Kd.slice 3 (Kd.int .i64)) 22 w10 w9.heap.size (fun _ => True) vout out0 by rw [NO.out]; exact ho8)
       have HQ := Aside0.mk hb
       clear hg_ hnew_ ho8 hb hz5
       obtain ⟨Ao, co, eo⟩ := Kd.S_slice HO.out
       subst eo))
  have H' := H; clear H
  go_loopg [18] k (fun kq v18 w' => ∃ (out : List (List Int)) (a : Int), v18 = .int .i64 a ∧ Aside0 (dom_Front.g false kq is prev (out0.length : Int) a out 0 = some r) ∧ Aside0 (kq ≤ k) ∧ Aside0 (Kd.S (Kd.slice 3 (Kd.int .i64)) 22 w' w9.heap.size (fun _ => True) (.slice Ao out0.length co) out) ∧ Aside0 (Below w9.heap.size w9 w'))
  case atStart => exact ⟨_, 0, rfl, H', ⟨Nat.le_refl _⟩, HO, HQ⟩
  case round =>
    clear H' HO HQ HB1 HB2 HB3 HB4 BK BK2 BK3 BK4 BI3 BI4 BL3 BL4 HI HI4
    obtain ⟨out, a, rfl, HA, HK1, HO, HQ⟩ := hrel
    cases gk with
    | zero => exact absurd HA.out (by simp [dom_Front.g])
    | succ k1 =>
      have H := HA.out
      clear HA
      simp only [dom_Front.g] at H
      by_cases c1 : a < (out0.length : Int)
      · rw [if_pos c1] at H
        have c1b : decide (a < (out0.length : Int)) = true := decide_eq_true c1
        clear c1
        have H' := Aside0.mk H
        clear H
        go_wp2_with (first
          | ((with_reducible refine gate_dst (N := 6) rfl ?_); refine box_event ?hg (N := 6) ?hd (cs := #[.int .i64 0]) (t := 3) ?hr ?_
             (case hd => rfl)
             (case hg => rfl)
             (case hr => first | (go_simp; done) | (go_simp; rfl))
             intro ga hg wa hbox hb
             have BA := Aside0.mk hbox
             have GA := Aside0.mk (show wr.heap.size ≤ ga by rw [hg]; exact Nat.le_refl _); have HO1 := Aside0.mk (Kd.S_below (Kd.S_mono (ok' := fun k_ => k_ ≠ ga) (Kd.S_bound HO.out) (fun k_ hk => by have := hk.2.2.1; have := GA.out; omega)) hb); have HQ1 := Aside0.mk (below_then HQ.out HQ.out.size hb)
             have hza := (blk_cell BA.out 0).trans rfl
             have hfa := blk_frozen BA.out 0
             clear hb hbox hg)
          | ((with_reducible refine gate_store (t := 3) (p := 6) rfl ?_); refine store_event (t := 3) (p := 6) (v := ?vo_wb) (w1 := (wa.setCell ⟨ga, 0, none⟩ (.int .i64 a))) ?hg ?ho ?hn ?hr ?_
             (case ho => rfl)
             (case hg => rfl)
             (case hn => rfl)
             (case hr => first | (go_simp; done) | (go_simp; rfl))
             intro wb hw; have HO2 := Aside0.mk (show Kd.S (Kd.slice 3 (Kd.int .i64)) 22 wb w9.heap.size (fun k_ => k_ ≠ ga) (.slice Ao out0.length co) out by rw [hw]; exact Kd.S_far (p := ⟨ga, 0, none⟩) HO1.out (fun _ hk => hk) _); have HQ2 := Aside0.mk (show Below w9.heap.size w9 wb by rw [hw]; exact below_set HQ1.out (Nat.le_trans HQ.out.size GA.out)); have BA2 := Aside0.mk (show wb.heap[ga]? = some (.cells #[.int .i64 a] 3 (0, 0)) by rw [hw]; exact blk_put BA.out 0 _ rfl)
             clear hw hza hfa HO1 HQ1 BA))
        go_loopg [23] k1 (fun kq v23 w' => ∃ (out : List (List Int)) (b : Int), v23 = .int .i64 b ∧ Aside0 (dom_Front.g true kq is prev (out0.length : Int) a out b = some r) ∧ Aside0 (kq ≤ k1) ∧ Aside0 (Kd.S (Kd.slice 3 (Kd.int .i64)) 22 w' w9.heap.size (fun k_ => k_ ≠ ga) (.slice Ao out0.length co) out) ∧ Aside0 (w'.heap[ga]? = some (.cells #[.int .i64 a] 3 (0, 0))) ∧ Aside0 (Below w9.heap.size w9 w'))
        case atStart => exact ⟨_, 0, rfl, H', ⟨Nat.le_refl _⟩, HO2, BA2, HQ2⟩
        case round =>
          clear H' HO HO2 HQ2 BA2 HQ
          obtain ⟨out, b, rfl, HA, HK2, HO, BA, HQ⟩ := hrel
          cases gk with
          | zero => exact absurd HA.out (by simp [dom_Front.g])
          | succ k2 =>
            have H := HA.out
            clear HA
            simp only [dom_Front.g] at H
            by_cases c2 : b < (prev.length : Int)
            · rw [if_pos c2] at H
              by_cases c3 : 0 ≤ b
              case neg => rw [if_neg c3] at H; exact absurd H (by simp)
              rw [if_pos c3] at H
              obtain ⟨t, hs, H⟩ := Option.bind_eq_some_iff.mp H
              have c2b : decide (b < (prev.length : Int)) = true := decide_eq_true c2
              have PR := Aside0.mk (And.intro c3 c2)
              have hza : wr.cell? ⟨ga, 0, none⟩ = some (.int .i64 a) := (blk_cell BA.out 0).trans rfl
              have ZI := Aside0.mk (show wr.cell? ⟨gis, 0, none⟩ = some (.slice Ais is.length cis) from (HQ.out.cell (blk_lt BI5.out)).trans ((blk_cell BI5.out 0).trans rfl))
              have hzi := ZI.out
              have ZA := Aside0.mk hza
              have HI6 := Aside0.mk (Kd.C_below HI5.out HQ.out); have HP6 := Aside0.mk (Kd.C_below HP.out HQ.out)
              obtain ⟨adp, Ar, cr, ep, hxp, hlp, hip⟩ := at_L1 HP6.out b c3 c2
              cases ep
              have HP7 := Aside0.mk hip
              clear hip hlp c2 c3
              by_cases ce : a = b
              · have hs' := hs
                unfold dom_Front.s at hs'
                rw [if_pos ce] at hs'
                obtain rfl := Option.some.inj hs'
                have ce1 : (a == b) = true := beq_iff_eq.mpr ce
                have ce2 : (a != b) = false := bne_eq_false_iff_eq.mpr ce
                clear hs hs' ce
                simp only [Bool.false_eq_true, if_false] at H
                obtain ⟨t2, hc, H⟩ := Option.bind_eq_some_iff.mp H
                have HC := Aside0.mk hc
                have HH := Aside0.mk H
                clear hc H
                have p5 := eq_true PR.out.2
                have p6 := eq_true PR.out.1
                cases t2 with
                | false =>
                  have H := HH.out
                  simp only [Bool.false_eq_true, if_false] at H
                  have H' := Aside0.mk H
                  clear H HH
                  go_wp2_with (go_at_call 69; ((refine (dom_Front.contains k2 a gis ga _ cis is _ _ (rd_L1 prev b) false _ (by first | exact ZI.out | (simp only [World.cell?_drewN]; exact ZI.out)) (by first | exact ZA.out | (simp only [World.cell?_drewN]; exact ZA.out)) (by repeat (first | exact HI6.out | (with_reducible refine Kd.C_drewN ?_ _) | (with_reducible refine Kd.C_drew ?_))) (by repeat (first | exact HP7.out | (with_reducible refine Kd.C_drewN ?_ _) | (with_reducible refine Kd.C_drew ?_))) HC.out).mono ?_); rintro e wc ⟨rfl, ⟨nd, rfl⟩⟩))
                  go_roundg k2
                  case measure => have := HK2.out; omega
                  case rel => exact ⟨out, wrap64 (b + 1), by first | rfl | (simp; done), H', ⟨by have := HK2.out; omega⟩, ⟨by (with_reducible repeat (first | apply Kd.S_alloc | apply Kd.S_drewN | apply Kd.S_drew)); exact HO.out⟩, ⟨by (with_reducible repeat (first | refine blk_drewN ?_ _ | refine blk_drew ?_ | refine blk_alloc ?_ _)); exact BA.out⟩, ⟨by repeat (first | exact HQ.out | apply below_alloc | apply pw_below_drewN | apply below_drew1)⟩⟩
                | true =>
                  have H := HH.out
                  simp only [if_true] at H
                  clear HH
                  go_wp2_with (go_at_call 69; ((refine (dom_Front.contains k2 a gis ga _ cis is _ _ (rd_L1 prev b) true _ (by first | exact ZI.out | (simp only [World.cell?_drewN]; exact ZI.out)) (by first | exact ZA.out | (simp only [World.cell?_drewN]; exact ZA.out)) (by repeat (first | exact HI6.out | (with_reducible refine Kd.C_drewN ?_ _) | (with_reducible refine Kd.C_drew ?_))) (by repeat (first | exact HP7.out | (with_reducible refine Kd.C_drewN ?_ _) | (with_reducible refine Kd.C_drew ?_))) HC.out).mono ?_); rintro e wc ⟨rfl, ⟨nd, rfl⟩⟩))
                  by_cases d1 : 0 ≤ a
                  case neg => rw [if_neg d1] at H; exact absurd H (by simp)
                  rw [if_pos d1] at H
                  by_cases d2 : a < (out.length : Int)
                  case neg => rw [if_neg d2] at H; exact absurd H (by simp)
                  rw [if_pos d2] at H
                  by_cases d3 : (rd_L1 out a).length < 17592186044416
                  case neg => rw [if_neg d3] at H; exact absurd H (by simp)
                  rw [if_pos d3] at H
                  have LM := Aside0.mk d3
                  clear d3
                  obtain ⟨row, hrow⟩ : ∃ y : List Int, y = rd_L1 out a ++ [b] := ⟨_, rfl⟩
                  rw [← hrow] at H
                  have NR := Aside0.mk hrow
                  clear hrow
                  obtain ⟨out2, hout2⟩ : ∃ y : List (List Int), y = out.set a.toNat row := ⟨_, rfl⟩
                  rw [← hout2] at H
                  have NO2 := Aside0.mk hout2
                  clear hout2
                  have H' := Aside0.mk H
                  clear H; have HO1 := Aside0.mk (Kd.S_drew (Kd.S_drewN HO.out nd)); have BA1 := Aside0.mk (blk_drew (blk_drewN BA.out nd)); have HQ1 := Aside0.mk (below_drew1 (pw_below_drewN HQ.out nd)); clear HO BA HQ ZI ZA HI6 HP6 HP7 hza hzi
                  have hza := (blk_cell BA1.out 0).trans rfl
                  have d4 : a < (out0.length : Int) := by have e_ := (Kd.S_reads' HO1.out).1; omega
                  obtain ⟨ad6, A6, c6, e6, hx6, hl6, hi6⟩ := at_L1 (Kd.S_reads' HO1.out).2.2 a d1 d2
                  cases e6
                  obtain ⟨ce7, hce7, hMe7, hcc7⟩ := Kd.S_get HO1.out [] a d1 d4
                  obtain ⟨ve7, rfl, ge7⟩ := hMe7
                  have hv7 := hcc7 0 _ rfl
                  rw [Nat.add_zero, show ((Kd.slice 3 (Kd.int .i64))).sz = 1 from rfl, Nat.mul_one] at hv7
                  replace hv7 := Option.some.inj (hv7.symm.trans hx6)
                  rw [hv7] at ge7
                  have HL := Aside0.mk (show Kd.R (Kd.int .i64) 3 _ _ _ _ (rd_L1 out a) from ge7); clear hv7 ge7 hcc7 hce7 hi6 hl6
                  have HX := Aside0.mk hx6
                  obtain ⟨go, co6, eo6, gb6, gl6, cl6, HG6⟩ := Kd.S_form HO1.out (by omega)
                  (first | cases eo6 | (injection eo6 with ea_ en_ ec_; (first | subst ea_ | (injection ea_ with ea_; subst ea_)); subst ec_; clear en_))
                  have GB := Aside0.mk gb6
                  clear gb6 gl6 HG6; have NG := Aside0.mk (show go ≠ ga by obtain ⟨f_, hf_⟩ := HO1.out; exact hf_.1 go rfl)
                  (first | simp only [add_plain] at hx6 | skip)
                  obtain ⟨oki, ce8, hcl8, hM8, hcc8, _, _, hH8⟩ := Kd.S_elem HO1.out [] a d1 d4
                  obtain ⟨ve8, rfl, ge8⟩ := hM8
                  have hv8 := hcc8 0 _ rfl
                  have hX8 := HX.out
                  (try simp only [add_plain] at hX8)
                  (try simp only [Nat.add_zero] at hv8)
                  (try rw [show ((Kd.slice 3 (Kd.int .i64))).sz = 1 from rfl, Nat.mul_one] at hv8)
                  replace hv8 := Option.some.inj (hv8.symm.trans hX8)
                  subst hv8
                  clear hX8 hcc8 hcl8; have UU := Aside0.mk (show Kd.R (Kd.int .i64) 3 _ w9.heap.size oki (.slice A6 (rd_L1 out a).length c6) (rd_L1 out a) from ge8)
                  have HH := Aside0.mk hH8
                  clear hH8 ge8; have D := Aside0.mk (And.intro d1 (And.intro d2 d4))
                  have p1 := eq_true d1
                  have p2 := eq_true d2
                  have p3 := eq_true d4
                  clear d1 d2 d4
                  refine start_ (n := 11) (S := fun w' => w'.cell? ⟨ga, 0, none⟩ = some (.int .i64 a) ∧ w'.cell? ⟨go, a.toNat, none⟩ = some (.slice A6 (rd_L1 out a).length c6)) (ds := [10]) #[false, false, false, false, false, false, false, false, false, false, false] (by kernel_rfl) rfl rfl ⟨hza, hx6⟩ (fun hHeld => ?_); refine with_tabW dom_Front.tab12 dom_Front.bits12 (fun HT_ HW_ => ?_)
                  generalize (wr.drewN nd).drew = w19 at HO1 BA1 HQ1 HH HL HX UU hx6 hza hHeld ⊢
                  refine pure_ (i := 0) (N := some 44) (v := ?_) (a' := ?_) #[true, false, false, false, false, false, false, false, false, false, false] rfl rfl (any_of HT_.out (by kernel_rfl)) (fun _ _ _ h => h) (Or.inl ⟨by rfl, ?_⟩) ?_ ?_
                  rotate_left
                  · intro w'
                    go_simp
                    with_reducible rfl
                  rotate_left
                  · simp only [Act.put, List.setIfInBounds_toArray, List.set_cons_zero, List.set_cons_succ, i64_w, i32_w]; rfl
                  refine pure_ (i := 2) (N := some 46) (v := ?_) (a' := ?_) #[true, false, true, false, false, false, false, false, false, false, false] rfl rfl (any_of HT_.out (by kernel_rfl)) (fun _ _ _ h => h) (Or.inl ⟨by rfl, ?_⟩) ?_ ?_
                  rotate_left
                  · intro w'
                    go_simp
                    with_reducible rfl
                  rotate_left
                  · simp only [Act.put, List.setIfInBounds_toArray, List.set_cons_zero, List.set_cons_succ, i64_w, i32_w]; rfl
                  refine pure_ (i := 6) (N := some 50) (v := ?_) (a' := ?_) #[true, false, true, false, false, false, true, false, false, false, false] rfl rfl (any_of HT_.out (by kernel_rfl)) (fun _ _ _ h => h) (Or.inl ⟨by rfl, ?_⟩) ?_ ?_
                  rotate_left
                  · intro w'
                    go_simp
                    with_reducible rfl
                  rotate_left
                  · simp only [Act.put, List.setIfInBounds_toArray, List.set_cons_zero, List.set_cons_succ, i64_w, i32_w]; rfl
                  refine take_ (i := 1) (N := some 45) (v := ?_) (a' := ?_) #[true, true, true, false, false, false, true, false, false, false, false] rfl rfl (take_ofW HT_.out HW_.out (by kernel_rfl)) (fun _ _ _ h => h) (Or.inl ⟨by rfl, ?_⟩) hHeld ?_ ?_
                  rotate_left
                  · rintro w' ⟨s0, s1⟩
                    go_simp
                    with_reducible rfl
                  rotate_left
                  · simp only [Act.put, List.setIfInBounds_toArray, List.set_cons_zero, List.set_cons_succ, i64_w, i32_w]; rfl
                  refine take_ (i := 3) (N := some 47) (v := ?_) (a' := ?_) #[true, true, true, true, false, false, true, false, false, false, false] rfl rfl (take_ofW HT_.out HW_.out (by kernel_rfl)) (fun _ _ _ h => h) (Or.inl ⟨by rfl, ?_⟩) hHeld ?_ ?_
                  rotate_left
                  · rintro w' ⟨s0, s1⟩
                    go_simp
                    with_reducible rfl
                  rotate_left
                  · simp only [Act.put, List.setIfInBounds_toArray, List.set_cons_zero, List.set_cons_succ, i64_w, i32_w]; rfl
                  refine pure_ (i := 4) (N := some 48) (v := ?_) (a' := ?_) #[true, true, true, true, true, false, true, false, false, false, false] rfl rfl (any_of HT_.out (by kernel_rfl)) (fun _ _ _ h => h) (Or.inl ⟨by rfl, ?_⟩) ?_ ?_
                  rotate_left
                  · intro w'
                    go_simp
                    with_reducible rfl
                  rotate_left
                  · simp only [Act.put, List.setIfInBounds_toArray, List.set_cons_zero, List.set_cons_succ, i64_w, i32_w]; rfl
                  refine take_ (i := 5) (N := some 49) (v := ?_) (a' := ?_) #[true, true, true, true, true, true, true, false, false, false, false] rfl rfl (take_ofW HT_.out HW_.out (by kernel_rfl)) (fun _ _ _ h => h) (Or.inl ⟨by rfl, ?_⟩) hHeld ?_ ?_
                  rotate_left
                  · rintro w' ⟨s0, s1⟩
                    go_simp
                    with_reducible rfl
                  rotate_left
                  · simp only [Act.put, List.setIfInBounds_toArray, List.set_cons_zero, List.set_cons_succ, i64_w, i32_w]; rfl
                  refine one_ (i := 7) (N := some 51) #[true, true, true, true, true, true, true, true, false, false, false] rfl rfl (one_of HT_.out (by kernel_rfl)) (by decide) (fun K hK => ?_)
                  refine value_ (w1 := ?_) (v := ?_) (by rfl) rfl ?_ ?_
                  rotate_left 2
                  · go_simp
                    constructor
                    · rfl
                    · rfl
                  refine hK.out _ _ ⟨(World.cell?_alloc_lt _ _ _ (World.block_lt_of_cell? _ _ (hHeld.1))).trans (hHeld.1), (World.cell?_alloc_lt _ _ _ (World.block_lt_of_cell? _ _ (hHeld.2))).trans (hHeld.2)⟩ (fun hHeld => ?_)
                  clear hK K; refine norm_ (a' := ?_) ?_ ?_; rotate_left
                  · show Act.put _ (some 51) _ = _; simp only [Act.put, List.setIfInBounds_toArray, List.set_cons_zero, List.set_cons_succ, i64_w, i32_w]; rfl
                  refine one_ (i := 8) (N := some 52) #[true, true, true, true, true, true, true, true, true, false, false] rfl rfl (one_of HT_.out (by kernel_rfl)) (by decide) (fun K hK => ?_)
                  refine Kd.R_append_step (Kd.int .i64) (w0 := w9) w9.heap.size (by rfl) (.tmp 49) (.tmp 51) 22 3 (.int .i64 0) 8 rfl Try.underlying22 info3 rfl (by decide) (by omega) (.slice A6 (rd_L1 out a).length c6) (rd_L1 out a) b [.int .i64 b] (fun k_ => oki k_ ∨ (k_ ≠ ga ∧ w19.heap.size ≤ k_)) (fun _ => False) rfl rfl ?aP (fun _ hk => hk.elim) ?aF ?aO ?aB ?aS ?aL ?_
                  (case aP => exact rfl)
                  (case aB => exact (by repeat (first | exact HQ1.out | apply below_alloc | apply pw_below_drewN | apply below_drew1)))
                  (case aF => exact (fun k_ hk => .inr ⟨by have h1_ := blk_lt BA1.out; omega, hk⟩))
                  (case aO => exact (by (with_reducible repeat (first | apply Kd.R_alloc | apply Kd.R_drewN | apply Kd.R_drew)); exact Kd.R_mono UU.out (fun _ hk => .inl hk)))
                  (case aS => exact (below_size (by repeat (first | exact HQ1.out | apply below_alloc | apply pw_below_drewN | apply below_drew1))))
                  (case aL => have := LM.out; omega)
                  intro v52 w22 ho hb hg hat
                  have HS0_ := cell_grown hg (cell_unalloc (hHeld.1) (blk_lt BA1.out)) (fun e_ => ((HL.out.1 _ e_.symm).1) rfl)
                  have HS1_ := cell_grown hg (cell_unalloc (hHeld.2) (Kd.S_lt HO1.out _ rfl)) (fun e_ => ((HL.out.1 _ e_.symm).2) rfl)
                  rw [← NR.out] at ho
                  have BA2 := Aside0.mk (blk_grown (g := ga) (o := .cells #[.int .i64 a] 3 (0, 0)) (by (with_reducible repeat (first | refine blk_drewN ?_ _ | refine blk_drew ?_ | refine blk_alloc ?_ _)); exact BA1.out) hg (fun e_ => ((HL.out.1 _ e_.symm).1) rfl)); have HQ2 := Aside0.mk (hb); have HH2 := Aside0.mk (Kd.H_grown (Kd.H_widen (by repeat (first | exact HH.out | refine Kd.H_alloc ?_ _ | refine Kd.H_drewN ?_ _ | refine Kd.H_drew ?_))) hg (fun k_ e_ => .inl (UU.out.1 k_ e_))); have HO2 := Aside0.mk (ho); clear ho hb hg hat HH UU HL HO1 BA1 HQ1
                  obtain ⟨A9, c9, eo9⟩ := Kd.R_slice HO2.out
                  (first | subst eo9 | (injection eo9 with f1_ f2_ f3_; have f4_ := f1_.symm; have f5_ := f3_.symm; clear f1_ f2_ f3_; subst f4_; subst f5_))
                  obtain ⟨_, _, hraw, _, _, hcc9, _⟩ := Kd.H_raw HH2.out D.out.1 D.out.2.2
                  obtain ⟨_, hfr9⟩ := Kd.H_at HH2.out D.out.1 D.out.2.2
                  have hx9 := hcc9 0 _ rfl
                  have hf9 := hfr9 0
                  (try simp only [Nat.add_zero] at hx9 hf9)
                  (try rw [show ((Kd.slice 3 (Kd.int .i64))).sz = 1 from rfl, Nat.mul_one] at hx9)
                  (try rw [show ((Kd.slice 3 (Kd.int .i64))).sz = 1 from rfl, Nat.mul_one] at hf9)
                  have HP9 := Kd.S_seg0 HH2.out D.out.1 D.out.2.2 (seg := [.slice A9 row.length c9]) (j := 0) (show 1 ≤ 1 from by decide) (x' := row) (Kd.M_row HO2.out) (fun _ hk => hk)
                  (try simp only [show ((Kd.slice 3 (Kd.int .i64))).sz = 1 from rfl, Nat.mul_one, Nat.add_zero] at HP9)
                  clear hcc9 hfr9
                  have HS9 := HP9.1
                  rw [← NO2.out] at HS9
                  have HQ9 := Aside0.mk HS9
                  clear HP9 HS9
                  refine hK.out _ _ ⟨HS0_, HS1_⟩ (fun hHeld => ?_)
                  clear hK K; refine norm_ (a' := ?_) ?_ ?_; rotate_left
                  · show Act.put _ (some 52) _ = _; simp only [Act.put, List.setIfInBounds_toArray, List.set_cons_zero, List.set_cons_succ, i64_w, i32_w]; rfl
                  refine pure_ (i := 9) (N := some 53) (v := ?_) (a' := ?_) #[true, true, true, true, true, true, true, true, true, true, false] rfl rfl (any_of HT_.out (by kernel_rfl)) (fun _ _ _ h => h) (Or.inl ⟨by rfl, ?_⟩) ?_ ?_
                  rotate_left
                  · intro w'
                    go_simp
                    with_reducible rfl
                  rotate_left
                  · simp only [Act.put, List.setIfInBounds_toArray, List.set_cons_zero, List.set_cons_succ, i64_w, i32_w]; rfl
                  refine last_ (i := 10) (N := none) #[true, true, true, true, true, true, true, true, true, true, true] rfl rfl (one_of HT_.out (by kernel_rfl)) (by decide) (fun K hK => ?_)
                  refine skip_ (w1 := ?_) (by rfl) rfl ?_ ?_
                  rotate_left
                  · go_simp
                    rfl
                  refine hK.out _ _ ?_
                  clear hK K
                  refine done_ (done_of HT_.out (by kernel_rfl)) ?_
                  try go_wp2
                  go_roundg k2
                  case measure => have := HK2.out; omega
                  case rel => exact ⟨out2, (wrap64 (b + 1)), (by first | rfl | (simp; done) | (simp [*]; done)), H', ⟨by have := HK2.out; omega⟩, ⟨by (with_reducible repeat (first | apply Kd.S_alloc | apply Kd.S_drewN | apply Kd.S_drew)); exact Kd.S_mono HQ9.out (fun _ hk => hk)⟩, ⟨by (with_reducible repeat (first | refine blk_drewN ?_ _ | refine blk_drew ?_ | refine blk_alloc ?_ _)); refine blk_far ?_ (Ne.symm NG.out) _; (with_reducible repeat (first | refine blk_drewN ?_ _ | refine blk_drew ?_ | refine blk_alloc ?_ _)); exact BA2.out⟩, ⟨by repeat (first | exact HQ2.out | apply below_alloc | apply pw_below_drewN | apply below_drew1 | refine below_set ?_ GB.out)⟩⟩
              · have hs' := hs
                unfold dom_Front.s at hs'
                rw [if_neg ce] at hs'
                by_cases d1 : 0 ≤ a
                case neg => rw [if_neg d1] at hs'; exact absurd hs' (by simp)
                rw [if_pos d1] at hs'
                by_cases d2 : a < (is.length : Int)
                case neg => rw [if_neg d2] at hs'; exact absurd hs' (by simp)
                rw [if_pos d2] at hs'
                by_cases d3 : b < ((rd_L9 is a).length : Int)
                case neg => rw [if_neg d3] at hs'; exact absurd hs' (by simp)
                rw [if_pos d3] at hs'
                have ht := Option.some.inj hs'
                have ce1 : (a == b) = false := beq_eq_false_iff_ne.mpr ce
                have ce2 : (a != b) = true := bne_iff_ne.mpr ce
                obtain ⟨ad1, A1_, c1_, e1, hx1, hl1, hi1⟩ := at_L9 HI6.out a d1 d2
                cases e1
                have HI7 := Aside0.mk hi1
                clear hi1 hl1 hs hs' ce
                obtain ⟨ad2, e2, hx2⟩ := Kd.at_bool HI7.out b PR.out.1 d3
                cases e2
                rw [ht] at hx2
                have p1 := eq_true d1
                have p2 := eq_true d2
                have p3 := eq_true d3
                have p4 := eq_true PR.out.1
                clear d1 d2 d3 ht
                cases t with
                | true =>
                  simp only [if_true] at H
                  have H' := Aside0.mk H
                  clear H
                  go_wp2
                  go_roundg k2
                  case measure => have := HK2.out; omega
                  case rel => exact ⟨out, wrap64 (b + 1), by first | rfl | (simp; done), H', ⟨by have := HK2.out; omega⟩, ⟨by (with_reducible repeat (first | apply Kd.S_alloc | apply Kd.S_drewN | apply Kd.S_drew)); exact HO.out⟩, ⟨by (with_reducible repeat (first | refine blk_drewN ?_ _ | refine blk_drew ?_ | refine blk_alloc ?_ _)); exact BA.out⟩, ⟨by repeat (first | exact HQ.out | apply below_alloc | apply pw_below_drewN | apply below_drew1)⟩⟩
                | false =>
                  simp only [Bool.false_eq_true, if_false] at H
                  obtain ⟨t2, hc, H⟩ := Option.bind_eq_some_iff.mp H
                  have HC := Aside0.mk hc
                  have HH := Aside0.mk H
                  clear hc H
                  have p5 := eq_true PR.out.2
                  have p6 := eq_true PR.out.1
                  cases t2 with
                  | false =>
                    have H := HH.out
                    simp only [Bool.false_eq_true, if_false] at H
                    have H' := Aside0.mk H
                    clear H HH
                    go_wp2_with (go_at_call 69; ((refine (dom_Front.contains k2 a gis ga _ cis is _ _ (rd_L1 prev b) false _ (by first | exact ZI.out | (simp only [World.cell?_drewN]; exact ZI.out)) (by first | exact ZA.out | (simp only [World.cell?_drewN]; exact ZA.out)) (by repeat (first | exact HI6.out | (with_reducible refine Kd.C_drewN ?_ _) | (with_reducible refine Kd.C_drew ?_))) (by repeat (first | exact HP7.out | (with_reducible refine Kd.C_drewN ?_ _) | (with_reducible refine Kd.C_drew ?_))) HC.out).mono ?_); rintro e wc ⟨rfl, ⟨nd, rfl⟩⟩))
                    go_roundg k2
                    case measure => have := HK2.out; omega
                    case rel => exact ⟨out, wrap64 (b + 1), by first | rfl | (simp; done), H', ⟨by have := HK2.out; omega⟩, ⟨by (with_reducible repeat (first | apply Kd.S_alloc | apply Kd.S_drewN | apply Kd.S_drew)); exact HO.out⟩, ⟨by (with_reducible repeat (first | refine blk_drewN ?_ _ | refine blk_drew ?_ | refine blk_alloc ?_ _)); exact BA.out⟩, ⟨by repeat (first | exact HQ.out | apply below_alloc | apply pw_below_drewN | apply below_drew1)⟩⟩
                  | true =>
                    have H := HH.out
                    simp only [if_true] at H
                    clear HH
                    go_wp2_with (go_at_call 69; ((refine (dom_Front.contains k2 a gis ga _ cis is _ _ (rd_L1 prev b) true _ (by first | exact ZI.out | (simp only [World.cell?_drewN]; exact ZI.out)) (by first | exact ZA.out | (simp only [World.cell?_drewN]; exact ZA.out)) (by repeat (first | exact HI6.out | (with_reducible refine Kd.C_drewN ?_ _) | (with_reducible refine Kd.C_drew ?_))) (by repeat (first | exact HP7.out | (with_reducible refine Kd.C_drewN ?_ _) | (with_reducible refine Kd.C_drew ?_))) HC.out).mono ?_); rintro e wc ⟨rfl, ⟨nd, rfl⟩⟩))
                    by_cases d1 : 0 ≤ a
                    case neg => rw [if_neg d1] at H; exact absurd H (by simp)
                    rw [if_pos d1] at H
                    by_cases d2 : a < (out.length : Int)
                    case neg => rw [if_neg d2] at H; exact absurd H (by simp)
                    rw [if_pos d2] at H
                    by_cases d3 : (rd_L1 out a).length < 17592186044416
                    case neg => rw [if_neg d3] at H; exact absurd H (by simp)
                    rw [if_pos d3] at H
                    have LM := Aside0.mk d3
                    clear d3
                    obtain ⟨row, hrow⟩ : ∃ y : List Int, y = rd_L1 out a ++ [b] := ⟨_, rfl⟩
                    rw [← hrow] at H
                    have NR := Aside0.mk hrow
                    clear hrow
                    obtain ⟨out2, hout2⟩ : ∃ y : List (List Int), y = out.set a.toNat row := ⟨_, rfl⟩
                    rw [← hout2] at H
                    have NO2 := Aside0.mk hout2
                    clear hout2
                    have H' := Aside0.mk H
                    clear H; have HO1 := Aside0.mk (Kd.S_drew (Kd.S_drewN HO.out nd)); have BA1 := Aside0.mk (blk_drew (blk_drewN BA.out nd)); have HQ1 := Aside0.mk (below_drew1 (pw_below_drewN HQ.out nd)); clear HO BA HQ ZI ZA HI6 HP6 HP7 hza hzi
                    have hza := (blk_cell BA1.out 0).trans rfl
                    have d4 : a < (out0.length : Int) := by have e_ := (Kd.S_reads' HO1.out).1; omega
                    obtain ⟨ad6, A6, c6, e6, hx6, hl6, hi6⟩ := at_L1 (Kd.S_reads' HO1.out).2.2 a d1 d2
                    cases e6
                    obtain ⟨ce7, hce7, hMe7, hcc7⟩ := Kd.S_get HO1.out [] a d1 d4
                    obtain ⟨ve7, rfl, ge7⟩ := hMe7
                    have hv7 := hcc7 0 _ rfl
                    rw [Nat.add_zero, show ((Kd.slice 3 (Kd.int .i64))).sz = 1 from rfl, Nat.mul_one] at hv7
                    replace hv7 := Option.some.inj (hv7.symm.trans hx6)
                    rw [hv7] at ge7
                    have HL := Aside0.mk (show Kd.R (Kd.int .i64) 3 _ _ _ _ (rd_L1 out a) from ge7); clear hv7 ge7 hcc7 hce7 hi6 hl6
                    have HX := Aside0.mk hx6
                    obtain ⟨go, co6, eo6, gb6, gl6, cl6, HG6⟩ := Kd.S_form HO1.out (by omega)
                    (first | cases eo6 | (injection eo6 with ea_ en_ ec_; (first | subst ea_ | (injection ea_ with ea_; subst ea_)); subst ec_; clear en_))
                    have GB := Aside0.mk gb6
                    clear gb6 gl6 HG6; have NG := Aside0.mk (show go ≠ ga by obtain ⟨f_, hf_⟩ := HO1.out; exact hf_.1 go rfl)
                    (first | simp only [add_plain] at hx6 | skip)
                    obtain ⟨oki, ce8, hcl8, hM8, hcc8, _, _, hH8⟩ := Kd.S_elem HO1.out [] a d1 d4
                    obtain ⟨ve8, rfl, ge8⟩ := hM8
                    have hv8 := hcc8 0 _ rfl
                    have hX8 := HX.out
                    (try simp only [add_plain] at hX8)
                    (try simp only [Nat.add_zero] at hv8)
                    (try rw [show ((Kd.slice 3 (Kd.int .i64))).sz = 1 from rfl, Nat.mul_one] at hv8)
                    replace hv8 := Option.some.inj (hv8.symm.trans hX8)
                    subst hv8
                    clear hX8 hcc8 hcl8; have UU := Aside0.mk (show Kd.R (Kd.int .i64) 3 _ w9.heap.size oki (.slice A6 (rd_L1 out a).length c6) (rd_L1 out a) from ge8)
                    have HH := Aside0.mk hH8
                    clear hH8 ge8; have D := Aside0.mk (And.intro d1 (And.intro d2 d4))
                    have p1 := eq_true d1
                    have p2 := eq_true d2
                    have p3 := eq_true d4
                    clear d1 d2 d4
                    refine start_ (n := 11) (S := fun w' => w'.cell? ⟨ga, 0, none⟩ = some (.int .i64 a) ∧ w'.cell? ⟨go, a.toNat, none⟩ = some (.slice A6 (rd_L1 out a).length c6)) (ds := [10]) #[false, false, false, false, false, false, false, false, false, false, false] (by kernel_rfl) rfl rfl ⟨hza, hx6⟩ (fun hHeld => ?_); refine with_tabW dom_Front.tab12 dom_Front.bits12 (fun HT_ HW_ => ?_)
                    generalize (wr.drewN nd).drew = w19 at HO1 BA1 HQ1 HH HL HX UU hx6 hza hHeld ⊢
                    refine pure_ (i := 0) (N := some 44) (v := ?_) (a' := ?_) #[true, false, false, false, false, false, false, false, false, false, false] rfl rfl (any_of HT_.out (by kernel_rfl)) (fun _ _ _ h => h) (Or.inl ⟨by rfl, ?_⟩) ?_ ?_
                    rotate_left
                    · intro w'
                      go_simp
                      with_reducible rfl
                    rotate_left
                    · simp only [Act.put, List.setIfInBounds_toArray, List.set_cons_zero, List.set_cons_succ, i64_w, i32_w]; rfl
                    refine pure_ (i := 2) (N := some 46) (v := ?_) (a' := ?_) #[true, false, true, false, false, false, false, false, false, false, false] rfl rfl (any_of HT_.out (by kernel_rfl)) (fun _ _ _ h => h) (Or.inl ⟨by rfl, ?_⟩) ?_ ?_
                    rotate_left
                    · intro w'
                      go_simp
                      with_reducible rfl
                    rotate_left
                    · simp only [Act.put, List.setIfInBounds_toArray, List.set_cons_zero, List.set_cons_succ, i64_w, i32_w]; rfl
                    refine pure_ (i := 6) (N := some 50) (v := ?_) (a' := ?_) #[true, false, true, false, false, false, true, false, false, false, false] rfl rfl (any_of HT_.out (by kernel_rfl)) (fun _ _ _ h => h) (Or.inl ⟨by rfl, ?_⟩) ?_ ?_
                    rotate_left
                    · intro w'
                      go_simp
                      with_reducible rfl
                    rotate_left
                    · simp only [Act.put, List.setIfInBounds_toArray, List.set_cons_zero, List.set_cons_succ, i64_w, i32_w]; rfl
                    refine take_ (i := 1) (N := some 45) (v := ?_) (a' := ?_) #[true, true, true, false, false, false, true, false, false, false, false] rfl rfl (take_ofW HT_.out HW_.out (by kernel_rfl)) (fun _ _ _ h => h) (Or.inl ⟨by rfl, ?_⟩) hHeld ?_ ?_
                    rotate_left
                    · rintro w' ⟨s0, s1⟩
                      go_simp
                      with_reducible rfl
                    rotate_left
                    · simp only [Act.put, List.setIfInBounds_toArray, List.set_cons_zero, List.set_cons_succ, i64_w, i32_w]; rfl
                    refine take_ (i := 3) (N := some 47) (v := ?_) (a' := ?_) #[true, true, true, true, false, false, true, false, false, false, false] rfl rfl (take_ofW HT_.out HW_.out (by kernel_rfl)) (fun _ _ _ h => h) (Or.inl ⟨by rfl, ?_⟩) hHeld ?_ ?_
                    rotate_left
                    · rintro w' ⟨s0, s1⟩
                      go_simp
                      with_reducible rfl
                    rotate_left
                    · simp only [Act.put, List.setIfInBounds_toArray, List.set_cons_zero, List.set_cons_succ, i64_w, i32_w]; rfl
                    refine pure_ (i := 4) (N := some 48) (v := ?_) (a' := ?_) #[true, true, true, true, true, false, true, false, false, false, false] rfl rfl (any_of HT_.out (by kernel_rfl)) (fun _ _ _ h => h) (Or.inl ⟨by rfl, ?_⟩) ?_ ?_
                    rotate_left
                    · intro w'
                      go_simp
                      with_reducible rfl
                    rotate_left
                    · simp only [Act.put, List.setIfInBounds_toArray, List.set_cons_zero, List.set_cons_succ, i64_w, i32_w]; rfl
                    refine take_ (i := 5) (N := some 49) (v := ?_) (a' := ?_) #[true, true, true, true, true, true, true, false, false, false, false] rfl rfl (take_ofW HT_.out HW_.out (by kernel_rfl)) (fun _ _ _ h => h) (Or.inl ⟨by rfl, ?_⟩) hHeld ?_ ?_
                    rotate_left
                    · rintro w' ⟨s0, s1⟩
                      go_simp
                      with_reducible rfl
                    rotate_left
                    · simp only [Act.put, List.setIfInBounds_toArray, List.set_cons_zero, List.set_cons_succ, i64_w, i32_w]; rfl
                    refine one_ (i := 7) (N := some 51) #[true, true, true, true, true, true, true, true, false, false, false] rfl rfl (one_of HT_.out (by kernel_rfl)) (by decide) (fun K hK => ?_)
                    refine value_ (w1 := ?_) (v := ?_) (by rfl) rfl ?_ ?_
                    rotate_left 2
                    · go_simp
                      constructor
                      · rfl
                      · rfl
                    refine hK.out _ _ ⟨(World.cell?_alloc_lt _ _ _ (World.block_lt_of_cell? _ _ (hHeld.1))).trans (hHeld.1), (World.cell?_alloc_lt _ _ _ (World.block_lt_of_cell? _ _ (hHeld.2))).trans (hHeld.2)⟩ (fun hHeld => ?_)
                    clear hK K; refine norm_ (a' := ?_) ?_ ?_; rotate_left
                    · show Act.put _ (some 51) _ = _; simp only [Act.put, List.setIfInBounds_toArray, List.set_cons_zero, List.set_cons_succ, i64_w, i32_w]; rfl
                    refine one_ (i := 8) (N := some 52) #[true, true, true, true, true, true, true, true, true, false, false] rfl rfl (one_of HT_.out (by kernel_rfl)) (by decide) (fun K hK => ?_)
                    refine Kd.R_append_step (Kd.int .i64) (w0 := w9) w9.heap.size (by rfl) (.tmp 49) (.tmp 51) 22 3 (.int .i64 0) 8 rfl Try.underlying22 info3 rfl (by decide) (by omega) (.slice A6 (rd_L1 out a).length c6) (rd_L1 out a) b [.int .i64 b] (fun k_ => oki k_ ∨ (k_ ≠ ga ∧ w19.heap.size ≤ k_)) (fun _ => False) rfl rfl ?aP (fun _ hk => hk.elim) ?aF ?aO ?aB ?aS ?aL ?_
                    (case aP => exact rfl)
                    (case aB => exact (by repeat (first | exact HQ1.out | apply below_alloc | apply pw_below_drewN | apply below_drew1)))
                    (case aF => exact (fun k_ hk => .inr ⟨by have h1_ := blk_lt BA1.out; omega, hk⟩))
                    (case aO => exact (by (with_reducible repeat (first | apply Kd.R_alloc | apply Kd.R_drewN | apply Kd.R_drew)); exact Kd.R_mono UU.out (fun _ hk => .inl hk)))
                    (case aS => exact (below_size (by repeat (first | exact HQ1.out | apply below_alloc | apply pw_below_drewN | apply below_drew1))))
                    (case aL => have := LM.out; omega)
                    intro v52 w22 ho hb hg hat
                    have HS0_ := cell_grown hg (cell_unalloc (hHeld.1) (blk_lt BA1.out)) (fun e_ => ((HL.out.1 _ e_.symm).1) rfl)
                    have HS1_ := cell_grown hg (cell_unalloc (hHeld.2) (Kd.S_lt HO1.out _ rfl)) (fun e_ => ((HL.out.1 _ e_.symm).2) rfl)
                    rw [← NR.out] at ho
                    have BA2 := Aside0.mk (blk_grown (g := ga) (o := .cells #[.int .i64 a] 3 (0, 0)) (by (with_reducible repeat (first | refine blk_drewN ?_ _ | refine blk_drew ?_ | refine blk_alloc ?_ _)); exact BA1.out) hg (fun e_ => ((HL.out.1 _ e_.symm).1) rfl)); have HQ2 := Aside0.mk (hb); have HH2 := Aside0.mk (Kd.H_grown (Kd.H_widen (by repeat (first | exact HH.out | refine Kd.H_alloc ?_ _ | refine Kd.H_drewN ?_ _ | refine Kd.H_drew ?_))) hg (fun k_ e_ => .inl (UU.out.1 k_ e_))); have HO2 := Aside0.mk (ho); clear ho hb hg hat HH UU HL HO1 BA1 HQ1
                    obtain ⟨A9, c9, eo9⟩ := Kd.R_slice HO2.out
                    (first | subst eo9 | (injection eo9 with f1_ f2_ f3_; have f4_ := f1_.symm; have f5_ := f3_.symm; clear f1_ f2_ f3_; subst f4_; subst f5_))
                    obtain ⟨_, _, hraw, _, _, hcc9, _⟩ := Kd.H_raw HH2.out D.out.1 D.out.2.2
                    obtain ⟨_, hfr9⟩ := Kd.H_at HH2.out D.out.1 D.out.2.2
                    have hx9 := hcc9 0 _ rfl
                    have hf9 := hfr9 0
                    (try simp only [Nat.add_zero] at hx9 hf9)
                    (try rw [show ((Kd.slice 3 (Kd.int .i64))).sz = 1 from rfl, Nat.mul_one] at hx9)
                    (try rw [show ((Kd.slice 3 (Kd.int .i64))).sz = 1 from rfl, Nat.mul_one] at hf9)
                    have HP9 := Kd.S_seg0 HH2.out D.out.1 D.out.2.2 (seg := [.slice A9 row.length c9]) (j := 0) (show 1 ≤ 1 from by decide) (x' := row) (Kd.M_row HO2.out) (fun _ hk => hk)
                    (try simp only [show ((Kd.slice 3 (Kd.int .i64))).sz = 1 from rfl, Nat.mul_one, Nat.add_zero] at HP9)
                    clear hcc9 hfr9
                    have HS9 := HP9.1
                    rw [← NO2.out] at HS9
                    have HQ9 := Aside0.mk HS9
                    clear HP9 HS9
                    refine hK.out _ _ ⟨HS0_, HS1_⟩ (fun hHeld => ?_)
                    clear hK K; refine norm_ (a' := ?_) ?_ ?_; rotate_left
                    · show Act.put _ (some 52) _ = _; simp only [Act.put, List.setIfInBounds_toArray, List.set_cons_zero, List.set_cons_succ, i64_w, i32_w]; rfl
                    refine pure_ (i := 9) (N := some 53) (v := ?_) (a' := ?_) #[true, true, true, true, true, true, true, true, true, true, false] rfl rfl (any_of HT_.out (by kernel_rfl)) (fun _ _ _ h => h) (Or.inl ⟨by rfl, ?_⟩) ?_ ?_
                    rotate_left
                    · intro w'
                      go_simp
                      with_reducible rfl
                    rotate_left
                    · simp only [Act.put, List.setIfInBounds_toArray, List.set_cons_zero, List.set_cons_succ, i64_w, i32_w]; rfl
                    refine last_ (i := 10) (N := none) #[true, true, true, true, true, true, true, true, true, true, true] rfl rfl (one_of HT_.out (by kernel_rfl)) (by decide) (fun K hK => ?_)
                    refine skip_ (w1 := ?_) (by rfl) rfl ?_ ?_
                    rotate_left
                    · go_simp
                      rfl
                    refine hK.out _ _ ?_
                    clear hK K
                    refine done_ (done_of HT_.out (by kernel_rfl)) ?_
                    try go_wp2
                    go_roundg k2
                    case measure => have := HK2.out; omega
                    case rel => exact ⟨out2, (wrap64 (b + 1)), (by first | rfl | (simp; done) | (simp [*]; done)), H', ⟨by have := HK2.out; omega⟩, ⟨by (with_reducible repeat (first | apply Kd.S_alloc | apply Kd.S_drewN | apply Kd.S_drew)); exact Kd.S_mono HQ9.out (fun _ hk => hk)⟩, ⟨by (with_reducible repeat (first | refine blk_drewN ?_ _ | refine blk_drew ?_ | refine blk_alloc ?_ _)); refine blk_far ?_ (Ne.symm NG.out) _; (with_reducible repeat (first | refine blk_drewN ?_ _ | refine blk_drew ?_ | refine blk_alloc ?_ _)); exact BA2.out⟩, ⟨by repeat (first | exact HQ2.out | apply below_alloc | apply pw_below_drewN | apply below_drew1 | refine below_set ?_ GB.out)⟩⟩
            · rw [if_neg c2] at H
              have c2b : decide (b < (prev.length : Int)) = false := decide_eq_false c2
              clear c2
              have H' := Aside0.mk H
              clear H
              go_wp2
              go_roundg k2
              case measure => have := HK1.out; have := HK2.out; omega
              case rel => exact ⟨out, wrap64 (a + 1), by first | rfl | (simp; done), H', ⟨by have := HK1.out; have := HK2.out; omega⟩, ⟨Kd.S_mono (by (with_reducible repeat (first | apply Kd.S_alloc | apply Kd.S_drewN | apply Kd.S_drew)); exact HO.out) (fun _ _ => trivial)⟩, ⟨by repeat (first | exact HQ.out | apply below_alloc | apply pw_below_drewN | apply below_drew1)⟩⟩
      · rw [if_neg c1] at H
        have c1b : decide (a < (out0.length : Int)) = false := decide_eq_false c1
        clear c1
        obtain rfl := Option.some.inj H
        go_wp2
        go_ret
        exact ⟨_, rfl, Kd.S_lower (by (with_reducible repeat (first | apply Kd.S_alloc | apply Kd.S_drewN | apply Kd.S_drew)); exact HO.out) HB5.out.size, below_then HB5.out HB5.out.size (by repeat (first | exact HQ.out | apply below_alloc | apply pw_below_drewN | apply below_drew1))⟩
end Go.Proofs.Ytkcimaibaicdcaa.P
