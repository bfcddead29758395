/- A part of the proof of the law of DomWays: lemmas and walks, out of this session's texts, with what the claim does not use struck out. -/
import Derived.Test.YtkcimaibaicdcaaD6
import Derived.Test.YtkcimaibaicdcaaD11
section
namespace Go.Proofs.Ytkcimaibaicdcaa.P
open Go.RowKit Go.Proofs.YtkcimaibaicdcaaW.PrintWords Go.Proofs.YtkcimaibaicdcaaW.PrintLast Go.Proofs.YtkcimaibaicdcaaW.PrintMore
attribute [local go_sem] max2_int min2_int max_two min_two max_three min_three max_four min_four   
set_option linter.unusedVariables false
set_option linter.unusedSimpArgs false
mutual
def flow_visit.l0 : Nat → ByteArray → Bool → List Int → Int → List S54 → Int → List Int → Int → List Int → List Int → Bool → Option (List Int × List Int × Bool)
  | 0, _, _, _, _, _, _, _, _, _, _, _ => none
  | k + 1, a0, a1, l2, a3, l4, b, x, i, ls, lo, lp =>
    if i < (x.length : Int) then (if 0 ≤ i then (if 0 ≤ rd x i then (if rd x i < (ls.length : Int) then
      (if rd ls (rd x i) = 0 then ((flow_visit.f k a0 a1 l2 a3 l4 (rd x i) ls lo lp).bind fun r => flow_visit.l0 k a0 a1 l2 a3 l4 b x (wrap64 (i + 1)) r.1 r.2.1 r.2.2)
       else flow_visit.l0 k a0 a1 l2 a3 l4 b x (wrap64 (i + 1)) ls lo (if rd ls (rd x i) = 1 then true else lp))
      else none) else none) else none)
    else (if 0 ≤ b then (if b < (ls.length : Int) then (if lo.length < 17592186044416 then some (ls.set b.toNat 2, lo ++ [b], lp) else none) else none) else none)
def flow_visit.f : Nat → ByteArray → Bool → List Int → Int → List S54 → Int → List Int → List Int → Bool → Option (List Int × List Int × Bool)
 | 0, _, _, _, _, _, _, _, _, _ => none
 | k + 1, a0, a1, l2, a3, l4, b, ls, lo, lp =>
  if 0 ≤ b then (if b < (ls.length : Int) then ((flow_Next.f k a0 a1 l2 a3 l4 b).bind fun x => flow_visit.l0 k a0 a1 l2 a3 l4 b x 0 (ls.set b.toNat 1) lo lp) else none) else none
end
def WalkAt (a0 : ByteArray) (a1 : Bool) (A2 : Option Addr) (c2 : Nat) (l2 : List Int) (a3 : Int) (A4 : Option Addr) (c4 : Nat) (l4 : List S54) (w0 w : World) (g : Nat) (vs vo : Value) (ls lo : List Int) (lp : Bool) : Prop :=
 Below w0.heap.size w0 w ∧ w0.heap.size ≤ g ∧ w.heap[g]? = some (.cells #[.string a0, .bool a1, .slice A2 l2.length c2, .int .i64 a3, .slice A4 l4.length c4, vs, vo, .bool lp] 90 (0, 0)) ∧
  Kd.R (Kd.int .i64) 3 w w0.heap.size (fun k => some k ≠ vo.ownBlock) vs ls ∧ Kd.R (Kd.int .i64) 3 w w0.heap.size (fun k => some k ≠ vs.ownBlock) vo lo
def WalkS (g : Nat) (vs vo : Value) (k : Nat) : Prop := k = g ∨ some k = vs.ownBlock ∨ some k = vo.ownBlock
section
variable {a0 : ByteArray} {a1 : Bool} {A2 : Option Addr} {c2 : Nat} {l2 : List Int} {a3 : Int} {A4 : Option Addr} {c4 : Nat} {l4 : List S54} {w0 w w1 : World} {g : Nat} {vs vo vo' : Value} {ls lo lo' : List Int} {lp : Bool}
theorem WalkAt.below (h : WalkAt a0 a1 A2 c2 l2 a3 A4 c4 l4 w0 w g vs vo ls lo lp) (hb : Below w.heap.size w w1) : WalkAt a0 a1 A2 c2 l2 a3 A4 c4 l4 w0 w1 g vs vo ls lo lp :=
 ⟨below_step h.1 hb, h.2.1, blk_below h.2.2.1 hb, Kd.R_below h.2.2.2.1 hb, Kd.R_below h.2.2.2.2 hb⟩
theorem WalkAt.gs (h : WalkAt a0 a1 A2 c2 l2 a3 A4 c4 l4 w0 w g vs vo ls lo lp) : some g ≠ vs.ownBlock := Kd.R_ne h.2.2.2.1 h.2.2.1 (by decide)
theorem WalkAt.go (h : WalkAt a0 a1 A2 c2 l2 a3 A4 c4 l4 w0 w g vs vo ls lo lp) : some g ≠ vo.ownBlock := Kd.R_ne h.2.2.2.2 h.2.2.1 (by decide)
theorem WalkAt.base (h : WalkAt a0 a1 A2 c2 l2 a3 A4 c4 l4 w0 w g vs vo ls lo lp) (k : Nat) (hk : WalkS g vs vo k) : w0.heap.size ≤ k := by
 rcases hk with rfl | hk | hk
 ·exact h.2.1
 ·exact Kd.R_base h.2.2.2.1 k hk.symm
 ·exact Kd.R_base h.2.2.2.2 k hk.symm
theorem WalkAt.lt (h : WalkAt a0 a1 A2 c2 l2 a3 A4 c4 l4 w0 w g vs vo ls lo lp) (k : Nat) (hk : WalkS g vs vo k) : k < w.heap.size := by
 rcases hk with rfl | hk | hk
 ·exact blk_lt h.2.2.1
 ·exact Kd.R_lt h.2.2.2.1 k hk.symm
 ·exact Kd.R_lt h.2.2.2.2 k hk.symm
theorem WalkAt.put {gs n cap : Nat} (h : WalkAt a0 a1 A2 c2 l2 a3 A4 c4 l4 w0 w g (.slice (some ⟨gs, 0, none⟩) n cap) vo ls lo lp) (i x : Int) :
  WalkAt a0 a1 A2 c2 l2 a3 A4 c4 l4 w0 (w.setCell ⟨gs, i.toNat, none⟩ (.int .i64 x)) g (.slice (some ⟨gs, 0, none⟩) n cap) vo (ls.set i.toNat x) lo lp ∧ Kept w (w.setCell ⟨gs, i.toNat, none⟩ (.int .i64 x)) (WalkS g (.slice (some ⟨gs, 0, none⟩) n cap) vo) := by
 have hp := Kd.R_putg h.2.2.2.1 i x
 have hgs : gs ≠ g := fun e => h.gs (by rw [e]; rfl)
 refine ⟨⟨below_set h.1 (Kd.R_base h.2.2.2.1 gs rfl), h.2.1, blk_far h.2.2.1 (Ne.symm hgs) _, hp.1, Kd.R_far (p := ⟨gs, i.toNat, none⟩) (Kd.R_mono h.2.2.2.2 (fun k hk => ⟨hk, fun e => hk (by rw [e]; rfl)⟩) : Kd.R _ _ _ _ (fun k => some k ≠ (Value.slice (some ⟨gs, 0, none⟩) n cap).ownBlock ∧ k ≠ gs) _ _) (fun _ hk => hk.2) _ |> fun z => Kd.R_mono z (fun _ hk => hk.1)⟩, ?_⟩
 exact Kept.setCell (Kept.refl _ _) (p := ⟨gs, i.toNat, none⟩) (.inl (.inr (.inl rfl))) _
theorem WalkAt.flag (h : WalkAt a0 a1 A2 c2 l2 a3 A4 c4 l4 w0 w g vs vo ls lo lp) (b : Bool) :
  WalkAt a0 a1 A2 c2 l2 a3 A4 c4 l4 w0 (w.setCell ⟨g, 7, none⟩ (.bool b)) g vs vo ls lo b ∧ Kept w (w.setCell ⟨g, 7, none⟩ (.bool b)) (WalkS g vs vo) := by
 refine ⟨⟨below_set h.1 h.2.1, h.2.1, blk_put h.2.2.1 7 _ rfl, Kd.R_set h.2.2.2.1 h.2.2.1 (by decide) 7 _, Kd.R_set h.2.2.2.2 h.2.2.1 (by decide) 7 _⟩, ?_⟩
 exact Kept.setCell (Kept.refl _ _) (p := ⟨g, 7, none⟩) (.inl (.inl rfl)) _
theorem WalkAt.append (h : WalkAt a0 a1 A2 c2 l2 a3 A4 c4 l4 w0 w g vs vo ls lo lp) (ho : Kd.R (Kd.int .i64) 3 w1 w0.heap.size (fun k => some k ≠ vs.ownBlock) vo' lo')
  (hb : Below w0.heap.size w0 w1) (hg : w.grownBy w1 vo.ownBlock) (hat : vo'.ownBlock = vo.ownBlock ∨ ∃ b, vo'.ownBlock = some b ∧ w.heap.size ≤ b) :
  WalkAt a0 a1 A2 c2 l2 a3 A4 c4 l4 w0 (w1.setCell ⟨g, 6, none⟩ vo') g vs vo' ls lo' lp ∧ Kept w (w1.setCell ⟨g, 6, none⟩ vo') (WalkS g vs vo) ∧ (∀ k, vo'.ownBlock = some k → vo.ownBlock = some k ∨ w.heap.size ≤ k) := by
 have hk1 : w1.heap[g]? = some (.cells #[.string a0, .bool a1, .slice A2 l2.length c2, .int .i64 a3, .slice A4 l4.length c4, vs, vo, .bool lp] 90 (0, 0)) := blk_grown h.2.2.1 hg h.go
 have hs1 : Kd.R (Kd.int .i64) 3 w1 w0.heap.size (fun k => some k ≠ vo'.ownBlock) vs ls :=
  Kd.R_mono (Kd.R_after (ok := fun _ => True) (Kd.R_mono h.2.2.2.1 (fun k hk => ⟨trivial, hk⟩)) hg hat) (fun _ hk => hk.2)
 refine ⟨⟨below_set hb h.2.1, h.2.1, blk_put hk1 6 _ rfl, Kd.R_set hs1 hk1 (by decide) 6 _, Kd.R_set ho hk1 (by decide) 6 _⟩, ?_, fun k hk => ?_⟩
 ·exact Kept.setCell (Kept.of_grown hg (Kept.refl _ _) (fun k hk => .inl (.inr (.inr hk.symm)))) (p := ⟨g, 6, none⟩) (.inl (.inl rfl)) _
 ·rcases hat with e | ⟨b, e, hle⟩
  ·exact .inl (e.symm.trans hk)
  ·rw [e] at hk
   injection hk with hk
   exact .inr (by omega)
end
section
variable {w w1 w2 : World} {g : Nat} {vs vo vo' vo2 : Value}
theorem walk_kept (h : Kept w w1 (WalkS g vs vo)) (h2 : Kept w1 w2 (WalkS g vs vo')) (hv : ∀ k, vo'.ownBlock = some k → vo.ownBlock = some k ∨ w.heap.size ≤ k) : Kept w w2 (WalkS g vs vo) :=
 h.then_ h2 (fun k hk => by
  rcases hk with rfl | hk | hk
  ·exact .inl (.inl rfl)
  ·exact .inl (.inr (.inl hk))
  ·exact (hv k hk.symm).imp (fun e => .inr (.inr e.symm)) id)
theorem walk_loc {S : Nat → Prop} (h : Kept w w1 S) (hv : ∀ k, vo'.ownBlock = some k → vo.ownBlock = some k ∨ w.heap.size ≤ k) (h2 : ∀ k, vo2.ownBlock = some k → vo'.ownBlock = some k ∨ w1.heap.size ≤ k) :
  ∀ k, vo2.ownBlock = some k → vo.ownBlock = some k ∨ w.heap.size ≤ k := fun k hk => (h2 k hk).elim (hv k) (fun hle => .inr (Nat.le_trans h.1 hle))
theorem walk_row {base : Nat} {v : Value} {xs : List Int} (h : Kd.R (Kd.int .i64) 3 w1 base (fun k => ¬ WalkS g vs vo' k) v xs) (h2 : Kept w1 w2 (WalkS g vs vo')) (hv : ∀ k, vo2.ownBlock = some k → vo'.ownBlock = some k ∨ w1.heap.size ≤ k) :
  Kd.R (Kd.int .i64) 3 w2 base (fun k => ¬ WalkS g vs vo2 k) v xs :=
 Kd.R_mono (Kd.R_keptB h h2 (fun _ hk => hk)) (fun k hk hs => by
  obtain ⟨h0, _, hlt⟩ := hk
  rcases hs with rfl | hs | hs
  ·exact h0 (.inl rfl)
  ·exact h0 (.inr (.inl hs))
  ·rcases hv k hs.symm with e | hle
   ·exact h0 (.inr (.inr e.symm))
   ·omega)
end
theorem flow_visit.mono_l : ∀ k, (∀ y0 y1 y2 y3 y4 y5 y6 y7 y8, LeO (flow_visit.f k y0 y1 y2 y3 y4 y5 y6 y7 y8) (flow_visit.f (k + 1) y0 y1 y2 y3 y4 y5 y6 y7 y8)) ∧ (∀ y0 y1 y2 y3 y4 y5 y6 y7 y8 y9 y10, LeO (flow_visit.l0 k y0 y1 y2 y3 y4 y5 y6 y7 y8 y9 y10) (flow_visit.l0 (k + 1) y0 y1 y2 y3 y4 y5 y6 y7 y8 y9 y10))
 | 0 => ⟨fun _ _ _ _ _ _ _ _ _ r h => by simp [flow_visit.f] at h, fun _ _ _ _ _ _ _ _ _ _ _ r h => by simp [flow_visit.l0] at h⟩
 | k + 1 => by
  obtain ⟨ih0, ih1⟩ := flow_visit.mono_l k
  refine ⟨?_, ?_⟩
  ·intro y0 y1 y2 y3 y4 y5 y6 y7 y8
   unfold flow_visit.f
   repeat' first
   | (with_reducible exact ih1 _ _ _ _ _ _ _ _ _ _ _)
   | (with_reducible exact flow_Next.mono _ _ _ _ _ _ _)
   | (with_reducible exact LeO.refl _)
   | (with_reducible refine LeO.ite ?_ ?_)
   | (with_reducible refine LeO.bind ?_ (fun _ => ?_))
  ·intro y0 y1 y2 y3 y4 y5 y6 y7 y8 y9 y10
   unfold flow_visit.l0
   repeat' first
   | (with_reducible exact ih0 _ _ _ _ _ _ _ _ _)
   | (with_reducible exact ih1 _ _ _ _ _ _ _ _ _ _ _)
   | (with_reducible exact LeO.refl _)
   | (with_reducible refine LeO.ite ?_ ?_)
   | (with_reducible refine LeO.bind ?_ (fun _ => ?_))
theorem flow_visit.mono : ∀ y0 y1 y2 y3 y4 y5 y6 y7 y8 k, LeO (flow_visit.f k y0 y1 y2 y3 y4 y5 y6 y7 y8) (flow_visit.f (k + 1) y0 y1 y2 y3 y4 y5 y6 y7 y8) := fun y0 y1 y2 y3 y4 y5 y6 y7 y8 k => (flow_visit.mono_l k).1 y0 y1 y2 y3 y4 y5 y6 y7 y8
set_option maxHeartbeats 8000000 in
set_option maxRecDepth 100000 in
theorem flow_visit.calls (k : Nat) : ∀ (a0 : ByteArray) (a1 : Bool) (A2 : Option Addr) (c2 : Nat) (l2 : List Int) (a3 : Int) (A4 : Option Addr) (c4 : Nat) (l4 : List S54) (b : Int) (g : Nat) (vs vo : Value) (ls lo : List Int) (lp : Bool) (rs ro : List Int) (rp : Bool) (w0 w : World)
    (hW : WalkAt a0 a1 A2 c2 l2 a3 A4 c4 l4 w0 w g vs vo ls lo lp) (hr2 : Kd.C (Kd.int .i64) w0 A2 l2.length l2) (hc2 : l2.length ≤ c2) (hr4 : Kd.C k54 w0 A4 l4.length l4) (hc4 : l4.length ≤ c4)
    (h : flow_visit.f k a0 a1 l2 a3 l4 b ls lo lp = some (rs, ro, rp)),
    Calls Try.prog 97 #[.pointer (some ⟨g, 0, none⟩), .int .i64 b] w fun e w' => ∃ vo' : Value, e = .returned (.tuple #[]) ∧ WalkAt a0 a1 A2 c2 l2 a3 A4 c4 l4 w0 w' g vs vo' rs ro rp ∧ Kept w w' (WalkS g vs vo) ∧ (∀ k, vo'.ownBlock = some k → vo.ownBlock = some k ∨ w.heap.size ≤ k) := by
  induction k using Nat.strongRecOn with
  | _ k ih =>
  intro a0 a1 A2 c2 l2 a3 A4 c4 l4 b g vs vo ls lo lp rs ro rp w0 w hW hr2 hc2 hr4 hc4 h
  cases k with
  | zero => exact absurd h (by simp [flow_visit.f])
  | succ k =>
  simp only [flow_visit.f] at h
  by_cases c1 : 0 ≤ b
  case neg => rw [if_neg c1] at h; exact absurd h (by simp)
  rw [if_pos c1] at h
  by_cases c3 : b < (ls.length : Int)
  case neg => rw [if_neg c3] at h; exact absurd h (by simp)
  rw [if_pos c3] at h
  obtain ⟨x, hx, h⟩ := Option.bind_eq_some_iff.mp h
  obtain ⟨gs, cs, rfl, _, _, _⟩ := Kd.R_form hW.2.2.2.1 (by omega)
  have HX := Aside0.mk hx
  have H := Aside0.mk h
  have HW := Aside0.mk hW
  have HR2 := Aside0.mk hr2
  have HC2 := Aside0.mk hc2
  have HR4 := Aside0.mk hr4
  have HC4 := Aside0.mk hc4
  obtain ⟨sx, sf⟩ := Kd.R_celln 0 hW.2.2.2.1 b c1 c3
  have z5 : w.cell? ⟨g, 5, none⟩ = some (.slice (some ⟨gs, 0, none⟩) ls.length cs) := (blk_cell hW.2.2.1 5).trans rfl
  clear hx h hr2 hc2 hr4 hc4 hW
  have c1b : decide (0 ≤ b) = true := decide_eq_true c1
  have c3b : decide (b < (ls.length : Int)) = true := decide_eq_true c3
  have hu25 := Try.underlying25
  go_enter Try.func97, Try.ntmps97
  go_wp2_with (first
    | ((with_reducible refine gate_store (t := 3) (p := 11) rfl ?_); refine store_event (t := 3) (p := 11) (v := ?vo_) (w1 := (w.setCell ⟨gs, b.toNat, none⟩ (.int .i64 1))) ?hg ?ho ?hn ?hr ?_; (case ho => rfl); (case hg => rfl); (case hn => rfl); (case hr => first | (go_simp; done) | (go_simp; rfl)); intro w1 hw
       have hp := HW.out.put b 1
       rw [← hw] at hp
       have HW1 := Aside0.mk hp.1
       have HK1 := Aside0.mk hp.2
       clear hp hw sx sf z5
       have z0 : w1.cell? ⟨g, 0, none⟩ = some (.string a0) := (blk_cell HW1.out.2.2.1 0).trans rfl
       have z1 : w1.cell? ⟨g, 1, none⟩ = some (.bool a1) := (blk_cell HW1.out.2.2.1 1).trans rfl
       have z2 : w1.cell? ⟨g, 2, none⟩ = some (.slice A2 l2.length c2) := (blk_cell HW1.out.2.2.1 2).trans rfl
       have z3 : w1.cell? ⟨g, 3, none⟩ = some (.int .i64 a3) := (blk_cell HW1.out.2.2.1 3).trans rfl
       have z4 : w1.cell? ⟨g, 4, none⟩ = some (.slice A4 l4.length c4) := (blk_cell HW1.out.2.2.1 4).trans rfl)
    | ((with_reducible refine gate_callee (f := 19) rfl ?_); refine goesL_ (some 17) rfl rfl Try.func19 (by kernel_rfl) rfl #[.agg #[.string a0, .bool a1, .slice A2 l2.length c2, .int .i64 a3, .slice A4 l4.length c4], .int .i64 b] rfl (by (try simp only [List.map_toArray, List.map_cons, List.map_nil]); rfl) ?_
       have hs2 := Kd.C_below HR2.out HW1.out.1
       have hs4 := Kd.C_below HR4.out HW1.out.1
       (with_reducible refine (flow_Next.calls k a0 a1 _ _ l2 a3 _ _ l4 b x _ hs2 HC2.out hs4 HC4.out HX.out).mono ?_)
       clear hs2 hs4
       rintro e w2 ⟨v0, rfl, hn, hb⟩
       obtain ⟨An, cn, rfl⟩ := Kd.R_slice hn
       refine ⟨_, rfl, ?_⟩
       have HN := Aside0.mk (Kd.R_mono (ok' := fun k => ¬ WalkS g (.slice (some ⟨gs, 0, none⟩) ls.length cs) vo k) (Kd.R_bound hn) (fun k hk hs => by have := HW1.out.lt k hs; have := hk.2.1; omega)); have HW2 := Aside0.mk (HW1.out.below hb); have HK2 := Aside0.mk (Kept.below HK1.out hb)
       have hle : Aside0 (w.heap.size ≤ w1.heap.size) := ⟨HK1.out.1⟩
       clear hn hb z0 z1 z2 z3 z4 HW1 HK1))
  go_loopg [19] k (fun kq v19 w' => ∃ (i : Int) (vo' : Value) (ls' lo' : List Int) (lp' : Bool), v19 = .int .i64 i ∧ Aside0 (flow_visit.l0 kq a0 a1 l2 a3 l4 b x i ls' lo' lp' = some (rs, ro, rp)) ∧ Aside0 (kq ≤ k) ∧
    Aside0 (WalkAt a0 a1 A2 c2 l2 a3 A4 c4 l4 w0 w' g (.slice (some ⟨gs, 0, none⟩) ls.length cs) vo' ls' lo' lp') ∧ Aside0 (Kept w w' (WalkS g (.slice (some ⟨gs, 0, none⟩) ls.length cs) vo)) ∧
    Aside0 (∀ k, vo'.ownBlock = some k → vo.ownBlock = some k ∨ w.heap.size ≤ k) ∧
    Aside0 (Kd.R (Kd.int .i64) 3 w' w1.heap.size (fun k => ¬ WalkS g (.slice (some ⟨gs, 0, none⟩) ls.length cs) vo' k) (.slice An x.length cn) x))
  case atStart => exact ⟨0, vo, _, lo, lp, rfl, H, ⟨Nat.le_refl _⟩, HW2, HK2, ⟨fun k hk => .inl hk⟩, HN⟩
  case round =>
    clear H HX HW2 HK2 HN c1b c3b
    obtain ⟨i, vo', ls', lo', lp', rfl, HA, HK, HWr, HKr, HVr, HNr⟩ := hrel
    have HLen := Aside0.mk (Kd.R_reads' HWr.out.2.2.2.1).1
    cases gk with
    | zero => exact absurd HA.out (by simp [flow_visit.l0])
    | succ k1 =>
      have H := HA.out
      clear HA
      simp only [flow_visit.l0] at H
      have z5 : wr.cell? ⟨g, 5, none⟩ = some (.slice (some ⟨gs, 0, none⟩) ls.length cs) := (blk_cell HWr.out.2.2.1 5).trans rfl
      by_cases d1 : i < (x.length : Int)
      · rw [if_pos d1] at H
        by_cases d2 : 0 ≤ i
        case neg => rw [if_neg d2] at H; exact absurd H (by simp)
        rw [if_pos d2] at H
        obtain ⟨ad, rfl, hx⟩ := Kd.at_int (Kd.R_reads' HNr.out).2.2 i d2 d1
        generalize rd x i = tg at H hx
        by_cases d3 : 0 ≤ tg
        case neg => rw [if_neg d3] at H; exact absurd H (by simp)
        rw [if_pos d3] at H
        by_cases d4 : tg < (ls'.length : Int)
        case neg => rw [if_neg d4] at H; exact absurd H (by simp)
        rw [if_pos d4] at H
        have d4' : tg < (ls.length : Int) := by have := HLen.out; omega
        obtain ⟨sx, _⟩ := Kd.R_celln 0 HWr.out.2.2.2.1 tg d3 d4'
        have sx' : wr.cell? ⟨gs, tg.toNat, none⟩ = some (.int .i64 (rd ls' tg)) := sx
        clear sx
        generalize rd ls' tg = st at H sx'
        have d1b : decide (i < (x.length : Int)) = true := decide_eq_true d1
        have d2b : decide (0 ≤ i) = true := decide_eq_true d2
        have d3b : decide (0 ≤ tg) = true := decide_eq_true d3
        have d4b : decide (tg < (ls.length : Int)) = true := decide_eq_true d4'
        clear d4
        by_cases d5 : st = 0
        · subst d5
          rw [if_pos rfl] at H
          obtain ⟨r, hr, H⟩ := Option.bind_eq_some_iff.mp H
          obtain ⟨r1, r2, r3⟩ := r
          have HR := Aside0.mk hr
          have H' := Aside0.mk H
          clear hr H
          go_wp2_with (
            (with_reducible refine gate_callee (f := 97) rfl ?_); refine goesL_ (some 34) rfl rfl Try.func97 (by kernel_rfl) rfl #[.pointer (some ⟨g, 0, none⟩), .int .i64 tg] rfl (by (try simp only [List.map_toArray, List.map_cons, List.map_nil]); rfl) ?_
            (with_reducible refine (ih k1 (by have := HK.out; omega) a0 a1 A2 c2 l2 a3 A4 c4 l4 tg g _ vo' ls' lo' lp' r1 r2 r3 w0 _ HWr.out HR2.out HC2.out HR4.out HC4.out HR.out).mono ?_)
            rintro e w3 ⟨vo2, rfl, hW3, hK3, hV3⟩
            refine ⟨_, rfl, ?_⟩
            have HW3 := Aside0.mk hW3
            have HK3 := Aside0.mk hK3
            have HV3 := Aside0.mk hV3
            clear hW3 hK3 hV3 z5 hx sx')
          go_roundg k1
          case measure => have := HK.out; omega
          case rel => exact ⟨_, vo2, r1, r2, r3, rfl, H', ⟨by have := HK.out; omega⟩, HW3, ⟨walk_kept HKr.out HK3.out HVr.out⟩, ⟨walk_loc HKr.out HVr.out HV3.out⟩, ⟨walk_row HNr.out HK3.out HV3.out⟩⟩
        · rw [if_neg d5] at H
          have d5b : (st == 0) = false := beq_eq_false_iff_ne.mpr d5
          by_cases d6 : st = 1
          · subst d6
            rw [if_pos rfl] at H
            have H' := Aside0.mk H
            clear H
            have z7 : wr.cell? ⟨g, 7, none⟩ = some (.bool lp') := (blk_cell HWr.out.2.2.1 7).trans rfl
            have f7 := blk_frozen HWr.out.2.2.1 7
            have hp := Aside0.mk (HWr.out.flag true)
            go_wp2
            go_roundg k1
            case measure => have := HK.out; omega
            case rel => exact ⟨_, vo', ls', lo', true, rfl, H', ⟨by have := HK.out; omega⟩, ⟨hp.out.1⟩, ⟨walk_kept HKr.out hp.out.2 HVr.out⟩, HVr, ⟨walk_row HNr.out hp.out.2 (fun k hk => .inl hk)⟩⟩
          · rw [if_neg d6] at H
            have d6b : (st == 1) = false := beq_eq_false_iff_ne.mpr d6
            have H' := Aside0.mk H
            clear H d5 d6
            go_wp2
            go_roundg k1
            case measure => have := HK.out; omega
            case rel => exact ⟨_, vo', ls', lo', lp', rfl, H', ⟨by have := HK.out; omega⟩, HWr, HKr, HVr, HNr⟩
      · rw [if_neg d1, if_pos c1] at H
        by_cases d3 : b < (ls'.length : Int)
        case neg => rw [if_neg d3] at H; exact absurd H (by simp)
        rw [if_pos d3] at H
        by_cases d4 : lo'.length < 17592186044416
        case neg => rw [if_neg d4] at H; exact absurd H (by simp)
        rw [if_pos d4] at H
        obtain ⟨rfl, hro, rfl⟩ : ls'.set b.toNat 2 = rs ∧ lo' ++ [b] = ro ∧ lp' = rp := by simpa using H
        have HRO := Aside0.mk hro
        have D4 := Aside0.mk d4
        obtain ⟨sx, sf⟩ := Kd.R_celln 0 HWr.out.2.2.2.1 b c1 c3
        have d1b : decide (i < (x.length : Int)) = false := decide_eq_false d1
        have c1b : decide (0 ≤ b) = true := decide_eq_true c1
        have c3b : decide (b < (ls.length : Int)) = true := decide_eq_true c3
        clear H d1 d3 d4 hro
        have hp := HWr.out.put b 2
        have HW3 := Aside0.mk hp.1
        have HK3 := Aside0.mk (walk_kept HKr.out hp.2 HVr.out); clear hp
        have z6 : (wr.setCell ⟨gs, b.toNat, none⟩ (.int .i64 2)).cell? ⟨g, 6, none⟩ = some vo' := (blk_cell HW3.out.2.2.1 6).trans rfl
        go_wp2_with (
             (with_reducible refine gate_builtin (b := .append) (xs := #[.tmp 51, .tmp 53]) rfl ?_); at_builtin; (refine Kd.R_append (Kd.int .i64) (w0 := w0) w0.heap.size rfl (.tmp 51) (.tmp 53) 22 3 (.int .i64 0) 8 rfl Try.underlying22 info3 rfl (by decide) (by omega) vo' lo' b [.int .i64 b] (fun k_ => some k_ ≠ (.slice (some ⟨gs, 0, none⟩) ls.length cs : Value).ownBlock) (fun _ => False) rfl ?aX ?aP (fun _ hk => hk.elim) ?aF ?aO ?aB ?aS ?aL ?_)
             (case aX => show Value.slice (some ⟨wr.heap.size, 0, none⟩) 1 1 = _; simp)
             (case aP => exact rfl)
             (case aB => exact HW3.out.1)
             (case aF => exact (fun k_ hk e => by have := HW3.out.lt k_ (.inr (.inl e)); omega))
             (case aO => exact HW3.out.2.2.2.2)
             (case aS => exact HW3.out.1.size)
             (case aL => have := D4.out; omega)
             intro vo2 w5 ho hb hg hat
             rw [HRO.out] at ho
             obtain ⟨Ao, co, rfl⟩ := Kd.R_slice ho
             have HF := Aside0.mk (HW3.out.append ho hb hg hat)
             have hk5 := blk_grown HW3.out.2.2.1 hg HW3.out.go
             have z6' : w5.cell? ⟨g, 6, none⟩ = some vo' := (blk_cell hk5 6).trans rfl
             have f6' : w5.frozen? ⟨g, 6, none⟩ = false := blk_frozen hk5 6
             clear ho hb hg hat hk5 z6)
        go_end0
        exact ⟨_, rfl, HF.out.1, walk_kept HK3.out HF.out.2.1 HVr.out, walk_loc HK3.out HVr.out HF.out.2.2⟩
end Go.Proofs.Ytkcimaibaicdcaa.P
end
section
namespace Go.Proofs.Ytkcimaibaicdcaa.P
open Go.RowKit Go.Proofs.YtkcimaibaicdcaaW.PrintWords Go.Proofs.YtkcimaibaicdcaaW.PrintLast Go.Proofs.YtkcimaibaicdcaaW.PrintMore
attribute [local go_sem] max2_int min2_int max_two min_two max_three min_three max_four min_four   
set_option linter.unusedVariables false
set_option linter.unusedSimpArgs false
def flow_walked.f (k : Nat) (a0 : ByteArray) (a1 : Bool) (l2 : List Int) (a3 : Int) (l4 : List S54) : Option (List Int × List Int × Bool) :=
 if l4.length ≤ 35184372088832 then (if 0 < (l4.length : Int) then flow_visit.f k a0 a1 l2 a3 l4 0 (List.replicate l4.length 0) [] false else some (List.replicate l4.length 0, [], false)) else none
theorem flow_walked.mono : ∀ y0 y1 y2 y3 y4 k, LeO (flow_walked.f k y0 y1 y2 y3 y4) (flow_walked.f (k + 1) y0 y1 y2 y3 y4) := fun y0 y1 y2 y3 y4 k => by
 unfold flow_walked.f
 exact LeO.ite (LeO.ite (flow_visit.mono _ _ _ _ _ _ _ _ _ _) (LeO.refl _)) (LeO.refl _)
theorem walk_made {a0 : ByteArray} {a1 : Bool} {A2 : Option Addr} {c2 : Nat} {l2 : List Int} {a3 : Int} {A4 : Option Addr} {c4 : Nat} {l4 : List S54} {w : World} (B : Obj) (hn : l4.length ≤ 35184372088832) :
  WalkAt a0 a1 A2 c2 l2 a3 A4 c4 l4 w (((w.alloc B).alloc (.cells (madeCells #[.int .i64 0] l4.length) 3)).alloc (.cells #[.string a0, .bool a1, .slice A2 l2.length c2, .int .i64 a3, .slice A4 l4.length c4, .slice (some ⟨w.heap.size + 1, 0, none⟩) l4.length l4.length, .slice none 0 0, .bool false] 90)).drew (w.heap.size + 1 + 1)
   (.slice (some ⟨w.heap.size + 1, 0, none⟩) l4.length l4.length) (.slice none 0 0) (List.replicate l4.length 0) [] false := by
 have hs : (w.alloc B).heap.size = w.heap.size + 1 := by simp
 have hs2 : ((w.alloc B).alloc (.cells (madeCells #[.int .i64 0] l4.length) 3)).heap.size = w.heap.size + 1 + 1 := by simp
 have ho := own_made (w.alloc B) w.heap.size 3 .i64 l4.length (by omega) (by omega)
 rw [hs] at ho
 have hb : Below w.heap.size w (((w.alloc B).alloc (.cells (madeCells #[.int .i64 0] l4.length) 3))) := below_alloc (below_alloc (Below.refl _ _) _) _
 refine ⟨below_drew (below_alloc hb _), by omega, ?_, ?_, Kd.R_nil _ _ _ _ _⟩
 ·have := blk_new ((w.alloc B).alloc (.cells (madeCells #[.int .i64 0] l4.length) 3)) (.cells #[.string a0, .bool a1, .slice A2 l2.length c2, .int .i64 a3, .slice A4 l4.length c4, .slice (some ⟨w.heap.size + 1, 0, none⟩) l4.length l4.length, .slice none 0 0, .bool false] 90)
  rw [hs2] at this
  exact this
 ·refine Kd.R_drew (Kd.R_alloc ?_ _)
  exact Kd.R_of_own (xs := List.replicate l4.length 0) (by rw [List.length_replicate]; exact ho) (fun k _ => by simp [Value.ownBlock])
def WalkedPost (a0 : ByteArray) (a1 : Bool) (A2 : Option Addr) (c2 : Nat) (l2 : List Int) (a3 : Int) (A4 : Option Addr) (c4 : Nat) (l4 : List S54) (w : World) (rs ro : List Int) (rp : Bool) (e : Ending) (w' : World) : Prop :=
 ∃ (g : Nat) (vs vo : Value), e = .returned (.pointer (some ⟨g, 0, none⟩)) ∧ WalkAt a0 a1 A2 c2 l2 a3 A4 c4 l4 w w' g vs vo rs ro rp
set_option maxHeartbeats 8000000 in
set_option maxRecDepth 100000 in
theorem flow_walked.calls (k : Nat) (a0 : ByteArray) (a1 : Bool) (A2 : Option Addr) (c2 : Nat) (l2 : List Int) (a3 : Int) (A4 : Option Addr) (c4 : Nat) (l4 : List S54) (rs ro : List Int) (rp : Bool) (w : World)
  (hr2 : Kd.C (Kd.int .i64) w A2 l2.length l2) (hc2 : l2.length ≤ c2) (hr4 : Kd.C k54 w A4 l4.length l4) (hc4 : l4.length ≤ c4)
  (h : flow_walked.f k a0 a1 l2 a3 l4 = some (rs, ro, rp)) :
  Calls Try.prog 64 #[.agg #[.string a0, .bool a1, .slice A2 l2.length c2, .int .i64 a3, .slice A4 l4.length c4]] w fun e w' => WalkedPost a0 a1 A2 c2 l2 a3 A4 c4 l4 w rs ro rp e w' := by
 unfold flow_walked.f at h
 by_cases c1 : l4.length ≤ 35184372088832
 case neg => rw [if_neg c1] at h; exact absurd h (by simp)
 rw [if_pos c1] at h
 have HR2 := Aside0.mk hr2
 have HC2 := Aside0.mk hc2
 have HR4 := Aside0.mk hr4
 have HC4 := Aside0.mk hc4
 have H := Aside0.mk h
 clear hr2 hc2 hr4 hc4 h
 have hu25 := Try.underlying25
 have hu90 := Try.underlying90
 have hmk := fun W => print_make (P := Try.prog) 22 3 .i64 8 Try.underlying22 info3 (by decide) l4.length (by omega) W
 have C1 := Aside0.mk c1
 clear c1
 go_enter Try.func64, Try.ntmps64
 go_wp2
 go_region
 have HW := Aside0.mk (walk_made (a0 := a0) (a1 := a1) (A2 := A2) (c2 := c2) (l2 := l2) (a3 := a3) (A4 := A4) (c4 := c4) (l4 := l4) (w := w) (.cells #[.string a0, .bool a1, .slice A2 l2.length c2, .int .i64 a3, .slice A4 l4.length c4] 25) C1.out)
 have z4 : (((w.alloc (.cells #[.string a0, .bool a1, .slice A2 l2.length c2, .int .i64 a3, .slice A4 l4.length c4] 25)).alloc (.cells (madeCells #[.int .i64 0] l4.length) 3)).alloc (.cells #[.string a0, .bool a1, .slice A2 l2.length c2, .int .i64 a3, .slice A4 l4.length c4, .slice (some ⟨w.heap.size + 1, 0, none⟩) l4.length l4.length, .slice none 0 0, .bool false] 90)).drew.cell? ⟨w.heap.size, 4, none⟩ = some (.slice A4 l4.length c4) :=
  (blk_cell (blk_drew (blk_alloc (blk_alloc (blk_new w (.cells #[.string a0, .bool a1, .slice A2 l2.length c2, .int .i64 a3, .slice A4 l4.length c4] 25)) _) _)) 4).trans rfl
 generalize (((w.alloc (.cells #[.string a0, .bool a1, .slice A2 l2.length c2, .int .i64 a3, .slice A4 l4.length c4] 25)).alloc (.cells (madeCells #[.int .i64 0] l4.length) 3)).alloc (.cells #[.string a0, .bool a1, .slice A2 l2.length c2, .int .i64 a3, .slice A4 l4.length c4, .slice (some ⟨w.heap.size + 1, 0, none⟩) l4.length l4.length, .slice none 0 0, .bool false] 90)).drew = w3 at HW z4 ⊢
 clear hmk
 have H' := H.out
 by_cases c3 : 0 < (l4.length : Int)
 ·rw [if_pos c3] at H'
  have HV := Aside0.mk H'
  clear H' H
  go_wp2_with (
   (with_reducible refine gate_callee (f := 97) rfl ?_); refine goesL_ (some 16) rfl rfl Try.func97 (by kernel_rfl) rfl #[.pointer (some ⟨w.heap.size + 1 + 1, 0, none⟩), .int .i64 0] rfl (by (try simp only [List.map_toArray, List.map_cons, List.map_nil]); rfl) ?_
   (with_reducible refine (flow_visit.calls k a0 a1 A2 c2 l2 a3 A4 c4 l4 0 _ _ _ _ _ _ rs ro rp w _ HW.out HR2.out HC2.out HR4.out HC4.out HV.out).mono ?_)
   rintro e w4 ⟨vo2, rfl, hW4, _, _⟩
   refine ⟨_, rfl, ?_⟩
   have HW4 := Aside0.mk hW4
   clear hW4)
  go_ret
  exact ⟨_, _, _, rfl, HW4.out⟩
 ·rw [if_neg c3] at H'
  obtain ⟨rfl, rfl, rfl⟩ : List.replicate l4.length 0 = rs ∧ [] = ro ∧ false = rp := by simpa using H'
  clear H' H
  go_wp2
  go_ret
  exact ⟨_, _, _, rfl, HW.out⟩
end Go.Proofs.Ytkcimaibaicdcaa.P
end
section
namespace Go.Proofs.Ytkcimaibaicdcaa.P
open Go.RowKit Go.Proofs.YtkcimaibaicdcaaW.PrintWords Go.Proofs.YtkcimaibaicdcaaW.PrintLast Go.Proofs.YtkcimaibaicdcaaW.PrintMore
attribute [local go_sem] max2_int min2_int max_two min_two max_three min_three max_four min_four   
set_option linter.unusedVariables false
set_option linter.unusedSimpArgs false
def flow_Reach.l0 : Nat → List Int → List Bool → Int → Option (List Bool)
 | 0, _, _, _ => none
 | k + 1, x, o, i => if i < (x.length : Int) then (if 0 ≤ i then (if i < (o.length : Int) then flow_Reach.l0 k x (o.set i.toNat (rd x i != 0)) (wrap64 (i + 1)) else none) else none) else some o
def flow_Reach.f (k : Nat) (a0 : ByteArray) (a1 : Bool) (l2 : List Int) (a3 : Int) (l4 : List S54) : Option (List Bool) :=
 (flow_walked.f k a0 a1 l2 a3 l4).bind fun r => if l4.length ≤ 281474976710656 then flow_Reach.l0 k r.1 (List.replicate l4.length false) 0 else none
theorem flow_Reach.mono_l : ∀ k y0 y1 y2, LeO (flow_Reach.l0 k y0 y1 y2) (flow_Reach.l0 (k + 1) y0 y1 y2)
 | 0 => fun _ _ _ r h => by simp [flow_Reach.l0] at h
 | k + 1 => fun y0 y1 y2 => by
  unfold flow_Reach.l0
  exact LeO.ite (LeO.ite (LeO.ite (flow_Reach.mono_l k _ _ _) (LeO.refl _)) (LeO.refl _)) (LeO.refl _)
theorem flow_Reach.mono : ∀ y0 y1 y2 y3 y4 k, LeO (flow_Reach.f k y0 y1 y2 y3 y4) (flow_Reach.f (k + 1) y0 y1 y2 y3 y4) := fun y0 y1 y2 y3 y4 k => by
 unfold flow_Reach.f
 exact LeO.bind (flow_walked.mono _ _ _ _ _ _) (fun _ => LeO.ite (flow_Reach.mono_l _ _ _ _) (LeO.refl _))
set_option maxHeartbeats 8000000 in
set_option maxRecDepth 100000 in
theorem flow_Reach.calls (k : Nat) (a0_0 : ByteArray) (a0_1 : Bool) (A0_2 : Option Addr) (c0_2 : Nat) (l0_2 : List Int) (a0_3 : Int) (A0_4 : Option Addr) (c0_4 : Nat) (l0_4 : List (S54)) (r : List Bool) (w : World) (hr0_2 : Kd.C (Kd.int .i64) w A0_2 l0_2.length l0_2) (hc0_2 : l0_2.length ≤ c0_2) (hr0_4 : Kd.C k54 w A0_4 l0_4.length l0_4) (hc0_4 : l0_4.length ≤ c0_4) (h : flow_Reach.f k a0_0 a0_1 l0_2 a0_3 l0_4 = some r) :
    Calls Try.prog 25 #[.agg #[.string a0_0, .bool a0_1, .slice A0_2 l0_2.length c0_2, .int .i64 a0_3, .slice A0_4 l0_4.length c0_4]] w fun e w' => ∃ v0_ : Value, e = .returned (v0_) ∧ Kd.R Kd.bool 4 w' w.heap.size (fun _ => True) v0_ r ∧ Below w.heap.size w w' := by
  unfold flow_Reach.f at h
  obtain ⟨⟨rs, ro, rp⟩, h1, h2⟩ := Option.bind_eq_some_iff.mp h
  by_cases c1 : l0_4.length ≤ 281474976710656
  case neg => rw [if_neg c1] at h2; exact absurd h2 (by simp)
  rw [if_pos c1] at h2
  have HR2 := Aside0.mk hr0_2
  have HC2 := Aside0.mk hc0_2
  have HR4 := Aside0.mk hr0_4
  have HC4 := Aside0.mk hc0_4
  have H := Aside0.mk h1
  have H2 := Aside0.mk h2
  have C1 := Aside0.mk c1
  have HB0 := Aside0.mk (Below.refl w.heap.size w); clear hr0_2 hc0_2 hr0_4 hc0_4 h h1 h2 c1
  have hu25 := Try.underlying25
  go_enter Try.func25, Try.ntmps25
  go_wp2_with (first
    | ((with_reducible refine gate_callee (f := 64) rfl ?_); refine goesL_ (some 8) rfl rfl Try.func64 (by kernel_rfl) rfl #[.agg #[.string a0_0, .bool a0_1, .slice A0_2 l0_2.length c0_2, .int .i64 a0_3, .slice A0_4 l0_4.length c0_4]] rfl (by (try simp only [List.map_toArray, List.map_cons, List.map_nil]); rfl) ?_
       have hb0 := below_alloc HB0.out (.cells #[.string a0_0, .bool a0_1, .slice A0_2 l0_2.length c0_2, .int .i64 a0_3, .slice A0_4 l0_4.length c0_4] 25)
       have hs2 := Kd.C_below HR2.out hb0
       have hs4 := Kd.C_below HR4.out hb0
       (with_reducible refine (flow_walked.calls k a0_0 a0_1 A0_2 c0_2 l0_2 a0_3 A0_4 c0_4 l0_4 rs ro rp _ hs2 HC2.out hs4 HC4.out H.out).mono ?_)
       rintro e w1 ⟨g, vs, vo, rfl, hW⟩
       refine ⟨_, rfl, ?_⟩
       obtain ⟨As, cs, rfl⟩ := Kd.R_slice hW.2.2.2.1
       have HS := Aside0.mk (Kd.R_reads' hW.2.2.2.1).2.2
       have HB := Aside0.mk (below_step hb0 hW.1)
       have HG := Aside0.mk hW.2.2.1
       have z4 : w1.cell? ⟨w.heap.size, 4, none⟩ = some (.slice A0_4 l0_4.length c0_4) := (blk_cell (blk_below (blk_new w (.cells #[.string a0_0, .bool a0_1, .slice A0_2 l0_2.length c0_2, .int .i64 a0_3, .slice A0_4 l0_4.length c0_4] 25)) hW.1) 4).trans rfl
       clear hs2 hs4 hb0 hW)
    | ((with_reducible refine gate_dst (N := 12) rfl ?_); refine Kd.R_make Kd.bool (w0 := w1) w1.heap.size 4 rfl (N := 12) rfl 34 _ _ rfl (l0_4.length : Int) rfl rfl Try.underlying34 (.bool false) 1 info4 rfl (by decide) (by omega) false (ok := fun _ => True) (okp := fun _ => True) rfl (fun _ hk => hk) trivial (by omega) (by have := C1.out; simp; omega) (Below.refl _ _) (Nat.le_refl _) ?_
       intro vr w2 ho hb hg hat
       rw [Int.toNat_natCast] at ho
       have HO := Aside0.mk ho
       have HB2 := Aside0.mk hb
       have z5 : w2.cell? ⟨g, 5, none⟩ = some (.slice As rs.length cs) := (blk_cell (blk_below HG.out hb) 5).trans rfl
       clear ho hb hg hat z4))
  go_loopg [18] k (fun kq v18 w' => ∃ (i : Int) (o : List Bool), v18 = .int .i64 i ∧ Aside0 (flow_Reach.l0 kq rs o i = some r) ∧ Aside0 (kq ≤ k) ∧ Aside0 (Kd.R Kd.bool 4 w' w1.heap.size (fun _ => True) vr o) ∧ Aside0 (Below w1.heap.size w1 w'))
  case atStart => exact ⟨0, _, rfl, H2, ⟨Nat.le_refl _⟩, HO, HB2⟩
  case round =>
    clear HO HB2 H2 z5
    obtain ⟨i, o, rfl, HA, HK, HO, HB2⟩ := hrel
    cases gk with
    | zero => exact absurd HA.out (by simp [flow_Reach.l0])
    | succ k1 =>
      have H := HA.out
      clear HA
      simp only [flow_Reach.l0] at H
      by_cases d1 : i < (rs.length : Int)
      · rw [if_pos d1] at H
        by_cases d2 : 0 ≤ i
        case neg => rw [if_neg d2] at H; exact absurd H (by simp)
        rw [if_pos d2] at H
        by_cases d3 : i < (o.length : Int)
        case neg => rw [if_neg d3] at H; exact absurd H (by simp)
        rw [if_pos d3] at H
        obtain ⟨ad, rfl, hx⟩ := Kd.at_int (Kd.C_below HS.out HB2.out) i d2 d1
        obtain ⟨go, co, rfl, hgo, _, _⟩ := Kd.R_form HO.out (by omega)
        obtain ⟨sx, sf⟩ := Kd.R_celln false HO.out i d2 d3
        generalize rd rs i = s at H hx
        obtain ⟨bv, hbv⟩ : ∃ b, (s != 0) = b := ⟨_, rfl⟩
        rw [hbv] at H
        have H' := Aside0.mk H
        have hp := Aside0.mk (Kd.R_putg HO.out i bv)
        have HGO := Aside0.mk hgo
        have d1b : decide (i < (rs.length : Int)) = true := decide_eq_true d1
        have d2b : decide (0 ≤ i) = true := decide_eq_true d2
        have d3b : decide (i < (o.length : Int)) = true := decide_eq_true d3
        clear H hgo
        go_wp2
        go_roundg k1
        case measure => have := HK.out; omega
        case rel => exact ⟨_, _, rfl, H', ⟨by have := HK.out; omega⟩, ⟨hp.out.1⟩, ⟨below_set HB2.out HGO.out⟩⟩
      · rw [if_neg d1] at H
        obtain rfl : o = r := by simpa using H
        have d1b : decide (i < (rs.length : Int)) = false := decide_eq_false d1
        have hsz := Aside0.mk HB.out.size
        clear H d1
        go_wp2
        go_ret
        exact ⟨_, rfl, Kd.R_lower HO.out hsz.out, below_then HB.out hsz.out HB2.out⟩
end Go.Proofs.Ytkcimaibaicdcaa.P
end
