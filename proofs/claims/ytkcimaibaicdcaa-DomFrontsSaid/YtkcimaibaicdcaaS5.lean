import Derived.Test.YtkcimaibaicdcaaS4
import Derived.Test.YtkcimaibaicdcaaTR
set_option linter.unusedSimpArgs false
namespace Go.Proofs.Ytkcimaibaicdcaa.Tk
open Go.Tm Go.Tm.Tab
set_option maxRecDepth 100000
/-- What is held when the walk comes to b. -/
structure Comes (l4 : List Block) (ls : List Int) (b : Int) : Prop where
  met : Rc (nextOf l4) (fun _ => True) 0 b
  grey : ∀ v : Int, 0 ≤ v → v < (l4.length : Int) → rd ls v = 1 → Rc (nextOf l4) (fun _ => True) v b
  from_ : b = 0 ∨ ∃ p : Int, 0 ≤ p ∧ p < (l4.length : Int) ∧ b ∈ nextOf l4 p ∧ p ≠ b ∧ rd ls p = 1
/-- The visit of b from such a heap. -/
def Visits (f : Tm.Func) (k : Nat) (b : Int) (h : Heap) (w s : Nat) (ls lo : List Int) (lp : Bool) : Prop :=
  ∃ rs ro rp c' h', callAt Try.prog tab k 97 [.op w 0, int b] h = some (.tup [], h') ∧ Walk h' w s f rs ro rp c' ∧ Keep s h h' ∧ Dfs (nextOf f.blocks) f.blocks.length 0 rs ro rp ∧ Went f.blocks.length ls lo rs ro lp rp ∧ rd rs b = 2
theorem visit_loop (f : Tm.Func) (F : Fine f) (w s : Nat) (b : Int) (b0 : 0 ≤ b) (b1 : b < (f.blocks.length : Int)) (M k n : Nat)
    (ih : ∀ (t : Int) ls lo lp c h, Walk h w s f ls lo lp c → Dfs (nextOf f.blocks) f.blocks.length 0 ls lo lp → ls.count 0 ≤ M → 0 ≤ t → t < (f.blocks.length : Int) → rd ls t = 0 → Comes f.blocks ls t → Visits f k t h w s ls lo lp) (d : Nat) :
    ∀ (i m : Nat), i + d = (nextOf f.blocks b).length → d < m → ∀ ls lo lp c h, Walk h w s f ls lo lp c → Dfs (nextOf f.blocks) f.blocks.length 0 ls lo lp → ls.count 0 ≤ M → rd ls b = 1 → Comes f.blocks ls b →
      (∀ j : Int, 0 ≤ j → j < i → j < ((nextOf f.blocks b).length : Int) → rd ls (rd (nextOf f.blocks b) j) ≠ 0 ∧ (lp = false → rd (nextOf f.blocks b) j ∈ lo)) →
      ∃ rs ro rp c' h', Tm.Loop Try.prog (valsOf tab) (callAt Try.prog tab k) n [0, 1, 17, 18, 19] k97b0 m ⟨[(0, .op w 0), (1, int b), (17, ints (nextOf f.blocks b)), (18, int (nextOf f.blocks b).length), (19, int i)], h⟩ = some (.exit 0, ⟨[(0, .op w 0), (1, int b), (17, ints (nextOf f.blocks b)), (18, int (nextOf f.blocks b).length), (19, int (nextOf f.blocks b).length), (20, bool false)], h'⟩) ∧
        Walk h' w s f rs ro rp c' ∧ Keep s h h' ∧ Dfs (nextOf f.blocks) f.blocks.length 0 rs ro rp ∧ Went f.blocks.length ls lo rs ro lp rp ∧ rd rs b = 1 ∧ (∀ j : Int, 0 ≤ j → j < ((nextOf f.blocks b).length : Int) → rd rs (rd (nextOf f.blocks b) j) ≠ 0 ∧ (rp = false → rd (nextOf f.blocks b) j ∈ ro)) := by
  have hx := next_len F b
  induction d with
  | zero =>
    intro i m hi hm ls lo lp c h W hD _ hb hC hin
    obtain ⟨m, rfl⟩ : ∃ p, m = p + 1 := ⟨m - 1, by omega⟩
    obtain rfl : i = (nextOf f.blocks b).length := by omega
    rw [Tm.Loop_succ]
    simp (decide := true) (implicitDefEqProofs := false) only [bind_ite, andThen_ite, leaves_ite, k97b0, go_sem, Int.lt_irrefl, decide_false]
    exact ⟨ls, lo, lp, c, h, rfl, W, Keep.refl _ _, hD, Went.refl _ _ _ _, hb, fun j j0 j1 => hin j j0 j1 j1⟩
  | succ d ihd =>
    intro i m hi hm ls lo lp c h W hD hM hb hC hin
    obtain ⟨m, rfl⟩ : ∃ p, m = p + 1 := ⟨m - 1, by omega⟩
    replace ihd := ihd (i + 1) m (by omega) (by omega)
    rw [Tm.Loop_succ]
    generalize hxx : nextOf f.blocks b = x at *
    generalize Tm.Loop Try.prog (valsOf tab) (callAt Try.prog tab k) n [0, 1, 17, 18, 19] k97b0 m = L at ihd ⊢
    have e1 : decide ((i : Int) < x.length) = true := by simp; omega
    have e2 : 0 ≤ (i : Int) ∧ (i : Int) < x.length := by omega
    have e3 := wrap_next (n := x.length) (i := i) (by omega) (by omega)
    have hlen := hD.len
    have hw : rd x i ∈ nextOf f.blocks b := by rw [hxx]; exact rd_mem e2.1 e2.2
    obtain ⟨t0, t1⟩ := next_in hw
    have e4 : 0 ≤ rd x i ∧ rd x i < (f.blocks.length : Int) := ⟨t0, t1⟩
    have tl : (rd x i).toNat < ls.length := by omega
    have hrt : Rc (nextOf f.blocks) (fun _ => True) 0 (rd x i) := .step hC.met hw trivial
    have hat := W.at_
    have hst := W.st
    unfold walkRow at hat
    rcases hD.three _ t0 t1 with e | e | e
    · -- not come to yet
      have hC' : Comes f.blocks ls (rd x i) := ⟨hrt, fun v v0 v1 hv => .step (hC.grey v v0 v1 hv) hw trivial, .inr ⟨b, b0, b1, hw, fun e2 => by rw [← e2] at e; omega, hb⟩⟩
      obtain ⟨rs, ro, rp, c', h', k1, k2, kk, k3, k4, k5⟩ := ih _ ls lo lp c h W hD hM t0 t1 e hC'
      have hb' : rd rs b = 1 := by rw [k4.keep b b0 b1 (by omega)]; exact hb
      have hC2 : Comes f.blocks rs b := ⟨hC.met, fun v v0 v1 hv => hC.grey v v0 v1 (k4.grey v v0 v1 hv), hC.from_.imp id (fun ⟨p, p0, p1, pv, pn, hp⟩ => ⟨p, p0, p1, pv, pn, by rw [k4.keep p p0 p1 (by omega)]; exact hp⟩)⟩
      have hflag : rp = false → lp = false := fun e2 => by cases lp with | false => rfl | true => exact absurd (k4.flag rfl) (by simp [e2])
      obtain ⟨tt, htt⟩ := k4.more
      have hin2 : ∀ j : Int, 0 ≤ j → j < ((i + 1 : Nat) : Int) → j < (x.length : Int) → rd rs (rd x j) ≠ 0 ∧ (rp = false → rd x j ∈ ro) := fun j j0 j1 j2 => by
        by_cases ej : j = i
        · subst ej
          exact ⟨by omega, fun _ => (k3.mem _).2 ⟨t0, t1, k5⟩⟩
        · obtain ⟨m1, m2⟩ := hin j j0 (by omega) j2
          obtain ⟨u0, u1⟩ := next_in (l := f.blocks) (b := b) (v := rd x j) (by rw [hxx]; exact rd_mem j0 j2)
          exact ⟨by rw [k4.keep _ u0 u1 m1]; exact m1, fun e2 => by rw [htt]; exact List.mem_append_left _ (m2 (hflag e2))⟩
      obtain ⟨rs2, ro2, rp2, c2, h2, m1, m2, m3, m4, m5, m6⟩ := ihd rs ro rp c' h' k2 k3 (Nat.le_trans k4.zero hM) hb' hC2 hin2
      have q1 : decide (ls.getD (rd x i).toNat 0 = 0) = true := decide_eq_true e
      simp (decide := true) (implicitDefEqProofs := false) only [bind_ite, andThen_ite, leaves_ite, k97b0, go_sem, e1, e2, e3, e4, hat, hst, tl, q1, k1]
      exact ⟨rs2, ro2, rp2, c2, h2, m1, m2, kk.trans m3, m4, k4.trans m5, m6⟩
    · -- under way: it goes round
      have hD' : Dfs (nextOf f.blocks) f.blocks.length 0 ls lo true := hD.turn hC.met hw (hC.grey _ t0 t1 e)
      have hin2 : ∀ j : Int, 0 ≤ j → j < ((i + 1 : Nat) : Int) → j < (x.length : Int) → rd ls (rd x j) ≠ 0 ∧ (true = false → rd x j ∈ lo) := fun j j0 j1 j2 => by
        by_cases ej : j = i
        · subst ej; exact ⟨by omega, fun e2 => by cases e2⟩
        · exact ⟨(hin j j0 (by omega) j2).1, fun e2 => by cases e2⟩
      obtain ⟨h1, s1, s2, s3⟩ := W.round
      unfold walkRow at s1
      obtain ⟨rs2, ro2, rp2, c2, h2, m1, m2, m3, m4, m5, m6⟩ := ihd ls lo true c h1 s2 hD' hM hb hC hin2
      have q1 : decide (ls.getD (rd x i).toNat 0 = 0) = false := decide_eq_false (by show ¬ rd ls (rd x i) = 0; omega)
      have q2 : decide (ls.getD (rd x i).toNat 0 = 1) = true := decide_eq_true e
      simp (decide := true) (implicitDefEqProofs := false) only [bind_ite, andThen_ite, leaves_ite, k97b0, go_sem, e1, e2, e3, e4, hat, hst, tl, q1, q2, s1]
      exact ⟨rs2, ro2, rp2, c2, h2, m1, m2, s3.trans m3, m4, ⟨m5.keep, m5.grey, m5.more, fun _ => m5.flag rfl, m5.zero⟩, m6⟩
    · -- done
      have hin2 : ∀ j : Int, 0 ≤ j → j < ((i + 1 : Nat) : Int) → j < (x.length : Int) → rd ls (rd x j) ≠ 0 ∧ (lp = false → rd x j ∈ lo) := fun j j0 j1 j2 => by
        by_cases ej : j = i
        · subst ej; exact ⟨by omega, fun _ => (hD.mem _).2 ⟨t0, t1, e⟩⟩
        · exact hin j j0 (by omega) j2
      obtain ⟨rs2, ro2, rp2, c2, h2, m1, m2, m3, m4, m5, m6⟩ := ihd ls lo lp c h W hD hM hb hC hin2
      have q1 : decide (ls.getD (rd x i).toNat 0 = 0) = false := decide_eq_false (by show ¬ rd ls (rd x i) = 0; omega)
      have q2 : decide (ls.getD (rd x i).toNat 0 = 1) = false := decide_eq_false (by show ¬ rd ls (rd x i) = 1; omega)
      simp (decide := true) (implicitDefEqProofs := false) only [bind_ite, andThen_ite, leaves_ite, k97b0, go_sem, e1, e2, e3, e4, hat, hst, tl, q1, q2]
      exact ⟨rs2, ro2, rp2, c2, h2, m1, m2, m3, m4, m5, m6⟩
theorem visit_runs (f : Tm.Func) (F : Fine f) (w s : Nat) : ∀ (m : Nat) (t : Int) ls lo lp c h, Walk h w s f ls lo lp c → Dfs (nextOf f.blocks) f.blocks.length 0 ls lo lp → ls.count 0 ≤ m → 0 ≤ t → t < (f.blocks.length : Int) → rd ls t = 0 → Comes f.blocks ls t → ∀ k, 2 ^ 36 + 2 + m ≤ k → Visits f k t h w s ls lo lp := by
  intro m
  induction m with
  | zero =>
    intro t ls lo lp c h W hD hm t0 t1 ht _
    have := hD.len
    have : 0 < ls.count 0 := List.count_pos_iff.2 (ht ▸ rd_mem t0 (by omega))
    omega
  | succ m ih =>
    intro b ls lo lp c h W hD hm b0 b1 hb hC k hk
    obtain ⟨k, rfl⟩ : ∃ p, k = p + 1 := ⟨k - 1, by omega⟩
    have hlen := hD.len
    have hF := F.blocks
    have hl : b < (ls.length : Int) := by omega
    have e4 : 0 ≤ b ∧ b < (f.blocks.length : Int) := ⟨b0, b1⟩
    have rs1 : ∀ v : Int, 0 ≤ v → rd (ls.set b.toNat 1) v = if b = v then 1 else rd ls v := fun v hv => rd_set b0 hl hv
    have hz := count_put (x := 1) (y := 0) b0 hl
    rw [hb] at hz
    simp at hz
    have hC1 : Comes f.blocks (ls.set b.toNat 1) b := by
      refine ⟨hC.met, fun v v0 v1 hv => ?_, hC.from_.imp id (fun ⟨p, p0, p1, pv, pn, hp⟩ => ⟨p, p0, p1, pv, pn, by rw [rs1 p p0]; split <;> first | rfl | exact hp⟩)⟩
      rw [rs1 v v0] at hv
      by_cases e : b = v
      · subst e; exact .refl trivial
      · rw [if_neg e] at hv; exact hC.grey v v0 v1 hv
    have tl : b.toNat < ls.length := by omega
    obtain ⟨h1, a1, W1, K1⟩ := W.state tl 1
    have hx := next_len F b
    obtain ⟨lf, lof, rp, c2, h2, g1, W2, K2, k3, k6, hbf, hin⟩ := visit_loop f F w s b b0 b1 m k k (fun t ls lo lp c h W hD hm t0 t1 ht hC => ih t ls lo lp c h W hD hm t0 t1 ht hC k (by omega)) (nextOf f.blocks b).length 0 k (by omega) (by omega) _ lo lp c h1 W1 (hD.enter b0 b1 hb hC.met) (by omega) (by rw [rs1 b b0, if_pos rfl]) hC1 (fun j j0 j1 => by omega)
    have hlf := k3.len
    have tf : b.toNat < lf.length := by omega
    obtain ⟨h3, a3, W3, K3⟩ := W2.state tf 2
    have hsz : lof.length ≤ 16 := by have := k3.size; have := List.count_le_length (l := lf) (a := 2); omega
    obtain ⟨c4, h4, h5, a4, a5, a6, a7, W5, K5⟩ := W3.done b (by unfold maxRow; omega)
    have hat := W.at_; have hst := W.st; have hat1 := W1.at_; have hat2 := W2.at_; have hst2 := W2.st; have hat3 := W3.at_
    unfold walkRow at hat hat1 hat2 hat3 a6 a7
    have hcall := next_call f F b (k := k) (by omega) h1
    rw [show ((0 : Nat) : Int) = 0 from rfl] at g1
    have rs2 : ∀ v : Int, 0 ≤ v → rd (lf.set b.toNat 2) v = if b = v then 2 else rd lf v := fun v hv => rd_set b0 (by omega) hv
    have hC3 : Comes f.blocks lf b := ⟨hC.met, fun v v0 v1 hv => hC1.grey v v0 v1 (k6.grey v v0 v1 hv), hC1.from_.imp id (fun ⟨p, p0, p1, pv, pn, hp⟩ => ⟨p, p0, p1, pv, pn, by rw [k6.keep p p0 p1 (by omega)]; exact hp⟩)⟩
    refine ⟨lf.set b.toNat 2, lof ++ [b], rp, c4, h5, ?_, W5, ((K1.trans K2).trans K3).trans K5, ?_, ⟨fun v v0 v1 hv => ?_, fun v v0 v1 hv => ?_, ?_, k6.flag, ?_⟩, by rw [rs2 b b0, if_pos rfl]⟩
    · rw [ref_call (rs := []) (N := 57) rfl Try.func97 rfl rfl (by simp)]
      simp (decide := true) (implicitDefEqProofs := false) only [bind_ite, andThen_ite, leaves_ite, k97, go_sem, e4, hat, hst, tl, a1, hat1, hcall, g1, hat2, hst2, tf, a3, hat3, a4, a5, a6, a7]
    · refine k3.leave b0 b1 hbf (fun v hv => ?_) hC3.from_
      obtain ⟨w0, w1⟩ := next_in hv
      obtain ⟨j, j0, j1, rfl⟩ := mem_rd hv
      obtain ⟨q1, q2⟩ := hin j j0 j1
      exact ⟨w0, w1, q1, q2⟩
    · have e : ¬ b = v := by rintro rfl; exact hv hb
      have e1 : rd (ls.set b.toNat 1) v = rd ls v := by rw [rs1 v v0, if_neg e]
      rw [rs2 v v0, if_neg e, k6.keep v v0 v1 (by rw [e1]; exact hv), e1]
    · rw [rs2 v v0] at hv
      have e : ¬ b = v := by rintro rfl; rw [if_pos rfl] at hv; omega
      rw [if_neg e] at hv
      have := k6.grey v v0 v1 hv
      rwa [rs1 v v0, if_neg e] at this
    · obtain ⟨t, ht⟩ := k6.more
      exact ⟨t ++ [b], by rw [ht, List.append_assoc]⟩
    · have e2 := count_put (xs := lf) (x := 2) (y := 0) b0 (by omega)
      rw [hbf] at e2
      simp at e2
      have := k6.zero
      omega
/-- What the walk over a function's blocks leaves. -/
structure Walked (l4 : List Block) (rs ro : List Int) (rp : Bool) : Prop where
  dfs : Dfs (nextOf l4) l4.length 0 rs ro rp
  done : ∀ v : Int, 0 ≤ v → v < (l4.length : Int) → rd rs v = 0 ∨ rd rs v = 2
  root : (0 : Int) < l4.length → (0 : Int) ∈ ro
theorem get_new0 (h : Heap) (a : Tm.Node) (r : List Tm.Node) : (h ++ (a :: r))[h.length]? = some a := by simp
theorem get_new1 (h : Heap) (a b : Tm.Node) (r : List Tm.Node) : (h ++ (a :: b :: r))[h.length + 1]? = some b := by rw [List.getElem?_append_right (by omega)]; simp
theorem get_new2 (h : Heap) (a b c : Tm.Node) (r : List Tm.Node) : (h ++ (a :: b :: c :: r))[h.length + 2]? = some c := by rw [List.getElem?_append_right (by omega)]; simp
theorem walked_runs (f : Tm.Func) (F : Fine f) (h : Heap) (k : Nat) (hk : 2 ^ 36 + 30 ≤ k) : ∃ rs ro rp c' h', Walked f.blocks rs ro rp ∧ callAt Try.prog tab k 64 [.agg (encFunc f)] h = some (.op (h.length + 2) 0, h') ∧ Walk h' (h.length + 2) (h.length + 1) f rs ro rp c' ∧ Keep h.length h h' := by
  have hb := F.blocks
  obtain ⟨k, rfl⟩ : ∃ p, k = p + 1 := ⟨k - 1, by omega⟩
  have z : ∀ v : Int, 0 ≤ v → v < (f.blocks.length : Int) → rd (List.replicate f.blocks.length 0) v = 0 := fun v v0 v1 => rd_replicate v0 v1
  have hD : Dfs (nextOf f.blocks) f.blocks.length 0 (List.replicate f.blocks.length 0) [] false := by
    refine ⟨by simp, fun v v0 v1 => .inl (z v v0 v1), by simp, by simp [List.count_replicate], fun v => ?_, (fun v hv => by cases hv), (fun _ v hv => by cases hv), (fun v hv => by cases hv), fun v v0 v1 hv => absurd (z v v0 v1) hv, (fun e => by cases e)⟩
    constructor
    · intro hv; cases hv
    · rintro ⟨v0, v1, hv⟩; rw [z v v0 v1] at hv; omega
  have eM : 0 ≤ (f.blocks.length : Int) ∧ (f.blocks.length : Int) ≤ (f.blocks.length : Int) ∧ (f.blocks.length : Int) ≤ (maxRow : Nat) := ⟨by omega, by omega, by unfold maxRow; omega⟩
  have W0 : Walk (h ++ [.row 0 (encFunc f), .row 1 (rep f.blocks.length [.v (.int .i64 0)]), .row 0 (walkRow f (h.length + 1) (.v (.slice none 0 0)) false)]) (h.length + 2) (h.length + 1) f (List.replicate f.blocks.length 0) [] false (.v (.slice none 0 0)) := by
    refine ⟨get_new2 _ _ _ _ _, by rw [get_new1, ← rep_map], .inl ⟨rfl, rfl⟩, by simp, by omega, fun l hl => by cases hl⟩
  have K0 : Keep h.length h (h ++ [.row 0 (encFunc f), .row 1 (rep f.blocks.length [.v (.int .i64 0)]), .row 0 (walkRow f (h.length + 1) (.v (.slice none 0 0)) false)]) := fun l hl => List.getElem?_append_left hl
  by_cases c : (f.blocks.length : Int) > 0
  · obtain ⟨rs, ro, rp, c', h', k1, k2, kk, k3, k4, k5⟩ := visit_runs f F _ _ _ 0 _ [] false _ _ W0 hD (Nat.le_refl _) (by omega) (by omega) (z 0 (by omega) (by omega)) ⟨.refl trivial, fun v v0 v1 hv => by rw [z v v0 v1] at hv; omega, .inl rfl⟩ k (by simp [List.count_replicate]; omega)
    have h0 := (k3.mem 0).2 ⟨by omega, by omega, k5⟩
    refine ⟨rs, ro, rp, c', h', ⟨k3, fun v v0 v1 => ?_, fun _ => h0⟩, ?_, k2, fun l hl => by rw [kk l (by omega), K0 l hl]⟩
    · rcases k3.three v v0 v1 with e | e | e
      · exact .inl e
      · exact absurd (k4.grey v v0 v1 e) (by rw [z v v0 v1]; omega)
      · exact .inr e
    · rw [ref_call (rs := [.tmp 2]) (N := 18) rfl Try.func64 rfl rfl (by simp)]
      rw [enc_func] at *
      unfold walkRow at k1
      simp (decide := true) (implicitDefEqProofs := false) only [bind_ite, andThen_ite, leaves_ite, k64, go_sem, eM, Int.toNat_natCast, List.append_assoc, List.length_append, get_new0, get_new1, get_new2, decide_eq_true c, k1]
  · refine ⟨_, _, _, _, _, ⟨hD, fun v v0 v1 => .inl (z v v0 v1), fun hh => absurd hh c⟩, ?_, W0, K0⟩
    rw [ref_call (rs := [.tmp 2]) (N := 18) rfl Try.func64 rfl rfl (by simp), enc_func]
    unfold walkRow
    simp (decide := true) (implicitDefEqProofs := false) only [bind_ite, andThen_ite, leaves_ite, k64, go_sem, eM, Int.toNat_natCast, List.append_assoc, List.length_append, get_new0, get_new1, get_new2, decide_eq_false c]
theorem Walked.iff {l4 : List Block} {rs ro : List Int} {rp : Bool} (H : Walked l4 rs ro rp) {v : Int} (v0 : 0 ≤ v) (v1 : v < (l4.length : Int)) : rd rs v ≠ 0 ↔ Rc (nextOf l4) (fun _ => True) 0 v := by
  refine ⟨fun h => H.dfs.met v v0 v1 h, fun h => ?_⟩
  have h0 := H.root (by omega)
  have : v ∈ ro := h.closed (S := fun x => x ∈ ro) h0 fun x hx y hy _ => by
    obtain ⟨y0, y1⟩ := next_in hy
    have := H.dfs.shut x hx y hy
    rcases H.done y y0 y1 with e | e
    · exact absurd e this
    · exact (H.dfs.mem y).2 ⟨y0, y1, e⟩
  have := ((H.dfs.mem v).1 this).2.2
  omega
open Classical in
/-- What is reached. -/
noncomputable def reachOf (l : List Block) : List Bool := (List.range l.length).map fun (v : Nat) => decide (Rc (nextOf l) (fun _ => True) 0 v)
theorem reach_len (l : List Block) : (reachOf l).length = l.length := by simp [reachOf]
theorem reach_at {l : List Block} {v : Int} (v0 : 0 ≤ v) (v1 : v < (l.length : Int)) : rdOf false (reachOf l) v = true ↔ Rc (nextOf l) (fun _ => True) 0 v := by
  have h : v.toNat < l.length := by omega
  unfold rdOf reachOf
  rw [List.getD_eq_getElem?_getD, List.getElem?_map, List.getElem?_range h]
  simp only [Option.map_some, Option.getD_some, decide_eq_true_eq]
  rw [show ((v.toNat : Nat) : Int) = v by omega]
/-- The loop of Reach. -/
theorem reach_loop {vals : FuncId → Bool} {call : CallF} {n : Nat} (ls : List Int) (s w : Nat) (hl : ls.length ≤ 16) (d : Nat) : ∀ (i m : Nat), i + d = ls.length → d < m → ∀ (h : Heap) (o : List Bool), h[s]? = some (.row 1 (ls.map int)) → h[w]? = some (.row 1 (o.map bool)) → s ≠ w → o.length = ls.length →
    ∃ (h' : Heap) (o' : List Bool), Tm.Loop Try.prog vals call n [4, 16, 17, 18] k25b0 m ⟨[(4, .os w 0 ls.length (some ls.length)), (16, .os s 0 ls.length (some ls.length)), (17, int ls.length), (18, int i)], h⟩ = some (.exit 0, ⟨[(4, .os w 0 ls.length (some ls.length)), (16, .os s 0 ls.length (some ls.length)), (17, int ls.length), (18, int ls.length), (19, bool false)], h'⟩) ∧
      h'[w]? = some (.row 1 (o'.map bool)) ∧ o'.length = ls.length ∧ (∀ j, j < i → o'[j]? = o[j]?) ∧ ∀ j, i ≤ j → j < ls.length → o'[j]? = some (decide (ls.getD j 0 ≠ 0)) := by
  induction d with
  | zero =>
    intro i m hi hm h o hs hw hne ho
    obtain ⟨m, rfl⟩ : ∃ p, m = p + 1 := ⟨m - 1, by omega⟩
    obtain rfl : i = ls.length := by omega
    rw [Tm.Loop_succ]
    simp (decide := true) (implicitDefEqProofs := false) only [bind_ite, andThen_ite, leaves_ite, k25b0, go_sem, Int.lt_irrefl, decide_false]
    exact ⟨h, o, rfl, hw, ho, fun _ _ => rfl, fun j j0 j1 => by omega⟩
  | succ d ih =>
    intro i m hi hm h o hs hw hne ho
    obtain ⟨m, rfl⟩ : ∃ p, m = p + 1 := ⟨m - 1, by omega⟩
    replace ih := ih (i + 1) m (by omega) (by omega)
    rw [Tm.Loop_succ]
    generalize Tm.Loop Try.prog vals call n [4, 16, 17, 18] k25b0 m = L at ih ⊢
    have e1 : decide ((i : Int) < ls.length) = true := by simp; omega
    have e2 : 0 ≤ (i : Int) ∧ (i : Int) < ls.length := by omega
    have e3 := wrap_next (n := ls.length) (i := i) (by omega) (by omega)
    have e5 : i < ls.length := by omega
    have e6 : i < o.length := by omega
    have hsl := (List.getElem?_eq_some_iff.1 hw).1
    have a1 : storeR h w i 1 (some (.row 1 (o.map bool))) [.v (.bool (!decide (ls.getD i 0 = 0)))] = some (h.set w (.row 1 ((o.set i (!decide (ls.getD i 0 = 0))).map bool))) := by
      rw [storeR_row, if_pos ⟨rfl, by simp; omega, rfl⟩, put_map (f := bool) e6]
    simp (decide := true) (implicitDefEqProofs := false) only [bind_ite, andThen_ite, leaves_ite, k25b0, go_sem, e1, e2, e3, hs, hw, Int.toNat_natCast, e5, a1]
    obtain ⟨h', o', g1, g2, g3, g4, g5⟩ := ih (h.set w (.row 1 ((o.set i (!decide (ls.getD i 0 = 0))).map bool))) (o.set i (!decide (ls.getD i 0 = 0))) (by rw [List.getElem?_set_ne (Ne.symm hne)]; exact hs) (by rw [List.getElem?_set_self hsl]) hne (by simp [ho])
    refine ⟨h', o', g1, g2, g3, fun j hj => ?_, fun j j0 j1 => ?_⟩
    · rw [g4 j (by omega), List.getElem?_set_ne (by omega)]
    · by_cases e : i = j
      · subst e
        rw [g4 i (by omega), List.getElem?_set_self e6]
        simp
      · exact g5 j (by omega) j1
theorem reach_runs (f : Tm.Func) (F : Fine f) : Runs Try.prog tab (2 ^ 36 + 31) 25 [.agg (encFunc f)] (bools (reachOf f.blocks)) := by
  have hb := F.blocks
  refine Runs.by (rs := [.tmp 2]) (N := 30) rfl Try.func25 rfl rfl (by simp) fun k hk => ?_
  obtain ⟨rs, ro, rp, c', h', H, k1, W, K⟩ := walked_runs f F [.row 0 (encFunc f)] k hk
  have hr := W.len
  have eM : 0 ≤ (f.blocks.length : Int) ∧ (f.blocks.length : Int) ≤ (f.blocks.length : Int) ∧ (f.blocks.length : Int) ≤ (maxRow : Nat) := ⟨by omega, by omega, by unfold maxRow; omega⟩
  have hk0 := K 0 (by simp)
  have hat := W.at_
  have hlt : 2 < List.length h' := (List.getElem?_eq_some_iff.1 W.st).1
  have hlt2 : 3 < List.length h' := (List.getElem?_eq_some_iff.1 W.at_).1
  obtain ⟨h2, o, g1, g2, g3, _, g5⟩ := reach_loop (vals := valsOf tab) (call := callAt Try.prog tab k) (n := k) rs 2 h'.length (by omega) rs.length 0 k (by omega) (by omega) (h' ++ [.row 1 ((List.replicate f.blocks.length false).map bool)]) (List.replicate f.blocks.length false) (by rw [List.getElem?_append_left hlt]; exact W.st) (by simp) (by omega) (by simp [hr])
  have ho : o = reachOf f.blocks := by
    refine bools_ext (by rw [g3, reach_len, hr]) fun i i0 i1 => ?_
    have := g5 i.toNat (by omega) (by omega)
    rw [Bool.eq_iff_iff, reach_at i0 (by omega), ← H.iff i0 (by omega)]
    unfold rdOf
    rw [List.getD_eq_getElem?_getD, this]
    simp [rd]
  unfold walkRow at hat
  rw [enc_func] at *
  rw [hr, show ((0 : Nat) : Int) = 0 from rfl] at g1
  simp only [List.length_cons, List.length_nil, Nat.zero_add, Nat.reduceAdd, List.getElem?_cons_zero] at k1 hat hk0
  have hat' : (h' ++ [Tm.Node.row 1 ((List.replicate f.blocks.length false).map bool)])[3]? = h'[3]? := List.getElem?_append_left hlt2
  have e7 := rep_map (f := bool) f.blocks.length false
  simp (decide := true) (implicitDefEqProofs := false) only [bind_ite, andThen_ite, leaves_ite, k25, go_sem, eM, Int.toNat_natCast, k1, hk0, e7, hat', hat, g1]
  refine ⟨_, _, rfl, ?_⟩
  have := view_os_bools (cl := true) (n := 10) (cap := some f.blocks.length) g2
  rw [g3, hr] at this
  rw [← ho]
  exact this
end Go.Proofs.Ytkcimaibaicdcaa.Tk
