/- A roll of the reference's, whose parts are the call's own; Copy under way. -/
import Derived.Test.YtofcmghhmklmiaaGreatRollRB
namespace Go.Proofs.YtofcmghhmklmiaaGreat
open Go.RowKit
open Roll
/-- A roll of the reference's, whose parts are the call's own, from block 'base' on. -/
structure RqO (base : Nat) (w : World) (mv cv : Value) (R : Rl) (cs : List CV) : Prop where
  fst : cs.map (·.1) = R.clss
  mo : w.ownsRow base 48 3 mv R.mems.length (rows memV R.mems)
  co : w.ownsRow base 57 3 cv cs.length (rows clsV cs)
  so : ∀ p ∈ cs, w.ownsRow base 9 1 (sv p) p.1.students.length (rows strV p.1.students)
  dmc : Dj mv cv
  dms : ∀ p ∈ cs, Dj mv (sv p)
  dcs : ∀ p ∈ cs, Dj cv (sv p)
  dss : cs.Pairwise fun p q => Dj (sv p) (sv q)
theorem RqO.rd {base : Nat} {w : World} {mv cv : Value} {R : Rl} {cs : List CV} (h : RqO base w mv cv R cs) : RlR w mv cv R :=
  ⟨rdl_own memS h.mo, cs, h.fst, rdl_own clsS h.co, fun p hp => rdl_own strS (h.so p hp)⟩
theorem RqO.frm {S : Nat → Prop} {base : Nat} {w w' : World} {mv cv : Value} {R : Rl} {cs : List CV} (h : RqO base w mv cv R cs) (hf : Frm S w w') (hm : ∀ k, mv.ownBlock = some k → ¬ S k) (hc : ∀ k, cv.ownBlock = some k → ¬ S k) (hs : ∀ p ∈ cs, ∀ k, (sv p).ownBlock = some k → ¬ S k) : RqO base w' mv cv R cs :=
  ⟨h.fst, hf.row h.mo hm, hf.row h.co hc, fun p hp => hf.row (h.so p hp) (hs p hp), h.dmc, h.dms, h.dcs, h.dss⟩
theorem RqO.no {base : Nat} {w w' : World} {mv cv : Value} {R : Rl} {cs : List CV} (h : RqO base w mv cv R cs) (hf : Frm No w w') : RqO base w' mv cv R cs := h.frm hf (fun _ _ h => h) (fun _ _ h => h) (fun _ _ _ _ h => h)
theorem RqO.lt {base : Nat} {w : World} {mv cv : Value} {R : Rl} {cs : List CV} (h : RqO base w mv cv R cs) : (∀ k, mv.ownBlock = some k → base ≤ k ∧ k < w.heap.size) ∧ (∀ k, cv.ownBlock = some k → base ≤ k ∧ k < w.heap.size) ∧ ∀ p ∈ cs, ∀ k, (sv p).ownBlock = some k → base ≤ k ∧ k < w.heap.size :=
  ⟨fun k hk => h.mo.lt k hk, fun k hk => h.co.lt k hk, fun p hp k hk => (h.so p hp).lt k hk⟩
/-- The list of members became another one. -/
theorem RqO.setM {base : Nat} {w w' : World} {mv cv mv' : Value} {R : Rl} {cs : List CV} (h : RqO base w mv cv R cs) (hf : Frm (Own mv) w w') (l : List Mem) (ho : w'.ownsRow base 48 3 mv' l.length (rows memV l)) (hn : mv'.ownBlock = mv.ownBlock ∨ ∃ k, mv'.ownBlock = some k ∧ w.heap.size ≤ k) :
    RqO base w' mv' cv ⟨l, R.clss⟩ cs := by
  obtain ⟨l1, l2, l3⟩ := h.lt
  have key : ∀ v : Value, (∀ k, v.ownBlock = some k → k < w.heap.size) → Dj mv v → Dj mv' v := fun v hv hd k hk e => by
    rcases hn with hn | ⟨k', hn, hk'⟩
    · exact hd k (hn ▸ hk) e
    · rw [hk] at hn
      cases hn
      have := hv k e
      omega
  exact ⟨h.fst, ho, hf.row h.co (fun k hk e => h.dmc k e hk), fun p hp => hf.row (h.so p hp) (fun k hk e => h.dms p hp k e hk), key cv (fun k hk => (l2 k hk).2) h.dmc, fun p hp => key (sv p) (fun k hk => (l3 p hp k hk).2) (h.dms p hp), h.dcs, h.dss⟩
/-- A class was put behind the others. -/
theorem RqO.addC {base : Nat} {w w' : World} {mv cv cv' : Value} {R : Rl} {cs : List CV} (h : RqO base w mv cv R cs) (x : CV) (hx : w.ownsRow base 9 1 (sv x) x.1.students.length (rows strV x.1.students)) (d1 : Dj mv (sv x)) (d2 : Dj cv (sv x)) (d3 : ∀ p ∈ cs, Dj (sv p) (sv x))
    (hf : Frm (Own cv) w w') (ho : w'.ownsRow base 57 3 cv' (cs ++ [x]).length (rows clsV (cs ++ [x]))) (hn : cv'.ownBlock = cv.ownBlock ∨ ∃ k, cv'.ownBlock = some k ∧ w.heap.size ≤ k) : RqO base w' mv cv' ⟨R.mems, (cs ++ [x]).map (·.1)⟩ (cs ++ [x]) := by
  obtain ⟨l1, l2, l3⟩ := h.lt
  have key : ∀ v : Value, (∀ k, v.ownBlock = some k → k < w.heap.size) → Dj cv v → Dj cv' v := fun v hv hd k hk e => by
    rcases hn with hn | ⟨k', hn, hk'⟩
    · exact hd k (hn ▸ hk) e
    · rw [hk] at hn
      cases hn
      have := hv k e
      omega
  refine ⟨rfl, hf.row h.mo (fun k hk e => h.dmc k hk e), ho, fun p hp => ?_, (key mv (fun k hk => (l1 k hk).2) h.dmc.symm).symm, fun p hp => ?_, fun p hp => ?_, ?_⟩
  · rcases List.mem_append.1 hp with hp | hp
    · exact hf.row (h.so p hp) (fun k hk e => h.dcs p hp k e hk)
    · obtain rfl := List.mem_singleton.1 hp
      exact hf.row hx (fun k hk e => d2 k e hk)
  · rcases List.mem_append.1 hp with hp | hp
    · exact h.dms p hp
    · obtain rfl := List.mem_singleton.1 hp
      exact d1
  · rcases List.mem_append.1 hp with hp | hp
    · exact key (sv p) (fun k hk => (l3 p hp k hk).2) (h.dcs p hp)
    · obtain rfl := List.mem_singleton.1 hp
      exact key _ (fun k hk => (hx.lt k hk).2) d2
  · refine List.pairwise_append.2 ⟨h.dss, List.pairwise_singleton _ _, fun p hp q hq => ?_⟩
    obtain rfl := List.mem_singleton.1 hq
    exact d3 p hp
theorem RqO.b_lt {base : Nat} {w : World} {mv cv : Value} {R : Rl} {cs : List CV} (h : RqO base w mv cv R cs) {k : Nat} (hk : RlB mv cv cs k) : base ≤ k ∧ k < w.heap.size := by
  obtain ⟨l1, l2, l3⟩ := h.lt
  rcases hk with hk | hk | ⟨p, hp, hk⟩
  · exact l1 k hk
  · exact l2 k hk
  · exact l3 p hp k hk
theorem RqO.keep {S : Nat → Prop} {base : Nat} {w w' : World} {mv cv : Value} {R : Rl} {cs : List CV} (h : RqO base w mv cv R cs) (hf : Frm S w w') (hS : ∀ k, RlB mv cv cs k → ¬ S k) : RqO base w' mv cv R cs :=
  h.frm hf (fun k hk => hS k (.inl hk)) (fun k hk => hS k (.inr (.inl hk))) (fun p hp k hk => hS k (.inr (.inr ⟨p, hp, hk⟩)))
theorem rqo_nil (base : Nat) (w : World) : RqO base w (.slice none 0 0) (.slice none 0 0) ⟨[], ([] : List CV).map (·.1)⟩ [] :=
  ⟨rfl, World.ownsRow_nil _ _ _ _, World.ownsRow_nil _ _ _ _, by simp, (fun k hk => by cases hk), by simp, by simp, List.Pairwise.nil⟩
/-- Copy under way: the result's block A, the argument's block b, the copy's block C. -/
structure CpI (w0 wr : World) (A C b : Nat) (v0 v1 mv cv : Value) (ms : List Mem) (cs : List CV) : Prop where
  res : Box w0 wr A [.slice none 0 0, .slice none 0 0]
  arg : Box w0 wr b [v0, v1]
  box : Box w0 wr C [mv, cv]
  own : RqO w0.heap.size wr mv cv ⟨ms, cs.map (·.1)⟩ cs
  bC : b ≠ C
  AC : A ≠ C
  off : ∀ k, RlB mv cv cs k → k ≠ A ∧ k ≠ b ∧ k ≠ C
section
variable {w0 wr w2 : World} {A b C : Nat} {v0 v1 mv cv mv' cv' : Value} {ms ms' : List Mem} {cs : List CV}
theorem CpI.no (h : CpI w0 wr A C b v0 v1 mv cv ms cs) (hf : Frm No wr w2) : CpI w0 w2 A C b v0 v1 mv cv ms cs :=
  ⟨h.res.no hf, h.arg.no hf, h.box.no hf, h.own.keep hf (fun _ _ h => h), h.bC, h.AC, h.off⟩
theorem CpI.oth {S : Nat → Prop} (h : CpI w0 wr A C b v0 v1 mv cv ms cs) (hf : Frm S wr w2) (hA : ¬ S A) (hb : ¬ S b) (hC : ¬ S C) (hR : ∀ k, RlB mv cv cs k → ¬ S k) (h0 : ∀ k, S k → w0.heap.size ≤ k) : CpI w0 w2 A C b v0 v1 mv cv ms cs :=
  ⟨h.res.other hf hA h0, h.arg.other hf hb h0, h.box.other hf hC h0, h.own.keep hf hR, h.bC, h.AC, h.off⟩
theorem CpI.store (hr : Box w0 w2 A [.slice none 0 0, .slice none 0 0]) (hi : Box w0 w2 b [v0, v1]) (hb : Box w0 w2 C [mv, cv]) (ho : RqO w0.heap.size w2 mv' cv' ⟨ms, cs.map (·.1)⟩ cs) (h2 : b ≠ C) (h4 : A ≠ C) (h5 : ∀ k, RlB mv' cv' cs k → k ≠ A ∧ k ≠ b ∧ k ≠ C) (j : Nat) (x : Value)
    (hx : [mv, cv].set j x = [mv', cv']) (hj : j < 2) : CpI w0 (w2.setCell ⟨C, j, none⟩ x) A C b v0 v1 mv' cv' ms cs := by
  have hF : Frm (One C) w2 (w2.setCell ⟨C, j, none⟩ x) := setCell_own _
  have hB := hb.set j (by simpa using hj) x
  rw [hx] at hB
  exact ⟨hr.setOther hb.hC h4 j x, hi.setOther hb.hC h2 j x, hB, ho.keep hF (fun k hk e => (h5 k hk).2.2 e), h2, h4, h5⟩
theorem CpI.addM (h : CpI w0 wr A C b v0 v1 mv cv ms cs) (hf : Frm (Own mv) wr w2) (ho : w2.ownsRow w0.heap.size 48 3 mv' ms'.length (rows memV ms')) (hn : mv'.ownBlock = mv.ownBlock ∨ ∃ k, mv'.ownBlock = some k ∧ wr.heap.size ≤ k) :
    CpI w0 (w2.setCell ⟨C, 0, none⟩ mv') A C b v0 v1 mv' cv ms' cs := by
  have hO := h.own.setM hf ms' ho hn
  have hmv : ∀ k, Own mv k → RlB mv cv cs k := fun k hk => .inl hk
  have hg : ∀ k, Own mv k → w0.heap.size ≤ k := fun k hk => (h.own.b_lt (hmv k hk)).1
  have hA := h.res.lC
  have hb := h.arg.lC
  have hC := h.box.lC
  refine CpI.store (h.res.other hf (fun e => (h.off A (hmv A e)).1 rfl) hg) (h.arg.other hf (fun e => (h.off b (hmv b e)).2.1 rfl) hg) (h.box.other hf (fun e => (h.off C (hmv C e)).2.2 rfl) hg) hO h.bC h.AC (fun k hk => ?_) 0 mv' rfl (by omega)
  rcases hk with hk | hk
  · rcases hn with hn | ⟨k', hn, hk'⟩
    · exact h.off k (.inl (hn ▸ hk))
    · rw [hk] at hn
      cases hn
      omega
  · exact h.off k (.inr hk)
theorem CpI.addC (h : CpI w0 wr A C b v0 v1 mv cv ms cs) (x : CV) (hx : wr.ownsRow w0.heap.size 9 1 (sv x) x.1.students.length (rows strV x.1.students)) (hd : ∀ k, (sv x).ownBlock = some k → ¬ RlB mv cv cs k ∧ k ≠ A ∧ k ≠ b ∧ k ≠ C) (hf : Frm (Own cv) wr w2)
    (ho : w2.ownsRow w0.heap.size 57 3 cv' (cs ++ [x]).length (rows clsV (cs ++ [x]))) (hn : cv'.ownBlock = cv.ownBlock ∨ ∃ k, cv'.ownBlock = some k ∧ wr.heap.size ≤ k) :
    CpI w0 (w2.setCell ⟨C, 1, none⟩ cv') A C b v0 v1 mv cv' ms (cs ++ [x]) := by
  have hO := h.own.addC x hx (fun k hk e => (hd k e).1 (.inl hk)) (fun k hk e => (hd k e).1 (.inr (.inl hk))) (fun p hp k hk e => (hd k e).1 (.inr (.inr ⟨p, hp, hk⟩))) hf ho hn
  have hcv : ∀ k, Own cv k → RlB mv cv cs k := fun k hk => .inr (.inl hk)
  have hg : ∀ k, Own cv k → w0.heap.size ≤ k := fun k hk => (h.own.b_lt (hcv k hk)).1
  have hA := h.res.lC
  have hb := h.arg.lC
  have hC := h.box.lC
  refine CpI.store (h.res.other hf (fun e => (h.off A (hcv A e)).1 rfl) hg) (h.arg.other hf (fun e => (h.off b (hcv b e)).2.1 rfl) hg) (h.box.other hf (fun e => (h.off C (hcv C e)).2.2 rfl) hg) hO h.bC h.AC (fun k hk => ?_) 1 cv' rfl (by omega)
  rcases hk with hk | hk | ⟨p, hp, hk⟩
  · exact h.off k (.inl hk)
  · rcases hn with hn | ⟨k', hn, hk'⟩
    · exact h.off k (.inr (.inl (hn ▸ hk)))
    · rw [hk] at hn
      cases hn
      omega
  · rcases List.mem_append.1 hp with hp | hp
    · exact h.off k (.inr (.inr ⟨p, hp, hk⟩))
    · obtain rfl := List.mem_singleton.1 hp
      exact (hd k hk).2
/-- A class under way: its block F, its students a row of the call's own. -/
structure CpS (w0 wr : World) (A C b F : Nat) (v0 v1 mv cv : Value) (ms : List Mem) (cs : List CV) (xn xt : B) (xv : Value) (xs : List B) : Prop where
  st : CpI w0 wr A C b v0 v1 mv cv ms cs
  fb : Box w0 wr F [.string ⟨xn.toArray⟩, .string ⟨xt.toArray⟩, xv]
  so : wr.ownsRow w0.heap.size 9 1 xv xs.length (rows strV xs)
  fo : F ≠ A ∧ F ≠ b ∧ F ≠ C ∧ ¬ RlB mv cv cs F
  xo : ∀ k, xv.ownBlock = some k → ¬ RlB mv cv cs k ∧ k ≠ A ∧ k ≠ b ∧ k ≠ C ∧ k ≠ F
variable {F : Nat} {xn xt : B} {xv xv' : Value} {xs xs' : List B}
theorem CpS.no (h : CpS w0 wr A C b F v0 v1 mv cv ms cs xn xt xv xs) (hf : Frm No wr w2) : CpS w0 w2 A C b F v0 v1 mv cv ms cs xn xt xv xs :=
  ⟨h.st.no hf, h.fb.no hf, hf.row h.so (fun _ _ h => h), h.fo, h.xo⟩
/-- A class begins: its block was made. -/
theorem CpI.begin (h : CpI w0 wr A C b v0 v1 mv cv ms cs) (hf : Frm No wr w2) (hF : Box w0 w2 F [.string ⟨xn.toArray⟩, .string ⟨xt.toArray⟩, .slice none 0 0]) (hk : wr.heap.size ≤ F) : CpS w0 w2 A C b F v0 v1 mv cv ms cs xn xt (.slice none 0 0) [] := by
  have hA := h.res.lC
  have hb := h.arg.lC
  have hC := h.box.lC
  exact ⟨h.no hf, hF, World.ownsRow_nil _ _ _ _, ⟨by omega, by omega, by omega, fun e => by have := (h.own.b_lt e).2; omega⟩, fun k hk => by cases hk⟩
theorem CpS.addS (h : CpS w0 wr A C b F v0 v1 mv cv ms cs xn xt xv xs) (hf : Frm (Own xv) wr w2) (ho : w2.ownsRow w0.heap.size 9 1 xv' xs'.length (rows strV xs')) (hn : xv'.ownBlock = xv.ownBlock ∨ ∃ k, xv'.ownBlock = some k ∧ wr.heap.size ≤ k) :
    CpS w0 (w2.setCell ⟨F, 2, none⟩ xv') A C b F v0 v1 mv cv ms cs xn xt xv' xs' := by
  have hF : Frm (One F) w2 (w2.setCell ⟨F, 2, none⟩ xv') := setCell_own _
  have hg : ∀ k, Own xv k → w0.heap.size ≤ k := fun k hk => (h.so.lt k hk).1
  have hA := h.st.res.lC
  have hb := h.st.arg.lC
  have hC := h.st.box.lC
  have hFl := h.fb.lC
  have h1 := h.st.oth hf (fun e => (h.xo A e).2.1 rfl) (fun e => (h.xo b e).2.2.1 rfl) (fun e => (h.xo C e).2.2.2.1 rfl) (fun k hk e => (h.xo k e).1 hk) hg
  have h2 := h1.oth hF (fun e => h.fo.1 e.symm) (fun e => h.fo.2.1 e.symm) (fun e => h.fo.2.2.1 e.symm) (fun k hk e => h.fo.2.2.2 (by have e : k = F := e; exact e ▸ hk)) (fun k e => by have e : k = F := e; rw [e]; exact h.fb.hC)
  have h3 := (h.fb.other hf (fun e => (h.xo F e).2.2.2.2 rfl) hg).set 2 (by simp) xv'
  have hoff : ∀ k, xv'.ownBlock = some k → ¬ RlB mv cv cs k ∧ k ≠ A ∧ k ≠ b ∧ k ≠ C ∧ k ≠ F := fun k hk => by
    rcases hn with hn | ⟨k', hn, hk'⟩
    · exact h.xo k (hn ▸ hk)
    · rw [hk] at hn
      cases hn
      exact ⟨fun e => by have := (h.st.own.b_lt e).2; omega, by omega, by omega, by omega, by omega⟩
  exact ⟨h2, h3, hF.row ho (fun k hk e => (hoff k hk).2.2.2.2 e), h.fo, hoff⟩
end
end Go.Proofs.YtofcmghhmklmiaaGreat
