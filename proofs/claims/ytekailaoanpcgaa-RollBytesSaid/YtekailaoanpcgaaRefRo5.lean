/- The reference's Get. Printed by a program (rogetl.py). -/
import Derived.Test.YtekailaoanpcgaaRefRo2
import Derived.Test.YtekailaoanpcgaaRollW
import Derived.Test.YtekailaoanpcgaaRefRo4
namespace Go.Proofs.Ytekailaoanpcgaa
open Go.RowKit
open Roll
/-- A roll of the reference's, whose parts are the call's own, from block 'base' on. -/
structure RqO (base : Nat) (w : World) (mv cv : Value) (R : Rl) (cs : List CV) : Prop where
  fst : cs.map (·.1) = R.clss
  mo : w.ownsRow base 91 3 mv R.mems.length (rows memV R.mems)
  co : w.ownsRow base 92 3 cv cs.length (rows clsV cs)
  so : ∀ p ∈ cs, w.ownsRow base 9 1 (sv p) p.1.students.length (rows strV p.1.students)
  dmc : Dj mv cv
  dms : ∀ p ∈ cs, Dj mv (sv p)
  dcs : ∀ p ∈ cs, Dj cv (sv p)
  dss : cs.Pairwise fun p q => Dj (sv p) (sv q)
theorem RqO.rd {base : Nat} {w : World} {mv cv : Value} {R : Rl} {cs : List CV} (h : RqO base w mv cv R cs) : RlR w mv cv R :=
  ⟨rdl_own memS h.mo, cs, h.fst, rdl_own clsS h.co, fun p hp => rdl_own strS (h.so p hp)⟩
theorem RqO.frm {S : Nat → Prop} {base : Nat} {w w' : World} {mv cv : Value} {R : Rl} {cs : List CV} (h : RqO base w mv cv R cs) (hf : Frm S w w') (hm : ∀ k, mv.ownBlock = some k → ¬ S k) (hc : ∀ k, cv.ownBlock = some k → ¬ S k) (hs : ∀ p ∈ cs, ∀ k, (sv p).ownBlock = some k → ¬ S k) : RqO base w' mv cv R cs :=
  ⟨h.fst, hf.row h.mo hm, hf.row h.co hc, fun p hp => hf.row (h.so p hp) (hs p hp), h.dmc, h.dms, h.dcs, h.dss⟩
theorem RqO.no {base : Nat} {w w' : World} {mv cv : Value} {R : Rl} {cs : List CV} (h : RqO base w mv cv R cs) (hf : Frm No w w') : RqO base w' mv cv R cs := h.frm hf (fun _ _ h => h) (fun _ _ h => h) (fun _ _ _ _ h => h)
theorem RqO.lt {base : Nat} {w : World} {mv cv : Value} {R : Rl} {cs : List CV} (h : RqO base w mv cv R cs) : (∀ k, mv.ownBlock = some k → base ≤ k ∧ k < w.heap.size) ∧ (∀ k, cv.ownBlock = some k → base ≤ k ∧ k < w.heap.size) ∧ ∀ p ∈ cs, ∀ k, (sv p).ownBlock = some k → base ≤ k ∧ k < w.heap.size :=
  ⟨fun k hk => h.mo.lt k hk, fun k hk => h.co.lt k hk, fun p hp k hk => (h.so p hp).lt k hk⟩
/-- The list of members became another one. -/
theorem RqO.setM {base : Nat} {w w' : World} {mv cv mv' : Value} {R : Rl} {cs : List CV} (h : RqO base w mv cv R cs) (hf : Frm (Own mv) w w') (l : List Mem) (ho : w'.ownsRow base 91 3 mv' l.length (rows memV l)) (hn : mv'.ownBlock = mv.ownBlock ∨ ∃ k, mv'.ownBlock = some k ∧ w.heap.size ≤ k) :
    RqO base w' mv' cv ⟨l, R.clss⟩ cs := by
  obtain ⟨l1, l2, l3⟩ := h.lt
  have key : ∀ v : Value, (∀ k, v.ownBlock = some k → k < w.heap.size) → Dj mv v → Dj mv' v := fun v hv hd k hk e => by
    rcases hn with hn | ⟨k', hn, hk'⟩
    · exact hd k (hn ▸ hk) e
    · rw [hk] at hn
      cases hn
      have := hv k e
      omega
  exact ⟨h.fst, ho, hf.row h.co (fun k hk e => h.dmc k e hk), fun p hp => hf.row (h.so p hp) (fun k hk e => h.dms p hp k e hk), key cv (fun k hk => (l2 k hk).2) h.dmc, fun p hp => key (sv p) (fun k hk => (l3 p hp k hk).2) (h.dms p hp), h.dcs, h.dss⟩
/-- A class was put behind the others. -/
theorem RqO.addC {base : Nat} {w w' : World} {mv cv cv' : Value} {R : Rl} {cs : List CV} (h : RqO base w mv cv R cs) (x : CV) (hx : w.ownsRow base 9 1 (sv x) x.1.students.length (rows strV x.1.students)) (d1 : Dj mv (sv x)) (d2 : Dj cv (sv x)) (d3 : ∀ p ∈ cs, Dj (sv p) (sv x))
    (hf : Frm (Own cv) w w') (ho : w'.ownsRow base 92 3 cv' (cs ++ [x]).length (rows clsV (cs ++ [x]))) (hn : cv'.ownBlock = cv.ownBlock ∨ ∃ k, cv'.ownBlock = some k ∧ w.heap.size ≤ k) : RqO base w' mv cv' ⟨R.mems, (cs ++ [x]).map (·.1)⟩ (cs ++ [x]) := by
  obtain ⟨l1, l2, l3⟩ := h.lt
  have key : ∀ v : Value, (∀ k, v.ownBlock = some k → k < w.heap.size) → Dj cv v → Dj cv' v := fun v hv hd k hk e => by
    rcases hn with hn | ⟨k', hn, hk'⟩
    · exact hd k (hn ▸ hk) e
    · rw [hk] at hn
      cases hn
      have := hv k e
      omega
  refine ⟨rfl, hf.row h.mo (fun k hk e => h.dmc k hk e), ho, fun p hp => ?_, (key mv (fun k hk => (l1 k hk).2) h.dmc.symm).symm, fun p hp => ?_, fun p hp => ?_, ?_⟩
  · rcases List.mem_append.1 hp with hp | hp
    · exact hf.row (h.so p hp) (fun k hk e => h.dcs p hp k e hk)
    · obtain rfl := List.mem_singleton.1 hp
      exact hf.row hx (fun k hk e => d2 k e hk)
  · rcases List.mem_append.1 hp with hp | hp
    · exact h.dms p hp
    · obtain rfl := List.mem_singleton.1 hp
      exact d1
  · rcases List.mem_append.1 hp with hp | hp
    · exact key (sv p) (fun k hk => (l3 p hp k hk).2) (h.dcs p hp)
    · obtain rfl := List.mem_singleton.1 hp
      exact key _ (fun k hk => (hx.lt k hk).2) d2
  · refine List.pairwise_append.2 ⟨h.dss, List.pairwise_singleton _ _, fun p hp q hq => ?_⟩
    obtain rfl := List.mem_singleton.1 hq
    exact d3 p hp
theorem RqO.b_lt {base : Nat} {w : World} {mv cv : Value} {R : Rl} {cs : List CV} (h : RqO base w mv cv R cs) {k : Nat} (hk : RlB mv cv cs k) : base ≤ k ∧ k < w.heap.size := by
  obtain ⟨l1, l2, l3⟩ := h.lt
  rcases hk with hk | hk | ⟨p, hp, hk⟩
  · exact l1 k hk
  · exact l2 k hk
  · exact l3 p hp k hk
theorem RqO.keep {S : Nat → Prop} {base : Nat} {w w' : World} {mv cv : Value} {R : Rl} {cs : List CV} (h : RqO base w mv cv R cs) (hf : Frm S w w') (hS : ∀ k, RlB mv cv cs k → ¬ S k) : RqO base w' mv cv R cs :=
  h.frm hf (fun k hk => hS k (.inl hk)) (fun k hk => hS k (.inr (.inl hk))) (fun p hp k hk => hS k (.inr (.inr ⟨p, hp, hk⟩)))
/-- Get under way: the bytes left, the error; the result's block A, the In's block b, the roll's block C. -/
structure GqI (w0 wr : World) (A b C : Nat) (s : List UInt8) (e : Int) (mv cv : Value) (ms : List Mem) (cs : List CV) : Prop where
  inp : InAt wr b s e
  len : s.length ≤ 281474976710656
  res : Box w0 wr A [.slice none 0 0, .slice none 0 0]
  box : Box w0 wr C [mv, cv]
  own : RqO w0.heap.size wr mv cv ⟨ms, cs.map (·.1)⟩ cs
  hb : w0.heap.size ≤ b
  bC : b ≠ C
  bA : b ≠ A
  AC : A ≠ C
  off : ∀ k, RlB mv cv cs k → k ≠ A ∧ k ≠ b ∧ k ≠ C
section
variable {w0 wr w2 : World} {A b C : Nat} {s s' : List UInt8} {e e' : Int} {mv cv mv' cv' : Value} {ms ms' : List Mem} {cs : List CV}
theorem GqI.no (h : GqI w0 wr A b C s e mv cv ms cs) (hf : Frm No wr w2) : GqI w0 w2 A b C s e mv cv ms cs :=
  ⟨h.inp.frm hf (fun h => h), h.len, h.res.no hf, h.box.no hf, h.own.keep hf (fun _ _ h => h), h.hb, h.bC, h.bA, h.AC, h.off⟩
theorem GqI.read (h : GqI w0 wr A b C s e mv cv ms cs) (hi : InAt w2 b s' e') (hl : s'.length ≤ s.length) (hf : Frm (One b) wr w2) : GqI w0 w2 A b C s' e' mv cv ms cs :=
  ⟨hi, by have := h.len; omega, h.res.other hf (fun e => h.bA e.symm) (fun k hk => by have hk : k = b := hk; have := h.hb; omega), h.box.other hf (fun e => h.bC e.symm) (fun k hk => by have hk : k = b := hk; have := h.hb; omega),
    h.own.keep hf (fun k hk e => (h.off k hk).2.1 e), h.hb, h.bC, h.bA, h.AC, h.off⟩
/-- The roll's block was written to. -/
theorem GqI.store (hi : InAt w2 b s e) (hl : s.length ≤ 281474976710656) (hr : Box w0 w2 A [.slice none 0 0, .slice none 0 0]) (hb : Box w0 w2 C [mv, cv]) (ho : RqO w0.heap.size w2 mv' cv' ⟨ms, cs.map (·.1)⟩ cs) (h1 : w0.heap.size ≤ b) (h2 : b ≠ C) (h3 : b ≠ A) (h4 : A ≠ C) (h5 : ∀ k, RlB mv' cv' cs k → k ≠ A ∧ k ≠ b ∧ k ≠ C) (j : Nat) (x : Value)
    (hx : [mv, cv].set j x = [mv', cv']) (hj : j < 2) : GqI w0 (w2.setCell ⟨C, j, none⟩ x) A b C s e mv' cv' ms cs := by
  have hF : Frm (One C) w2 (w2.setCell ⟨C, j, none⟩ x) := setCell_own _
  have hB := hb.set j (by simpa using hj) x
  rw [hx] at hB
  exact ⟨hi.frm hF h2, hl, hr.setOther hb.hC h4 j x, hB, ho.keep hF (fun k hk e => (h5 k hk).2.2 e), h1, h2, h3, h4, h5⟩
theorem GqI.addM (h : GqI w0 wr A b C s e mv cv ms cs) (hf : Frm (Own mv) wr w2) (ho : w2.ownsRow w0.heap.size 91 3 mv' ms'.length (rows memV ms')) (hn : mv'.ownBlock = mv.ownBlock ∨ ∃ k, mv'.ownBlock = some k ∧ wr.heap.size ≤ k) :
    GqI w0 (w2.setCell ⟨C, 0, none⟩ mv') A b C s e mv' cv ms' cs := by
  have hO := h.own.setM hf ms' ho hn
  have hmv : ∀ k, Own mv k → RlB mv cv cs k := fun k hk => .inl hk
  have hg : ∀ k, Own mv k → w0.heap.size ≤ k := fun k hk => (h.own.b_lt (hmv k hk)).1
  have hA := h.res.lC
  have hb := h.inp.lt
  have hC := h.box.lC
  refine GqI.store (h.inp.frm hf (fun e => (h.off b (hmv b e)).2.1 rfl)) h.len (h.res.other hf (fun e => (h.off A (hmv A e)).1 rfl) hg) (h.box.other hf (fun e => (h.off C (hmv C e)).2.2 rfl) hg) hO h.hb h.bC h.bA h.AC (fun k hk => ?_) 0 mv' rfl (by omega)
  rcases hk with hk | hk
  · rcases hn with hn | ⟨k', hn, hk'⟩
    · exact h.off k (.inl (hn ▸ hk))
    · rw [hk] at hn
      cases hn
      omega
  · exact h.off k (.inr hk)
theorem GqI.addC (h : GqI w0 wr A b C s e mv cv ms cs) (x : CV) (hx : wr.ownsRow w0.heap.size 9 1 (sv x) x.1.students.length (rows strV x.1.students)) (hd : ∀ k, (sv x).ownBlock = some k → ¬ RlB mv cv cs k ∧ k ≠ A ∧ k ≠ b ∧ k ≠ C) (hf : Frm (Own cv) wr w2)
    (ho : w2.ownsRow w0.heap.size 92 3 cv' (cs ++ [x]).length (rows clsV (cs ++ [x]))) (hn : cv'.ownBlock = cv.ownBlock ∨ ∃ k, cv'.ownBlock = some k ∧ wr.heap.size ≤ k) :
    GqI w0 (w2.setCell ⟨C, 1, none⟩ cv') A b C s e mv cv' ms (cs ++ [x]) := by
  have hO := h.own.addC x hx (fun k hk e => (hd k e).1 (.inl hk)) (fun k hk e => (hd k e).1 (.inr (.inl hk))) (fun p hp k hk e => (hd k e).1 (.inr (.inr ⟨p, hp, hk⟩))) hf ho hn
  have hcv : ∀ k, Own cv k → RlB mv cv cs k := fun k hk => .inr (.inl hk)
  have hg : ∀ k, Own cv k → w0.heap.size ≤ k := fun k hk => (h.own.b_lt (hcv k hk)).1
  have hA := h.res.lC
  have hb := h.inp.lt
  have hC := h.box.lC
  refine GqI.store (h.inp.frm hf (fun e => (h.off b (hcv b e)).2.1 rfl)) h.len (h.res.other hf (fun e => (h.off A (hcv A e)).1 rfl) hg) (h.box.other hf (fun e => (h.off C (hcv C e)).2.2 rfl) hg) hO h.hb h.bC h.bA h.AC (fun k hk => ?_) 1 cv' rfl (by omega)
  rcases hk with hk | hk | ⟨p, hp, hk⟩
  · exact h.off k (.inl hk)
  · rcases hn with hn | ⟨k', hn, hk'⟩
    · exact h.off k (.inr (.inl (hn ▸ hk)))
    · rw [hk] at hn
      cases hn
      omega
  · rcases List.mem_append.1 hp with hp | hp
    · exact h.off k (.inr (.inr ⟨p, hp, hk⟩))
    · obtain rfl := List.mem_singleton.1 hp
      exact (hd k hk).2
/-- A value was read. -/
def GqP (w0 wr : World) (A b C : Nat) (s : List UInt8) (e : Int) (mv cv : Value) (ms : List Mem) (cs : List CV) (v : Value) (r : Ending) (w' : World) : Prop := r = .returned v ∧ GqI w0 w' A b C s e mv cv ms cs ∧ Frm (One b) wr w'
theorem GqI.int {n : Int} (h : GqI w0 wr A b C s e mv cv ms cs) (hr : Oct.rInt s e = (n, s', e')) : Calls Try.prog 47 #[.pointer (some ⟨b, 0, none⟩)] wr (GqP w0 wr A b C s' e' mv cv ms cs (.int .i64 n)) := by
  refine (ref_int b s e wr h.inp h.len).mono ?_
  have hl := rInt_len s e
  rw [hr] at hl ⊢
  rintro r w2 ⟨rfl, hi, hf⟩
  exact ⟨rfl, h.read hi hl hf, hf⟩
theorem GqI.text {n : List UInt8} (h : GqI w0 wr A b C s e mv cv ms cs) (hr : Oct.rText s e = (n, s', e')) : Calls Try.prog 48 #[.pointer (some ⟨b, 0, none⟩)] wr (GqP w0 wr A b C s' e' mv cv ms cs (.string ⟨n.toArray⟩)) := by
  refine (ref_text b s e wr h.inp h.len).mono ?_
  have hl := (rText_len s e).1
  rw [hr] at hl ⊢
  rintro r w2 ⟨rfl, hi, hf⟩
  exact ⟨rfl, h.read hi hl hf, hf⟩
def GqLP (w0 wr : World) (A b C : Nat) (s : List UInt8) (e : Int) (mv cv : Value) (ms : List Mem) (cs : List CV) (l : List B) (r : Ending) (w' : World) : Prop :=
  ∃ ao c, r = .returned (.slice ao l.length c) ∧ w'.ownsRow wr.heap.size 9 1 (.slice ao l.length c) l.length (rows strV l) ∧ GqI w0 w' A b C s e mv cv ms cs ∧ Frm (One b) wr w'
theorem GqI.texts {l : List B} (h : GqI w0 wr A b C s e mv cv ms cs) (hr : Oct.rTexts 256 s e = (l, s', e')) : Calls Try.prog 49 #[.pointer (some ⟨b, 0, none⟩), .int .i64 256] wr (GqLP w0 wr A b C s' e' mv cv ms cs l) := by
  refine (ref_texts b 256 s e wr h.inp h.len).mono ?_
  have hl := rTexts_len 256 s e
  rw [hr] at hl ⊢
  rintro r w2 ⟨v, rfl, hown, hi, hf⟩
  have hsl : (strsV l).length = l.length := by simp [strsV]
  dsimp only at hown
  rw [hsl, ← rows_strs] at hown
  obtain ⟨ao, c, rfl⟩ := ownsRow_shape hown
  exact ⟨ao, c, rfl, hown, h.read hi hl hf, hf⟩
end
theorem GqI.oth {S : Nat → Prop} {w0 wr w2 : World} {A b C : Nat} {s : List UInt8} {e : Int} {mv cv : Value} {ms : List Mem} {cs : List CV} (h : GqI w0 wr A b C s e mv cv ms cs) (hf : Frm S wr w2) (hA : ¬ S A) (hb : ¬ S b) (hC : ¬ S C) (hR : ∀ k, RlB mv cv cs k → ¬ S k) (h0 : ∀ k, S k → w0.heap.size ≤ k) : GqI w0 w2 A b C s e mv cv ms cs :=
  ⟨h.inp.frm hf hb, h.len, h.res.other hf hA h0, h.box.other hf hC h0, h.own.keep hf hR, h.hb, h.bC, h.bA, h.AC, h.off⟩
theorem rqo_nil (base : Nat) (w : World) : RqO base w (.slice none 0 0) (.slice none 0 0) ⟨[], ([] : List CV).map (·.1)⟩ [] :=
  ⟨rfl, World.ownsRow_nil _ _ _ _, World.ownsRow_nil _ _ _ _, by simp, (fun k hk => by cases hk), by simp, by simp, List.Pairwise.nil⟩
theorem refright_is {R : Rl} {mv cv : Value} {w : World} (hr : RlR w mv cv R) (h1 : R.mems.length ≤ 1000) (h2 : R.clss.length ≤ 1000) (h3 : ∀ c ∈ R.clss, c.students.length ≤ 1000 ∧ c.name.length ≤ 65536) (h4 : ∀ m ∈ R.mems, m.name.length ≤ 65536) :
    Calls Try.prog 50 #[.agg #[mv, cv]] w fun e w' => e = .returned (.bool (rightB R)) ∧ Frm No w w' :=
  (refright_any R mv cv w hr h1 h2 h3 h4).mono fun e w' ⟨q, h5, h6, h7⟩ => ⟨by
    rw [h5]
    have : q = rightB R := by rw [Bool.eq_iff_iff, h6, rightB_iff]
    rw [this], h7⟩
set_option maxRecDepth 100000 in
set_option maxHeartbeats 8000000 in
theorem roget_any (s : List UInt8) (w : World) (hl : s.length ≤ 281474976710656) : Calls Try.prog 17 #[.string ⟨s.toArray⟩] w (DeedP w (getR s)) := by
  obtain ⟨i0, gi, gz0, gz1, gz2⟩ := info_parts info_rmem
  obtain ⟨j0, ji, jz0, jz1, jz2⟩ := info_parts info_rcls
  obtain ⟨⟨n, s1, e1⟩, hr1⟩ : ∃ x, Oct.rInt s 0 = x := ⟨_, rfl⟩
  have HR1 := hid hr1
  clear hr1
  go_enter Try.func17, Try.ntmps17
  go_upto_region 3 with fail
  have X0 := Box.new (Frm.refl No w) [.slice none 0 0, .slice none 0 0] 55
  have X1 := Box.new X0.frm [.string ⟨s.toArray⟩, .int .i64 0] 88
  have X2 := Box.new X1.frm [.slice none 0 0, .slice none 0 0] 55
  have Y1 := X1.no ((Frm.refl No _).alloc (.cells #[.slice none 0 0, .slice none 0 0] 55))
  have Y0 := (X0.no ((Frm.refl No _).alloc (.cells #[.string ⟨s.toArray⟩, .int .i64 0] 88))).no ((Frm.refl No _).alloc (.cells #[.slice none 0 0, .slice none 0 0] 55))
  simp only [World.size_alloc] at X2 Y1
  obtain ⟨WC, hW⟩ : ∃ W, W = ((w.alloc (.cells #[.slice none 0 0, .slice none 0 0] 55)).alloc (.cells #[.string ⟨s.toArray⟩, .int .i64 0] 88)).alloc (.cells #[.slice none 0 0, .slice none 0 0] 55) := ⟨_, rfl⟩
  rw [← hW] at X2 Y1 Y0 ⊢
  clear hW
  obtain ⟨A, hA⟩ : ∃ A, w.heap.size = A := ⟨_, rfl⟩
  rw [hA] at X2 Y1 Y0
  simp only [hA]
  have hGt : GqI w WC A (A + 1) (A + 1 + 1) s 0 (.slice none 0 0) (.slice none 0 0) [] [] :=
    ⟨⟨Y1.cell 0, Y1.cell 1, Y1.fr⟩, hl, Y0, X2, rqo_nil _ _, by omega, by omega, by omega, by omega, fun k hk => (rlb_nil hk).elim⟩
  have HG := hid hGt
  have HIN := hid (hGt.int HR1.out)
  clear X0 X1 X2 Y1 Y0 hGt HG
  by_cases hn : 0 ≤ n ∧ n ≤ 256
  · as_aux_lemma =>
    obtain ⟨N, rfl⟩ := Int.eq_ofNat_of_zero_le hn.1
    have hN : N ≤ 256 := by omega
    clear hn
    obtain ⟨⟨ms2, s2, e2⟩, hr2⟩ : ∃ x, rMems N s1 e1 [] = x := ⟨_, rfl⟩
    have HGET := hid (getR_in HR1.out hN hr2)
    have HR2 := hid hr2
    clear hr2 HR1
    go_upto_region 4 with (go_at_call 47; refine HIN.out.mono ?_; rintro e w2 ⟨rfl, hg2, -⟩)
    have HG2 := hid hg2
    have k1 := hg2.inp.c1
    clear hg2 HIN
    have hnb1 : ¬ (N : Int) < 0 := by omega
    have hnb2 : ¬ (256 : Int) < (N : Int) := by omega
    go_cut [28] from 16 to 28 (fun p wq => p = .bool false ∧ wq = w2)
    case first =>
      as_aux_lemma =>
      by_cases hek : e1 = 0
      · subst hek
        go_wp2_with fail
        go_meet
        exact ⟨rfl, rfl⟩
      · have hekb : (e1 == 0) = false := beq_eq_false_iff_ne.2 hek
        go_wp2_with fail
        go_meet
        exact ⟨rfl, rfl⟩
    case rest =>
      as_aux_lemma =>
      obtain ⟨rfl, rfl⟩ := hcut
      clear k1 hnb1 hnb2
      go_wp2_with fail
      go_loopw [7, 8] (fun iv _ wr => ∃ (k : Nat) (sk : List UInt8) (ek : Int) (mv : Value) (ms : List Mem), k ≤ N ∧ iv = .int .i64 (k : Int) ∧ GqI w wr A (A + 1) (A + 1 + 1) sk ek mv (.slice none 0 0) ms [] ∧ rMems (N - k) sk ek ms = (ms2, s2, e2) ∧ ms.length = k ∧ ∀ m ∈ ms, m.name.length ≤ 65536)
        (fun iv _ _ => N - (intOf iv).toNat)
      case atStart => exact ⟨0, s1, e1, _, [], by omega, rfl, HG2.out, HR2.out, rfl, by simp⟩
      case round =>
        clear HG2
        obtain ⟨k, sk, ek, mv, ms, hk, rfl, hG, hrun, hml, hmn⟩ := hrel
        obtain ⟨ao, cp, rfl⟩ := ownsRow_shape hG.own.mo
        have HG := hid hG
        have HRUN := hid hrun
        have HML := hid hml
        have HMN := hid hmn
        have k1 := hG.inp.c1
        clear hG hrun hml hmn HR2
        go_upto_region 7 with fail
        go_cut [39] from 30 to 39 (fun p wq => p = .bool (decide (k < N) && decide (ek = 0)) ∧ wq = wr)
        case first =>
          as_aux_lemma =>
          by_cases hkn : k < N
          · by_cases hek : ek = 0
            · subst hek
              go_wp2_with fail
              go_meet
              exact ⟨by simp [hkn], rfl⟩
            · have hekb : (ek == 0) = false := beq_eq_false_iff_ne.2 hek
              go_wp2_with fail
              go_meet
              exact ⟨by simp [hkn, hek], rfl⟩
          · go_wp2_with fail
            go_meet
            exact ⟨by simp [hkn], rfl⟩
        case rest =>
          as_aux_lemma =>
          obtain ⟨rfl, rfl⟩ := hcut
          clear k1
          by_cases hq : k < N ∧ ek = 0
          · as_aux_lemma =>
            obtain ⟨hkn, rfl⟩ := hq
            have hqb : (decide (k < N) && decide ((0 : Int) = 0)) = true := by simp [hkn]
            rw [hqb]
            obtain ⟨⟨a, sa, ea⟩, hT⟩ : ∃ x, Oct.rText sk 0 = x := ⟨_, rfl⟩
            obtain ⟨⟨ro, sb, eb⟩, hRo⟩ : ∃ x, Oct.rInt sa ea = x := ⟨_, rfl⟩
            obtain ⟨⟨qu, sc, ec⟩, hQ⟩ : ∃ x, Oct.rInt sb eb = x := ⟨_, rfl⟩
            have hal : a.length ≤ 65536 := by have := (rText_len sk 0).2; rw [hT] at this; exact this
            have HNX : Hid (rMems (N - (k + 1)) sc ec (ms ++ [⟨a, ro, qu⟩]) = (ms2, s2, e2)) := hid (by
              have := HRUN.out
              rw [show N - k = (N - (k + 1)) + 1 by omega, rMems_step (rMem_of hT hRo hQ)] at this
              exact this)
            have HT := hid hT
            have HRo := hid hRo
            have HQ := hid hQ
            clear hT hRo hQ hqb HRUN
            have hkm : ms.length ≤ 256 := by have := HML.out; omega
            go_upto_region 10 with (go_at_call 48; refine (GqI.text HG.out HT.out).mono ?_; rintro e wa ⟨rfl, hGa, -⟩)
            have hGb := hGa.no ((Frm.refl No wa).alloc (.cells #[.string ⟨a.toArray⟩, .int .i64 0, .int .i64 0] 91))
            have BF := Box.new hGa.box.frm [.string ⟨a.toArray⟩, .int .i64 0, .int .i64 0] 91
            have hFA : wa.heap.size ≠ A := by have := hGa.res.lC; omega
            have hFb : wa.heap.size ≠ A + 1 := by have := hGa.inp.lt; omega
            have hFC : wa.heap.size ≠ A + 1 + 1 := by have := hGa.box.lC; omega
            have HFR : Hid (∀ k', RlB (.slice ao ms.length cp) (.slice none 0 0) ([] : List CV) k' → k' ≠ wa.heap.size) := hid (fun k' hk' e => by have := (hGa.own.b_lt hk').2; omega)
            have hFw : w.heap.size ≤ wa.heap.size := hGa.box.frm.size
            obtain ⟨WF, hWF⟩ : ∃ WF, WF = wa.alloc (.cells #[.string ⟨a.toArray⟩, .int .i64 0, .int .i64 0] 91) := ⟨_, rfl⟩
            have hWF2 : WF = wa.alloc (.cells ([.string ⟨a.toArray⟩, .int .i64 0, .int .i64 0] : List Value).toArray 91) := hWF
            rw [← hWF] at hGb ⊢
            rw [← hWF2] at BF
            clear hWF hWF2 hGa
            obtain ⟨F, hF⟩ : ∃ F, wa.heap.size = F := ⟨_, rfl⟩
            rw [hF] at BF hFA hFb hFC HFR hFw
            (try simp only [hF])
            clear hF
            have HGb := hid hGb
            have HBF := hid BF
            clear hGb BF HG
            go_upto_region 11 with (go_at_call 47; refine (GqI.int HGb.out HRo.out).mono ?_; rintro e wb ⟨rfl, hGc, hfc⟩; have HGc := hid hGc; have HBc := hid (HBF.out.other hfc (fun e => hFb e) (fun k' hk' => by have hk' : k' = A + 1 := hk'; omega)); have cF := HBc.out.cell; have fF := HBc.out.fr; clear hGc hfc)
            have HBd := hid (HBc.out.set 1 (by simp) (.int .i64 ro))
            have HGd := hid (HGc.out.oth (setCell_own (B := F) (j := 1) (.int .i64 ro)) (fun e => hFA (by have e : A = F := e; exact e.symm)) (fun e => hFb (by have e : A + 1 = F := e; exact e.symm)) (fun e => hFC (by have e : A + 1 + 1 = F := e; exact e.symm)) (fun k' hk' e => HFR.out k' hk' e) (fun k' hk' => by have hk' : k' = F := hk'; omega))
            clear cF fF HGc HBc HGb HBF
            generalize wb.setCell ⟨F, 1, none⟩ (.int .i64 ro) = wd at *
            simp only [List.set_cons_zero, List.set_cons_succ] at HBd
            go_upto_region 12 with (go_at_call 47; refine (GqI.int HGd.out HQ.out).mono ?_; rintro e we ⟨rfl, hGe, hfe⟩; have HGe := hid hGe; have HBe := hid (HBd.out.other hfe (fun e => hFb e) (fun k' hk' => by have hk' : k' = A + 1 := hk'; omega)); have cF := HBe.out.cell; have fF := HBe.out.fr; clear hGe hfe)
            have HBf := hid (HBe.out.set 2 (by simp) (.int .i64 qu))
            have HGf := hid (HGe.out.oth (setCell_own (B := F) (j := 2) (.int .i64 qu)) (fun e => hFA (by have e : A = F := e; exact e.symm)) (fun e => hFb (by have e : A + 1 = F := e; exact e.symm)) (fun e => hFC (by have e : A + 1 + 1 = F := e; exact e.symm)) (fun k' hk' e => HFR.out k' hk' e) (fun k' hk' => by have hk' : k' = F := hk'; omega))
            clear cF fF HGe HBe HGd HBd
            generalize we.setCell ⟨F, 2, none⟩ (.int .i64 qu) = wg at *
            simp only [List.set_cons_zero, List.set_cons_succ] at HBf
            have g0 := HBf.out.cell 0
            have g1 := HBf.out.cell 1
            have g2 := HBf.out.cell 2
            have kC := HGf.out.box.cell 0
            simp only [List.getElem?_cons_zero, List.getElem?_cons_succ] at g0 g1 g2 kC
            have HGh := hid (HGf.out.no ((Frm.refl No wg).alloc (.cells #[.string ⟨a.toArray⟩, .int .i64 ro, .int .i64 qu] 91)))
            have HBX := hid (Box.new (Frm.refl No wg) [.string ⟨a.toArray⟩, .int .i64 ro, .int .i64 qu] 91)
            clear HGf HBf HFR
            go_wp2_with (at_builtin; refine wpList_append_src _ rfl (.tmp 52) (.tmp 54) 52 52 rfl w.heap.size 91 i0 _ 3 32 Try.underlying52 gi gz0 gz1 gz2 rfl (.slice ao ms.length cp) ms.length (rows memV ms) rfl HGh.out.own.mo (.slice (some ⟨wg.heap.size, 0, none⟩) 1 1) 1 (memV ⟨a, ro, qu⟩) rfl (src_box Try.underlying52 (memS.len _) (memS.one _) HBX.out.cell) (by unfold maxLen; omega) (by omega) HGh.out.box.frm.size ?_; intro v4 w4 hown4 hf4 hv4; obtain ⟨ao4, cp4, rfl⟩ := ownsRow_shape hown4; have hB4 := HGh.out.box.other hf4 (fun e => (HGh.out.off _ (.inl e)).2.2 rfl) (fun k' hk' => (HGh.out.own.b_lt (.inl hk')).1); have cX := hB4.cell; have fX := hB4.fr)
            have hlen : (ms ++ [(⟨a, ro, qu⟩ : Mem)]).length = ms.length + 1 := by simp
            have hGz := HGh.out.addM (ms' := ms ++ [⟨a, ro, qu⟩]) hf4 (by rw [hlen, ← rows_snoc]; exact hown4) (hv4.imp id (fun h => ⟨_, h, Nat.le_refl _⟩))
            exact ⟨⟨k + 1, sc, ec, _, _, by omega, by go_num, hGz, HNX.out, by rw [hlen, HML.out], fun m hm => by
              rcases List.mem_append.1 hm with hm | hm
              · exact HMN.out m hm
              · obtain rfl := List.mem_singleton.1 hm
                exact hal⟩, by simp only [intOf]; omega⟩
          · as_aux_lemma =>
            have hqb : (decide (k < N) && decide (ek = 0)) = false := by
              rw [Bool.eq_false_iff]
              intro e
              simp at e
              exact hq e
            rw [hqb]
            have hstop : rMems (N - k) sk ek ms = (ms, sk, ek) := by
              by_cases hek : ek = 0
              · rw [show N - k = 0 by omega]; rfl
              · exact rMems_stop hek
            have hget := HGET.out
            have hrun := HRUN.out
            rw [hstop] at hrun
            simp only [Prod.mk.injEq] at hrun
            rw [← hrun.1, ← hrun.2.1, ← hrun.2.2] at hget
            have HGET2 := hid hget
            clear hqb hstop hget hrun hq HRUN HGET
            obtain ⟨⟨m, s3, e3⟩, hr3⟩ : ∃ x, Oct.rInt sk ek = x := ⟨_, rfl⟩
            have HR3 := hid hr3
            have HIN3 := hid (HG.out.int hr3)
            clear hr3
            by_cases hm : 0 ≤ m ∧ m ≤ 32
            · as_aux_lemma =>
              obtain ⟨M, rfl⟩ := Int.eq_ofNat_of_zero_le hm.1
              have hM : M ≤ 32 := by omega
              clear hm
              obtain ⟨⟨cl2, s4, e4⟩, hr4⟩ : ∃ x, rClss M s3 e3 [] = x := ⟨_, rfl⟩
              have HGET3 := hid (HGET2.out.trans (getC_in (ms := ms) HR3.out hM hr4))
              have HR4 := hid hr4
              clear hr4 HR3 HGET2 HG
              go_upto_region 14 with (go_at_call 47; refine HIN3.out.mono ?_; rintro e w5 ⟨rfl, hg5, -⟩)
              have HG5 := hid hg5
              have k1 := hg5.inp.c1
              clear hg5 HIN3
              have hnb1 : ¬ (M : Int) < 0 := by omega
              have hnb2 : ¬ (32 : Int) < (M : Int) := by omega
              go_cut [71] from 59 to 71 (fun p wq => p = .bool false ∧ wq = w5)
              case first =>
                as_aux_lemma =>
                by_cases hek : e3 = 0
                · subst hek
                  go_wp2_with fail
                  go_meet
                  exact ⟨rfl, rfl⟩
                · have hekb : (e3 == 0) = false := beq_eq_false_iff_ne.2 hek
                  go_wp2_with fail
                  go_meet
                  exact ⟨rfl, rfl⟩
              case rest =>
                as_aux_lemma =>
                obtain ⟨rfl, rfl⟩ := hcut
                clear k1 hnb1 hnb2
                go_wp2_with fail
                go_loopw [9, 10] (fun iv _ wr => ∃ (k2 : Nat) (sk2 : List UInt8) (ek2 : Int) (cv : Value) (cs : List CV), k2 ≤ M ∧ iv = .int .i64 (k2 : Int) ∧ GqI w wr A (A + 1) (A + 1 + 1) sk2 ek2 (.slice ao ms.length cp) cv ms cs ∧ rClss (M - k2) sk2 ek2 (cs.map (·.1)) = (cl2, s4, e4) ∧ cs.length = k2 ∧ ∀ c ∈ cs, c.1.students.length ≤ 1000 ∧ c.1.name.length ≤ 65536)
                  (fun iv _ _ => M - (intOf iv).toNat)
                case atStart => exact ⟨0, s3, e3, _, [], by omega, rfl, HG5.out, HR4.out, rfl, by simp⟩
                case round =>
                  clear HG5
                  obtain ⟨k2, sk2, ek2, cv, cs, hk2, rfl, hG, hrun, hcl, hcn⟩ := hrel
                  obtain ⟨cao, ccp, rfl⟩ := ownsRow_shape hG.own.co
                  have HG := hid hG
                  have HRUN := hid hrun
                  have HCL := hid hcl
                  have HCM := hid hcn
                  have k1 := hG.inp.c1
                  clear hG hrun hcl hcn HR4
                  go_upto_region 17 with fail
                  go_cut [82] from 73 to 82 (fun p wq => p = .bool (decide (k2 < M) && decide (ek2 = 0)) ∧ wq = wr)
                  case first =>
                    as_aux_lemma =>
                    by_cases hkn : k2 < M
                    · by_cases hek : ek2 = 0
                      · subst hek
                        go_wp2_with fail
                        go_meet
                        exact ⟨by simp [hkn], rfl⟩
                      · have hekb : (ek2 == 0) = false := beq_eq_false_iff_ne.2 hek
                        go_wp2_with fail
                        go_meet
                        exact ⟨by simp [hkn, hek], rfl⟩
                    · go_wp2_with fail
                      go_meet
                      exact ⟨by simp [hkn], rfl⟩
                  case rest =>
                    as_aux_lemma =>
                    obtain ⟨rfl, rfl⟩ := hcut
                    clear k1
                    by_cases hq : k2 < M ∧ ek2 = 0
                    · as_aux_lemma =>
                      obtain ⟨hkn, rfl⟩ := hq
                      have hqb : (decide (k2 < M) && decide ((0 : Int) = 0)) = true := by simp [hkn]
                      rw [hqb]
                      obtain ⟨⟨a, sa, ea⟩, hT⟩ : ∃ x, Oct.rText sk2 0 = x := ⟨_, rfl⟩
                      obtain ⟨⟨t, sb, eb⟩, hRo⟩ : ∃ x, Oct.rText sa ea = x := ⟨_, rfl⟩
                      obtain ⟨⟨l, sc, ec⟩, hQ⟩ : ∃ x, Oct.rTexts 256 sb eb = x := ⟨_, rfl⟩
                      have hal : a.length ≤ 65536 := by have := (rText_len sk2 0).2; rw [hT] at this; exact this
                      have hll : l.length ≤ 256 := rTexts_cnt hQ
                      have HNX : Hid (rClss (M - (k2 + 1)) sc ec (cs.map (·.1) ++ [⟨a, t, l⟩]) = (cl2, s4, e4)) := hid (by
                        have := HRUN.out
                        rw [show M - k2 = (M - (k2 + 1)) + 1 by omega, rClss_step (rCls_of hT hRo hQ)] at this
                        exact this)
                      have HT := hid hT
                      have HRo := hid hRo
                      have HQ := hid hQ
                      clear hT hRo hQ hqb HRUN
                      have hkm : cs.length ≤ 32 := by have := HCL.out; omega
                      go_upto_region 20 with (go_at_call 48; refine (GqI.text HG.out HT.out).mono ?_; rintro e wa ⟨rfl, hGa, -⟩)
                      have hGb := hGa.no ((Frm.refl No wa).alloc (.cells #[.string ⟨a.toArray⟩, .string ⟨#[]⟩, .slice none 0 0] 92))
                      have BF := Box.new hGa.box.frm [.string ⟨a.toArray⟩, .string ⟨#[]⟩, .slice none 0 0] 92
                      have hFA : wa.heap.size ≠ A := by have := hGa.res.lC; omega
                      have hFb : wa.heap.size ≠ A + 1 := by have := hGa.inp.lt; omega
                      have hFC : wa.heap.size ≠ A + 1 + 1 := by have := hGa.box.lC; omega
                      have HFR : Hid (∀ k', RlB (.slice ao ms.length cp) (.slice cao cs.length ccp) cs k' → k' ≠ wa.heap.size) := hid (fun k' hk' e => by have := (hGa.own.b_lt hk').2; omega)
                      have hFw : w.heap.size ≤ wa.heap.size := hGa.box.frm.size
                      obtain ⟨WF, hWF⟩ : ∃ WF, WF = wa.alloc (.cells #[.string ⟨a.toArray⟩, .string ⟨#[]⟩, .slice none 0 0] 92) := ⟨_, rfl⟩
                      have hWF2 : WF = wa.alloc (.cells ([.string ⟨a.toArray⟩, .string ⟨#[]⟩, .slice none 0 0] : List Value).toArray 92) := hWF
                      rw [← hWF] at hGb ⊢
                      rw [← hWF2] at BF
                      clear hWF hWF2 hGa
                      obtain ⟨F, hF⟩ : ∃ F, wa.heap.size = F := ⟨_, rfl⟩
                      rw [hF] at BF hFA hFb hFC HFR hFw
                      (try simp only [hF])
                      clear hF
                      have HGb := hid hGb
                      have HBF := hid BF
                      clear hGb BF HG
                      go_upto_region 21 with (go_at_call 48; refine (GqI.text HGb.out HRo.out).mono ?_; rintro e wb ⟨rfl, hGc, hfc⟩; have HGc := hid hGc; have HBc := hid (HBF.out.other hfc (fun e => hFb e) (fun k' hk' => by have hk' : k' = A + 1 := hk'; omega)); have cF := HBc.out.cell; have fF := HBc.out.fr; clear hGc hfc)
                      have HBd := hid (HBc.out.set 1 (by simp) (.string ⟨t.toArray⟩))
                      have HGd := hid (HGc.out.oth (setCell_own (B := F) (j := 1) (.string ⟨t.toArray⟩)) (fun e => hFA (by have e : A = F := e; exact e.symm)) (fun e => hFb (by have e : A + 1 = F := e; exact e.symm)) (fun e => hFC (by have e : A + 1 + 1 = F := e; exact e.symm)) (fun k' hk' e => HFR.out k' hk' e) (fun k' hk' => by have hk' : k' = F := hk'; omega))
                      clear cF fF HGc HBc HGb HBF
                      generalize wb.setCell ⟨F, 1, none⟩ (.string ⟨t.toArray⟩) = wd at *
                      simp only [List.set_cons_zero, List.set_cons_succ] at HBd
                      go_upto_region 22 with (go_at_call 49; refine (GqI.texts HGd.out HQ.out).mono ?_; rintro e we ⟨lao, lcp, rfl, hown, hGe, hfe⟩; have HGe := hid hGe; have HBe := hid (HBd.out.other hfe (fun e => hFb e) (fun k' hk' => by have hk' : k' = A + 1 := hk'; omega)); have HOW := hid hown; have cF := HBe.out.cell; have fF := HBe.out.fr; clear hGe hfe hown)
                      have HBf := hid (HBe.out.set 2 (by simp) (.slice lao l.length lcp))
                      have HGf := hid (HGe.out.oth (setCell_own (B := F) (j := 2) (.slice lao l.length lcp)) (fun e => hFA (by have e : A = F := e; exact e.symm)) (fun e => hFb (by have e : A + 1 = F := e; exact e.symm)) (fun e => hFC (by have e : A + 1 + 1 = F := e; exact e.symm)) (fun k' hk' e => HFR.out k' hk' e) (fun k' hk' => by have hk' : k' = F := hk'; omega))
                      have HOX : Hid ((we.setCell ⟨F, 2, none⟩ (.slice lao l.length lcp)).ownsRow w.heap.size 9 1 (.slice lao l.length lcp) l.length (rows strV l)) := hid (ownsRow_base ((setCell_own (B := F) (j := 2) (.slice lao l.length lcp)).row HOW.out (fun k' hk' e => by
                        have h1 := (HOW.out.lt k' hk').1
                        have h2 := HBd.out.lC
                        have e : k' = F := e
                        omega)) (fun k' hk' => by have := (HOW.out.lt k' hk').1; have := HBd.out.frm.size; omega))
                      have HDD : Hid (∀ k', (Value.slice lao l.length lcp).ownBlock = some k' → ¬ RlB (.slice ao ms.length cp) (.slice cao cs.length ccp) cs k' ∧ k' ≠ A ∧ k' ≠ A + 1 ∧ k' ≠ A + 1 + 1) := hid (fun k' hk' => by
                        have h1 := (HOW.out.lt k' hk').1
                        have h2 := HGd.out.res.lC
                        have h3 := HGd.out.inp.lt
                        have h4 := HGd.out.box.lC
                        exact ⟨fun e => by have := (HGd.out.own.b_lt e).2; omega, by omega, by omega, by omega⟩)
                      clear cF fF HGe HBe HGd HBd HOW
                      generalize we.setCell ⟨F, 2, none⟩ (.slice lao l.length lcp) = wg at *
                      simp only [List.set_cons_zero, List.set_cons_succ] at HBf
                      have g0 := HBf.out.cell 0
                      have g1 := HBf.out.cell 1
                      have g2 := HBf.out.cell 2
                      have kC := HGf.out.box.cell 1
                      simp only [List.getElem?_cons_zero, List.getElem?_cons_succ] at g0 g1 g2 kC
                      have HGh := hid (HGf.out.no ((Frm.refl No wg).alloc (.cells #[.string ⟨a.toArray⟩, .string ⟨t.toArray⟩, .slice lao l.length lcp] 92)))
                      have HOY := hid (HOX.out.alloc (.cells #[.string ⟨a.toArray⟩, .string ⟨t.toArray⟩, .slice lao l.length lcp] 92))
                      have HBX := hid (Box.new (Frm.refl No wg) [.string ⟨a.toArray⟩, .string ⟨t.toArray⟩, .slice lao l.length lcp] 92)
                      clear HGf HBf HFR HOX
                      go_wp2_with (at_builtin; refine wpList_append_src _ rfl (.tmp 95) (.tmp 97) 53 53 rfl w.heap.size 92 j0 _ 3 56 Try.underlying53 ji jz0 jz1 jz2 rfl (.slice cao cs.length ccp) cs.length (rows clsV cs) rfl HGh.out.own.co (.slice (some ⟨wg.heap.size, 0, none⟩) 1 1) 1 (clsV (⟨a, t, l⟩, (lao, lcp))) rfl (src_box Try.underlying53 (clsS.len _) (clsS.one _) HBX.out.cell) (by unfold maxLen; omega) (by omega) HGh.out.box.frm.size ?_; intro v4 w4 hown4 hf4 hv4; obtain ⟨ao4, cp4, rfl⟩ := ownsRow_shape hown4; have hB4 := HGh.out.box.other hf4 (fun e => (HGh.out.off _ (.inr (.inl e))).2.2 rfl) (fun k' hk' => (HGh.out.own.b_lt (.inr (.inl hk'))).1); have cX := hB4.cell; have fX := hB4.fr)
                      have hlen : (cs ++ [((⟨a, t, l⟩, (lao, lcp)) : CV)]).length = cs.length + 1 := by simp
                      have hGz := HGh.out.addC (⟨a, t, l⟩, (lao, lcp)) HOY.out HDD.out hf4 (by rw [hlen, ← rows_snoc]; exact hown4) (hv4.imp id (fun h => ⟨_, h, Nat.le_refl _⟩))
                      exact ⟨⟨k2 + 1, sc, ec, _, _, by omega, by go_num, hGz, by rw [List.map_append]; exact HNX.out, by rw [hlen, HCL.out], fun m hm => by
                        rcases List.mem_append.1 hm with hm | hm
                        · exact HCM.out m hm
                        · obtain rfl := List.mem_singleton.1 hm
                          exact ⟨by dsimp only; omega, hal⟩⟩, by simp only [intOf]; omega⟩
                    · as_aux_lemma =>
                      have hqb : (decide (k2 < M) && decide (ek2 = 0)) = false := by
                        rw [Bool.eq_false_iff]
                        intro e
                        simp at e
                        exact hq e
                      rw [hqb]
                      have hstop : rClss (M - k2) sk2 ek2 (cs.map (·.1)) = (cs.map (·.1), sk2, ek2) := by
                        by_cases hek : ek2 = 0
                        · rw [show M - k2 = 0 by omega]; rfl
                        · exact rClss_stop hek
                      have hget := HGET3.out
                      have hrun := HRUN.out
                      rw [hstop] at hrun
                      simp only [Prod.mk.injEq] at hrun
                      rw [← hrun.1, ← hrun.2.1, ← hrun.2.2] at hget
                      have HRD := hid (fun w1 (hf : Frm No wc w1) => (HG.out.no hf).own.rd)
                      have HRT := hid (fun w1 (hf : Frm No wc w1) => refright_is (HRD.out w1 hf) (by have := HML.out; dsimp only; omega) (by have := HCL.out; rw [List.length_map]; omega) (fun c hc => by obtain ⟨x, hx, rfl⟩ := List.mem_map.1 hc; exact HCM.out x hx) HMN.out)
                      obtain ⟨R, hR⟩ : ∃ R : Rl, R = ⟨ms, cs.map (·.1)⟩ := ⟨_, rfl⟩
                      have HRE := hid hR
                      rw [← hR] at HRD HRT hget
                      have HFI := hid hget
                      have kA := HG.out.res.cell
                      have fA := HG.out.res.fr
                      have kC := HG.out.box.cell
                      have k0 := HG.out.inp.c0
                      have k1 := HG.out.inp.c1
                      clear hqb hstop hget hrun hq HRUN HGET3 hR
                      by_cases he : ek2 = 0
                      case neg =>
                        as_aux_lemma =>
                        have HFIN : Hid (getR s = (Roll.nil, ek2)) := hid (HFI.out.trans (if_pos he))
                        have heb : (ek2 == 0) = false := beq_eq_false_iff_ne.2 he
                        have hec : (ek2 != 0) = true := bne_iff_ne.2 he
                        clear HRT HRD
                        have hS2 : ((wc.drew.setCell ⟨A, 0, none⟩ (.slice none 0 0)).setCell ⟨A, 1, none⟩ (.slice none 0 0)).cell? ⟨A + 1, 1, none⟩ = some (.int .i64 ek2) := (((setCell_own _).then_ (setCell_own _) : Frm (One A) wc.drew ((wc.drew.setCell ⟨A, 0, none⟩ (.slice none 0 0)).setCell ⟨A, 1, none⟩ (.slice none 0 0))).cell (p := ⟨A + 1, 1, none⟩) HG.out.inp.lt (fun e => absurd e (by show A + 1 ≠ A; omega))).trans k1
                        go_upto_region 24 with fail
                        refine wp_region_late (fun w' => w'.cell? ⟨A + 1, 1, none⟩ = some (.int .i64 ek2)) [] (by kernel_rfl) k1 (fun hHeld => ?_)
                        refine wpLate_take0 (i := 0) (oi := _) (v := _) rfl (by kernel_rfl) (by kernel_rfl) (by kernel_rfl) (by kernel_rfl) (fun _ _ _ h => h) (Or.inl ⟨by rfl, by intro w _; go_simp; all_goals with_reducible rfl⟩) (fun _ => by assumption) ?_
                        (try simp only [Act.put, List.getElem_toArray, List.getElem_cons_zero, List.setIfInBounds_toArray, List.set_cons_zero, List.set_cons_succ])
                        refine wpLate_take0 (i := 1) (oi := _) (v := _) rfl (by kernel_rfl) (by kernel_rfl) (by kernel_rfl) (by kernel_rfl) (fun _ _ _ h => h) (Or.inl ⟨by rfl, by intro w _; go_simp; all_goals with_reducible rfl⟩) (fun _ => by assumption) ?_
                        (try simp only [Act.put, List.getElem_toArray, List.getElem_cons_succ, List.getElem_cons_zero, List.setIfInBounds_toArray, List.set_cons_zero, List.set_cons_succ])
                        refine wpLate_take0 (i := 2) (oi := _) (v := _) rfl (by kernel_rfl) (by kernel_rfl) (by kernel_rfl) (by kernel_rfl) (fun _ _ _ h => h) (Or.inl ⟨by rfl, by intro w _; go_simp; all_goals with_reducible rfl⟩) (fun _ => by assumption) ?_
                        (try simp only [Act.put, List.getElem_toArray, List.getElem_cons_succ, List.getElem_cons_zero, List.setIfInBounds_toArray, List.set_cons_zero, List.set_cons_succ])
                        refine wpLate_take0 (i := 3) (oi := _) (v := _) rfl (by kernel_rfl) (by kernel_rfl) (by kernel_rfl) (by kernel_rfl) (fun _ _ _ h => h) (Or.inl ⟨by rfl, by intro w _; go_simp; all_goals with_reducible rfl⟩) (fun _ => by assumption) ?_
                        (try simp only [Act.put, List.getElem_toArray, List.getElem_cons_succ, List.getElem_cons_zero, List.setIfInBounds_toArray, List.set_cons_zero, List.set_cons_succ])
                        refine wpLate_take [6] (i := 4) (oi := _) (v := _) rfl (by kernel_rfl) (by kernel_rfl) (by kernel_rfl) (by kernel_rfl) (by kernel_rfl) (fun _ _ _ h => h) (Or.inl ⟨by rfl, by intro w hSw; (try dsimp only at hSw); go_simp; all_goals with_reducible rfl⟩) (by assumption) ?_
                        (try simp only [Act.put, List.getElem_toArray, List.getElem_cons_succ, List.getElem_cons_zero, List.setIfInBounds_toArray, List.set_cons_zero, List.set_cons_succ])
                        refine wpLate_ready (rs := [5]) (by kernel_rfl) (by simp) ?_
                        refine (AllReadyL.cons (i := 5) rfl (fun K hK => ?_) AllReadyL.nil)
                        simp only [List.getElem_toArray, List.getElem_cons_succ, List.getElem_cons_zero]
                        go_simp
                        refine hK.out _ _ (by exact hS2) (fun hHeld => ?_)
                        clear hK K
                        (try simp only [Act.put, List.getElem_toArray, List.getElem_cons_succ, List.getElem_cons_zero, List.setIfInBounds_toArray, List.set_cons_zero, List.set_cons_succ])
                        refine wpLate_take0 (i := 6) (oi := _) (v := _) rfl (by kernel_rfl) (by kernel_rfl) (by kernel_rfl) (by kernel_rfl) (fun _ _ _ h => h) (Or.inl ⟨by rfl, by intro w _; go_simp; all_goals with_reducible rfl⟩) (fun _ => by assumption) ?_
                        (try simp only [Act.put, List.getElem_toArray, List.getElem_cons_succ, List.getElem_cons_zero, List.setIfInBounds_toArray, List.set_cons_zero, List.set_cons_succ])
                        refine wpLate_done (by kernel_rfl) ?_ _
                        go_wp2_with fail
                        have BX4 := (HG.out.res.set 0 (by simp) (.slice none 0 0)).set 1 (by simp) (.slice none 0 0)
                        have e0 := BX4.cell 0
                        have e1 := BX4.cell 1
                        simp only [List.set_cons_zero, List.set_cons_succ, List.getElem?_cons_zero, List.getElem?_cons_succ] at e0 e1
                        refine bodyPost_ret (v := .tuple #[.agg #[.slice none 0 0, .slice none 0 0], .int .i64 ek2]) (by simp [results, Try.results17, go_sem, e0, e1]) rfl (by rw [HFIN.out]; exact ⟨_, _, rfl, nil_rd _, BX4.frm.drew⟩)
                      subst he
                      have HFJ : Hid (getR s = if rightB R = false then (Roll.nil, 2) else if sk2 ≠ [] then (Roll.nil, 4) else (R, 0)) := hid (HFI.out.trans (if_neg (by simp)))
                      obtain ⟨q, hqq⟩ : ∃ q, rightB R = q := ⟨_, rfl⟩
                      rw [hqq] at HRT HFJ
                      have HRT0 := hid (HRT.out _ (Frm.refl No wc))
                      cases q
                      · as_aux_lemma =>
                        have HFIN : Hid (getR s = (Roll.nil, 2)) := hid (HFJ.out.trans (if_pos rfl))
                        clear HRT HRD kA fA
                        go_wp2_with (go_at_call 50; refine HRT0.out.mono ?_; rintro e w6 ⟨rfl, hf6⟩; have HG6 := hid (HG.out.no hf6); have kA := HG6.out.res.cell; have fA := HG6.out.res.fr)
                        have BX4 := (HG6.out.res.set 0 (by simp) (.slice none 0 0)).set 1 (by simp) (.slice none 0 0)
                        have e0 := BX4.cell 0
                        have e1 := BX4.cell 1
                        simp only [List.set_cons_zero, List.set_cons_succ, List.getElem?_cons_zero, List.getElem?_cons_succ] at e0 e1
                        refine bodyPost_ret (v := .tuple #[.agg #[.slice none 0 0, .slice none 0 0], .int .i64 2]) (by simp [results, Try.results17, go_sem, e0, e1]) rfl (by rw [HFIN.out]; exact ⟨_, _, rfl, nil_rd _, BX4.frm⟩)
                      have HFK : Hid (getR s = if sk2 ≠ [] then (Roll.nil, 4) else (R, 0)) := hid (HFJ.out.trans (if_neg (by decide)))
                      by_cases hsk : sk2 = []
                      case neg =>
                        as_aux_lemma =>
                        have HFIN : Hid (getR s = (Roll.nil, 4)) := hid (HFK.out.trans (if_pos hsk))
                        obtain ⟨x, sk3, rfl⟩ : ∃ x sk3, sk2 = x :: sk3 := by
                          cases sk2 with
                          | nil => exact absurd rfl hsk
                          | cons x l => exact ⟨x, l, rfl⟩
                        clear HRT HRD kA fA hsk
                        go_wp2_with (go_at_call 50; refine HRT0.out.mono ?_; rintro e w6 ⟨rfl, hf6⟩; have HG6 := hid (HG.out.no hf6); have kA := HG6.out.res.cell; have fA := HG6.out.res.fr; have k06 := HG6.out.inp.c0)
                        have BX4 := (HG6.out.res.set 0 (by simp) (.slice none 0 0)).set 1 (by simp) (.slice none 0 0)
                        have e0 := BX4.cell 0
                        have e1 := BX4.cell 1
                        simp only [List.set_cons_zero, List.set_cons_succ, List.getElem?_cons_zero, List.getElem?_cons_succ] at e0 e1
                        refine bodyPost_ret (v := .tuple #[.agg #[.slice none 0 0, .slice none 0 0], .int .i64 4]) (by simp [results, Try.results17, go_sem, e0, e1]) rfl (by rw [HFIN.out]; exact ⟨_, _, rfl, nil_rd _, BX4.frm⟩)
                      subst hsk
                      have HFIN : Hid (getR s = (R, 0)) := hid (HFK.out.trans (if_neg (by simp)))
                      clear kA fA
                      go_wp2_with (go_at_call 50; refine HRT0.out.mono ?_; rintro e w6 ⟨rfl, hf6⟩; have HG6 := hid (HG.out.no hf6); have kA := HG6.out.res.cell; have fA := HG6.out.res.fr; have kC6 := HG6.out.box.cell; have k06 := HG6.out.inp.c0)
                      have BX4 := (HG6.out.res.set 0 (by simp) (.slice ao ms.length cp)).set 1 (by simp) (.slice cao cs.length ccp)
                      have e0 := BX4.cell 0
                      have e1 := BX4.cell 1
                      simp only [List.set_cons_zero, List.set_cons_succ, List.getElem?_cons_zero, List.getElem?_cons_succ] at e0 e1
                      have hOK := HG6.out.own.keep ((setCell_own _).then_ (setCell_own _) : Frm (One A) w6 ((w6.setCell ⟨A, 0, none⟩ (.slice ao ms.length cp)).setCell ⟨A, 1, none⟩ (.slice cao cs.length ccp))) (fun k hk e => (HG6.out.off k hk).1 e)
                      refine bodyPost_ret (v := .tuple #[.agg #[.slice ao ms.length cp, .slice cao cs.length ccp], .int .i64 0]) (by simp [results, Try.results17, go_sem, e0, e1]) rfl (by rw [HFIN.out]; exact ⟨_, _, rfl, by have := hOK.rd; rw [← HRE.out] at this; exact this, BX4.frm⟩)
            · as_aux_lemma =>
              have he3 : e3 = 0 := rInt_bad HR3.out (by omega) hm
              subst he3
              have HFIN : Hid (getR s = (Roll.nil, 2)) := hid (by rw [HGET2.out, getC_out HR3.out hm]; rfl)
              rcases (show m < 0 ∨ (¬ m < 0 ∧ 32 < m) by omega) with h1 | ⟨h1, h2⟩
              · as_aux_lemma =>
                clear hm HR3 HGET2 HG
                go_wp2_with (go_at_call 47; refine HIN3.out.mono ?_; rintro e w5 ⟨rfl, hg5, -⟩; have HG5 := hid hg5; have k1 := HG5.out.inp.c1; have kA := HG5.out.res.cell; have fA := HG5.out.res.fr; clear hg5)
                have BX4 := (HG5.out.res.set 0 (by simp) (.slice none 0 0)).set 1 (by simp) (.slice none 0 0)
                have e0 := BX4.cell 0
                have e1 := BX4.cell 1
                simp only [List.set_cons_zero, List.set_cons_succ, List.getElem?_cons_zero, List.getElem?_cons_succ] at e0 e1
                refine bodyPost_ret (v := .tuple #[.agg #[.slice none 0 0, .slice none 0 0], .int .i64 2]) (by simp [results, Try.results17, go_sem, e0, e1]) rfl (by rw [HFIN.out]; exact ⟨_, _, rfl, nil_rd _, BX4.frm⟩)
              · as_aux_lemma =>
                clear hm HR3 HGET2 HG
                go_wp2_with (go_at_call 47; refine HIN3.out.mono ?_; rintro e w5 ⟨rfl, hg5, -⟩; have HG5 := hid hg5; have k1 := HG5.out.inp.c1; have kA := HG5.out.res.cell; have fA := HG5.out.res.fr; clear hg5)
                have BX4 := (HG5.out.res.set 0 (by simp) (.slice none 0 0)).set 1 (by simp) (.slice none 0 0)
                have e0 := BX4.cell 0
                have e1 := BX4.cell 1
                simp only [List.set_cons_zero, List.set_cons_succ, List.getElem?_cons_zero, List.getElem?_cons_succ] at e0 e1
                refine bodyPost_ret (v := .tuple #[.agg #[.slice none 0 0, .slice none 0 0], .int .i64 2]) (by simp [results, Try.results17, go_sem, e0, e1]) rfl (by rw [HFIN.out]; exact ⟨_, _, rfl, nil_rd _, BX4.frm⟩)
  · as_aux_lemma =>
    have he1 : e1 = 0 := rInt_bad HR1.out (by omega) hn
    subst he1
    have HFIN : Hid (getR s = (Roll.nil, 2)) := hid (by rw [getR_out HR1.out hn]; rfl)
    rcases (show n < 0 ∨ (¬ n < 0 ∧ 256 < n) by omega) with h1 | ⟨h1, h2⟩
    · as_aux_lemma =>
      clear hn HR1
      go_wp2_with (go_at_call 47; refine HIN.out.mono ?_; rintro e w5 ⟨rfl, hg5, -⟩; have HG5 := hid hg5; have k1 := HG5.out.inp.c1; have kA := HG5.out.res.cell; have fA := HG5.out.res.fr; clear hg5)
      have BX4 := (HG5.out.res.set 0 (by simp) (.slice none 0 0)).set 1 (by simp) (.slice none 0 0)
      have e0 := BX4.cell 0
      have e1 := BX4.cell 1
      simp only [List.set_cons_zero, List.set_cons_succ, List.getElem?_cons_zero, List.getElem?_cons_succ] at e0 e1
      refine bodyPost_ret (v := .tuple #[.agg #[.slice none 0 0, .slice none 0 0], .int .i64 2]) (by simp [results, Try.results17, go_sem, e0, e1]) rfl (by rw [HFIN.out]; exact ⟨_, _, rfl, nil_rd _, BX4.frm⟩)
    · as_aux_lemma =>
      clear hn HR1
      go_wp2_with (go_at_call 47; refine HIN.out.mono ?_; rintro e w5 ⟨rfl, hg5, -⟩; have HG5 := hid hg5; have k1 := HG5.out.inp.c1; have kA := HG5.out.res.cell; have fA := HG5.out.res.fr; clear hg5)
      have BX4 := (HG5.out.res.set 0 (by simp) (.slice none 0 0)).set 1 (by simp) (.slice none 0 0)
      have e0 := BX4.cell 0
      have e1 := BX4.cell 1
      simp only [List.set_cons_zero, List.set_cons_succ, List.getElem?_cons_zero, List.getElem?_cons_succ] at e0 e1
      refine bodyPost_ret (v := .tuple #[.agg #[.slice none 0 0, .slice none 0 0], .int .i64 2]) (by simp [results, Try.results17, go_sem, e0, e1]) rfl (by rw [HFIN.out]; exact ⟨_, _, rfl, nil_rd _, BX4.frm⟩)

end Go.Proofs.Ytekailaoanpcgaa
