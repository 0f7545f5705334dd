/- Get: a roll of bytes. Printed by a program (rollw.py). -/
import Derived.Test.YtofcmghhmklmiaaGreatRollGL
import Derived.Test.YtofcmghhmklmiaaGreatRollE
import Derived.Test.YtofcmghhmklmiaaGreatRdr
import Derived.Test.YtofcmghhmklmiaaGreatRollRB
namespace Go.Proofs.YtofcmghhmklmiaaGreat
open Go.RowKit
open Roll
/-- A class was put behind the others. -/
theorem RlO.addC {base : Nat} {w w' : World} {mv cv cv' : Value} {R : Rl} {cs : List CV} (h : RlO base w mv cv R cs) (x : CV) (hx : w.ownsRow base 9 1 (sv x) x.1.students.length (rows strV x.1.students)) (d1 : Dj mv (sv x)) (d2 : Dj cv (sv x)) (d3 : ∀ p ∈ cs, Dj (sv p) (sv x))
    (hf : Frm (Own cv) w w') (ho : w'.ownsRow base 53 3 cv' (cs ++ [x]).length (rows clsV (cs ++ [x]))) (hn : cv'.ownBlock = cv.ownBlock ∨ ∃ k, cv'.ownBlock = some k ∧ w.heap.size ≤ k) : RlO base w' mv cv' ⟨R.mems, (cs ++ [x]).map (·.1)⟩ (cs ++ [x]) := by
  obtain ⟨l1, l2, l3⟩ := h.lt
  have key : ∀ v : Value, (∀ k, v.ownBlock = some k → k < w.heap.size) → Dj cv v → Dj cv' v := fun v hv hd k hk e => by
    rcases hn with hn | ⟨k', hn, hk'⟩
    · exact hd k (hn ▸ hk) e
    · rw [hk] at hn
      cases hn
      have := hv k e
      omega
  refine ⟨rfl, hf.row h.mo (fun k hk e => h.dmc k hk e), ho, fun p hp => ?_, (key mv (fun k hk => (l1 k hk).2) h.dmc.symm).symm, fun p hp => ?_, fun p hp => ?_, ?_⟩
  · rcases List.mem_append.1 hp with hp | hp
    · exact hf.row (h.so p hp) (fun k hk e => h.dcs p hp k e hk)
    · obtain rfl := List.mem_singleton.1 hp
      exact hf.row hx (fun k hk e => d2 k e hk)
  · rcases List.mem_append.1 hp with hp | hp
    · exact h.dms p hp
    · obtain rfl := List.mem_singleton.1 hp
      exact d1
  · rcases List.mem_append.1 hp with hp | hp
    · exact key (sv p) (fun k hk => (l3 p hp k hk).2) (h.dcs p hp)
    · obtain rfl := List.mem_singleton.1 hp
      exact key _ (fun k hk => (hx.lt k hk).2) d2
  · refine List.pairwise_append.2 ⟨h.dss, List.pairwise_singleton _ _, fun p hp q hq => ?_⟩
    obtain rfl := List.mem_singleton.1 hq
    exact d3 p hp
theorem RlO.b_lt {base : Nat} {w : World} {mv cv : Value} {R : Rl} {cs : List CV} (h : RlO base w mv cv R cs) {k : Nat} (hk : RlB mv cv cs k) : base ≤ k ∧ k < w.heap.size := by
  obtain ⟨l1, l2, l3⟩ := h.lt
  rcases hk with hk | hk | ⟨p, hp, hk⟩
  · exact l1 k hk
  · exact l2 k hk
  · exact l3 p hp k hk
theorem RlO.keep {S : Nat → Prop} {base : Nat} {w w' : World} {mv cv : Value} {R : Rl} {cs : List CV} (h : RlO base w mv cv R cs) (hf : Frm S w w') (hS : ∀ k, RlB mv cv cs k → ¬ S k) : RlO base w' mv cv R cs :=
  h.frm hf (fun k hk => hS k (.inl hk)) (fun k hk => hS k (.inr (.inl hk))) (fun p hp k hk => hS k (.inr (.inr ⟨p, hp, hk⟩)))
/-- Get under way: the bytes left, the error; the result's block A, the In's block b, the roll's block C. -/
structure GtI (w0 wr : World) (A b C : Nat) (s : List UInt8) (e : Int) (mv cv : Value) (ms : List Mem) (cs : List CV) : Prop where
  inp : InAt wr b s e
  len : s.length ≤ 281474976710656
  res : Box w0 wr A [.slice none 0 0, .slice none 0 0]
  box : Box w0 wr C [mv, cv]
  own : RlO w0.heap.size wr mv cv ⟨ms, cs.map (·.1)⟩ cs
  hb : w0.heap.size ≤ b
  bC : b ≠ C
  bA : b ≠ A
  AC : A ≠ C
  off : ∀ k, RlB mv cv cs k → k ≠ A ∧ k ≠ b ∧ k ≠ C
section
variable {w0 wr w2 : World} {A b C : Nat} {s s' : List UInt8} {e e' : Int} {mv cv mv' cv' : Value} {ms ms' : List Mem} {cs : List CV}
theorem GtI.no (h : GtI w0 wr A b C s e mv cv ms cs) (hf : Frm No wr w2) : GtI w0 w2 A b C s e mv cv ms cs :=
  ⟨h.inp.frm hf (fun h => h), h.len, h.res.no hf, h.box.no hf, h.own.keep hf (fun _ _ h => h), h.hb, h.bC, h.bA, h.AC, h.off⟩
theorem GtI.read (h : GtI w0 wr A b C s e mv cv ms cs) (hi : InAt w2 b s' e') (hl : s'.length ≤ s.length) (hf : Frm (One b) wr w2) : GtI w0 w2 A b C s' e' mv cv ms cs :=
  ⟨hi, by have := h.len; omega, h.res.other hf (fun e => h.bA e.symm) (fun k hk => by have hk : k = b := hk; have := h.hb; omega), h.box.other hf (fun e => h.bC e.symm) (fun k hk => by have hk : k = b := hk; have := h.hb; omega),
    h.own.keep hf (fun k hk e => (h.off k hk).2.1 e), h.hb, h.bC, h.bA, h.AC, h.off⟩
/-- The roll's block was written to. -/
theorem GtI.store (hi : InAt w2 b s e) (hl : s.length ≤ 281474976710656) (hr : Box w0 w2 A [.slice none 0 0, .slice none 0 0]) (hb : Box w0 w2 C [mv, cv]) (ho : RlO w0.heap.size w2 mv' cv' ⟨ms, cs.map (·.1)⟩ cs) (h1 : w0.heap.size ≤ b) (h2 : b ≠ C) (h3 : b ≠ A) (h4 : A ≠ C) (h5 : ∀ k, RlB mv' cv' cs k → k ≠ A ∧ k ≠ b ∧ k ≠ C) (j : Nat) (x : Value)
    (hx : [mv, cv].set j x = [mv', cv']) (hj : j < 2) : GtI w0 (w2.setCell ⟨C, j, none⟩ x) A b C s e mv' cv' ms cs := by
  have hF : Frm (One C) w2 (w2.setCell ⟨C, j, none⟩ x) := setCell_own _
  have hB := hb.set j (by simpa using hj) x
  rw [hx] at hB
  exact ⟨hi.frm hF h2, hl, hr.setOther hb.hC h4 j x, hB, ho.keep hF (fun k hk e => (h5 k hk).2.2 e), h1, h2, h3, h4, h5⟩
theorem GtI.addM (h : GtI w0 wr A b C s e mv cv ms cs) (hf : Frm (Own mv) wr w2) (ho : w2.ownsRow w0.heap.size 45 3 mv' ms'.length (rows memV ms')) (hn : mv'.ownBlock = mv.ownBlock ∨ ∃ k, mv'.ownBlock = some k ∧ wr.heap.size ≤ k) :
    GtI w0 (w2.setCell ⟨C, 0, none⟩ mv') A b C s e mv' cv ms' cs := by
  have hO := h.own.setM hf ms' ho hn
  have hmv : ∀ k, Own mv k → RlB mv cv cs k := fun k hk => .inl hk
  have hg : ∀ k, Own mv k → w0.heap.size ≤ k := fun k hk => (h.own.b_lt (hmv k hk)).1
  have hA := h.res.lC
  have hb := h.inp.lt
  have hC := h.box.lC
  refine GtI.store (h.inp.frm hf (fun e => (h.off b (hmv b e)).2.1 rfl)) h.len (h.res.other hf (fun e => (h.off A (hmv A e)).1 rfl) hg) (h.box.other hf (fun e => (h.off C (hmv C e)).2.2 rfl) hg) hO h.hb h.bC h.bA h.AC (fun k hk => ?_) 0 mv' rfl (by omega)
  rcases hk with hk | hk
  · rcases hn with hn | ⟨k', hn, hk'⟩
    · exact h.off k (.inl (hn ▸ hk))
    · rw [hk] at hn
      cases hn
      omega
  · exact h.off k (.inr hk)
theorem GtI.addC (h : GtI w0 wr A b C s e mv cv ms cs) (x : CV) (hx : wr.ownsRow w0.heap.size 9 1 (sv x) x.1.students.length (rows strV x.1.students)) (hd : ∀ k, (sv x).ownBlock = some k → ¬ RlB mv cv cs k ∧ k ≠ A ∧ k ≠ b ∧ k ≠ C) (hf : Frm (Own cv) wr w2)
    (ho : w2.ownsRow w0.heap.size 53 3 cv' (cs ++ [x]).length (rows clsV (cs ++ [x]))) (hn : cv'.ownBlock = cv.ownBlock ∨ ∃ k, cv'.ownBlock = some k ∧ wr.heap.size ≤ k) :
    GtI w0 (w2.setCell ⟨C, 1, none⟩ cv') A b C s e mv cv' ms (cs ++ [x]) := by
  have hO := h.own.addC x hx (fun k hk e => (hd k e).1 (.inl hk)) (fun k hk e => (hd k e).1 (.inr (.inl hk))) (fun p hp k hk e => (hd k e).1 (.inr (.inr ⟨p, hp, hk⟩))) hf ho hn
  have hcv : ∀ k, Own cv k → RlB mv cv cs k := fun k hk => .inr (.inl hk)
  have hg : ∀ k, Own cv k → w0.heap.size ≤ k := fun k hk => (h.own.b_lt (hcv k hk)).1
  have hA := h.res.lC
  have hb := h.inp.lt
  have hC := h.box.lC
  refine GtI.store (h.inp.frm hf (fun e => (h.off b (hcv b e)).2.1 rfl)) h.len (h.res.other hf (fun e => (h.off A (hcv A e)).1 rfl) hg) (h.box.other hf (fun e => (h.off C (hcv C e)).2.2 rfl) hg) hO h.hb h.bC h.bA h.AC (fun k hk => ?_) 1 cv' rfl (by omega)
  rcases hk with hk | hk | ⟨p, hp, hk⟩
  · exact h.off k (.inl hk)
  · rcases hn with hn | ⟨k', hn, hk'⟩
    · exact h.off k (.inr (.inl (hn ▸ hk)))
    · rw [hk] at hn
      cases hn
      omega
  · rcases List.mem_append.1 hp with hp | hp
    · exact h.off k (.inr (.inr ⟨p, hp, hk⟩))
    · obtain rfl := List.mem_singleton.1 hp
      exact (hd k hk).2
/-- A value was read. -/
def GtP (w0 wr : World) (A b C : Nat) (s : List UInt8) (e : Int) (mv cv : Value) (ms : List Mem) (cs : List CV) (v : Value) (r : Ending) (w' : World) : Prop := r = .returned v ∧ GtI w0 w' A b C s e mv cv ms cs ∧ Frm (One b) wr w'
theorem GtI.int {n : Int} (h : GtI w0 wr A b C s e mv cv ms cs) (hr : Oct.rInt s e = (n, s', e')) : Calls Tryz.prog 42 #[.pointer (some ⟨b, 0, none⟩)] wr (GtP w0 wr A b C s' e' mv cv ms cs (.int .i64 n)) := by
  refine (in_int b s e wr h.inp h.len).mono ?_
  have hl := rInt_len s e
  rw [hr] at hl ⊢
  rintro r w2 ⟨rfl, hi, hf⟩
  exact ⟨rfl, h.read hi hl hf, hf⟩
theorem GtI.text {n : List UInt8} (h : GtI w0 wr A b C s e mv cv ms cs) (hr : Oct.rText s e = (n, s', e')) : Calls Tryz.prog 41 #[.pointer (some ⟨b, 0, none⟩)] wr (GtP w0 wr A b C s' e' mv cv ms cs (.string ⟨n.toArray⟩)) := by
  refine (in_text b s e wr h.inp h.len).mono ?_
  have hl := (rText_len s e).1
  rw [hr] at hl ⊢
  rintro r w2 ⟨rfl, hi, hf⟩
  exact ⟨rfl, h.read hi hl hf, hf⟩
def GtLP (w0 wr : World) (A b C : Nat) (s : List UInt8) (e : Int) (mv cv : Value) (ms : List Mem) (cs : List CV) (l : List B) (r : Ending) (w' : World) : Prop :=
  ∃ ao c, r = .returned (.slice ao l.length c) ∧ w'.ownsRow wr.heap.size 9 1 (.slice ao l.length c) l.length (rows strV l) ∧ GtI w0 w' A b C s e mv cv ms cs ∧ Frm (One b) wr w'
theorem rows_strs (l : List B) : rows strV l = strsV l := by
  unfold rows strsV strV
  induction l with
  | nil => rfl
  | cons a l ih => simpa using ih
theorem GtI.texts {l : List B} (h : GtI w0 wr A b C s e mv cv ms cs) (hr : Oct.rTexts 256 s e = (l, s', e')) : Calls Tryz.prog 43 #[.pointer (some ⟨b, 0, none⟩), .int .i64 256] wr (GtLP w0 wr A b C s' e' mv cv ms cs l) := by
  refine (in_texts b 256 s e wr h.inp h.len).mono ?_
  have hl := rTexts_len 256 s e
  rw [hr] at hl ⊢
  rintro r w2 ⟨v, rfl, hown, hi, hf⟩
  have hsl : (strsV l).length = l.length := by simp [strsV]
  dsimp only at hown
  rw [hsl, ← rows_strs] at hown
  obtain ⟨ao, c, rfl⟩ := ownsRow_shape hown
  exact ⟨ao, c, rfl, hown, h.read hi hl hf, hf⟩
theorem GtI.err (h : GtI w0 wr A b C s e mv cv ms cs) : Calls Tryz.prog 40 #[.pointer (some ⟨b, 0, none⟩)] wr fun r w' => r = .returned (.int .i64 e) ∧ wr = w' := in_err b s e wr h.inp
set_option maxRecDepth 100000 in
set_option maxHeartbeats 4000000 in
theorem count_any {n most : Int} (h : GtI w0 wr A b C s e mv cv ms cs) (hr : Oct.rInt s e = (n, s', e')) :
    Calls Tryz.prog 39 #[.pointer (some ⟨b, 0, none⟩), .int .i64 most] wr (GtP w0 wr A b C s' e' mv cv ms cs (.tuple #[.int .i64 n, .bool (decide (0 ≤ n) && decide (n ≤ most))])) := by
  have HI := hid (h.int hr)
  clear h hr
  by_cases h0 : 0 ≤ n
  · go_enter Tryz.func39, Tryz.ntmps39
    go_wp2_with (go_at_call 42; refine HI.out.mono ?_; rintro e w1 ⟨rfl, hg, hf⟩; have HG := hid (And.intro hg hf); clear hg hf)
    go_ret2
    exact ⟨by simp [h0], HG.out.1, HG.out.2⟩
  · go_enter Tryz.func39, Tryz.ntmps39
    go_wp2_with (go_at_call 42; refine HI.out.mono ?_; rintro e w1 ⟨rfl, hg, hf⟩; have HG := hid (And.intro hg hf); clear hg hf)
    go_ret2
    exact ⟨by simp; omega, HG.out.1, HG.out.2⟩
end
theorem right_is {R : Rl} {mv cv : Value} {w : World} (hr : RlR w mv cv R) (h1 : R.mems.length ≤ 1000) (h2 : R.clss.length ≤ 1000) (h3 : ∀ c ∈ R.clss, c.students.length ≤ 1000 ∧ c.name.length ≤ 65536) (h4 : ∀ m ∈ R.mems, m.name.length ≤ 65536) :
    Calls Tryz.prog 44 #[.agg #[mv, cv]] w fun e w' => e = .returned (.bool (rightB R)) ∧ Frm No w w' :=
  (right_any R mv cv w hr h1 h2 h3 h4).mono fun e w' ⟨q, h5, h6, h7⟩ => ⟨by
    rw [h5]
    have : q = rightB R := by rw [Bool.eq_iff_iff, h6, rightB_iff]
    rw [this], h7⟩
theorem rlo_nil (base : Nat) (w : World) : RlO base w (.slice none 0 0) (.slice none 0 0) ⟨[], ([] : List CV).map (·.1)⟩ [] :=
  ⟨rfl, World.ownsRow_nil _ _ _ _, World.ownsRow_nil _ _ _ _, by simp, (fun k hk => by cases hk), by simp, by simp, List.Pairwise.nil⟩
theorem rInt_bad {s s1 : List UInt8} {e e1 n most : Int} (h : Oct.rInt s e = (n, s1, e1)) (hm : 0 ≤ most) (hn : ¬ (0 ≤ n ∧ n ≤ most)) : e1 = 0 := by
  rcases Decidable.em (e1 = 0) with h0 | h0
  · exact h0
  · have := rInt_zero (s := s) (e := e) (by rw [h]; exact h0)
    rw [h] at this
    dsimp only at this
    omega
theorem nTexts_cnt : ∀ (n : Nat) (s : List UInt8) (acc : List B), (Oct.nTexts n s acc).1.length ≤ acc.length + n
  | 0, s, acc => by simp [Oct.nTexts]
  | n + 1, s, acc => by
    unfold Oct.nTexts
    split
    · have := nTexts_cnt n (Oct.rText s 0).2.1 (acc ++ [(Oct.rText s 0).1])
      simp only [List.length_append, List.length_cons, List.length_nil] at this
      omega
    · simp
theorem rTexts_cnt {s s' : List UInt8} {e e' : Int} {l : List B} (h : Oct.rTexts 256 s e = (l, s', e')) : l.length ≤ 256 := by
  have h1 : (Oct.rTexts 256 s e).1.length ≤ 256 := by
    unfold Oct.rTexts
    split
    · have h2 := nTexts_cnt (Oct.rSize 256 s e).1.toNat (Oct.rSize 256 s e).2.1 []
      have h3 := (rSize_in 256 s e).2.2.2
      have h4 := (rSize_in 256 s e).1
      simp only [List.length_nil] at h2
      omega
    · simp
  rw [h] at h1
  exact h1
set_option maxRecDepth 100000 in
set_option maxHeartbeats 8000000 in
theorem rget_any (s : List UInt8) (w : World) (hl : s.length ≤ 281474976710656) : Calls Tryz.prog 10 #[.string ⟨s.toArray⟩] w (DeedP w (getR s)) := by
  obtain ⟨i0, gi, gz0, gz1, gz2⟩ := info_parts info_mem
  obtain ⟨j0, ji, jz0, jz1, jz2⟩ := info_parts info_cls
  obtain ⟨⟨n, s1, e1⟩, hr1⟩ : ∃ x, Oct.rInt s 0 = x := ⟨_, rfl⟩
  have HR1 := hid hr1
  clear hr1
  go_enter Tryz.func10, Tryz.ntmps10
  go_upto_region 1 with fail
  have X0 := Box.new (Frm.refl No w) [.slice none 0 0, .slice none 0 0] 27
  obtain ⟨W, hW⟩ : ∃ W, W = w.alloc (.cells #[.slice none 0 0, .slice none 0 0] 27) := ⟨_, rfl⟩
  have hW2 : W = w.alloc (.cells ([.slice none 0 0, .slice none 0 0] : List Value).toArray 27) := hW
  rw [← hW] at ⊢
  rw [← hW2] at X0
  clear hW hW2
  obtain ⟨A, hA⟩ : ∃ A, w.heap.size = A := ⟨_, rfl⟩
  rw [hA] at X0
  (try simp only [hA])
  have HX := hid X0
  clear X0
  go_upto_region 3 with (go_at_call 38; refine (in_open s _).mono ?_; rintro e w1 ⟨b, rfl, hbW, hin, hf1⟩)
  have hGt : GtI w (w1.alloc (.cells #[.slice none 0 0, .slice none 0 0] 27)) A b w1.heap.size s 0 (.slice none 0 0) (.slice none 0 0) [] [] := by
    have hF := (Frm.refl No w1).alloc (.cells #[.slice none 0 0, .slice none 0 0] 27)
    have hAl := (HX.out.no hf1).lC
    have hbl := hin.lt
    have hWA := HX.out.lC
    have hwW := HX.out.frm.size
    exact ⟨hin.frm hF (fun h => h), hl, (HX.out.no hf1).no hF, Box.new (HX.out.no hf1).frm _ _, rlo_nil _ _, by omega, by omega, by omega, by omega, fun k hk => (rlb_nil hk).elim⟩
  obtain ⟨C, hC⟩ : ∃ C, w1.heap.size = C := ⟨_, rfl⟩
  rw [hC] at hGt
  (try simp only [hC])
  generalize w1.alloc (.cells #[.slice none 0 0, .slice none 0 0] 27) = WC at *
  have HG := hid hGt
  have HCN : Hid (Calls Tryz.prog 39 #[.pointer (some ⟨b, 0, none⟩), .int .i64 256] WC (GtP w WC A b C s1 e1 (.slice none 0 0) (.slice none 0 0) [] [] (.tuple #[.int .i64 n, .bool (decide (0 ≤ n) && decide (n ≤ 256))]))) := hid (count_any hGt HR1.out)
  clear hGt hin hf1 hbW hC HX HG
  by_cases hn : 0 ≤ n ∧ n ≤ 256
  · as_aux_lemma =>
    obtain ⟨N, rfl⟩ := Int.eq_ofNat_of_zero_le hn.1
    have hN : N ≤ 256 := by omega
    have hnb : (decide (0 ≤ (N : Int)) && decide ((N : Int) ≤ 256)) = true := by simp; omega
    rw [hnb] at HCN
    clear hnb hn
    obtain ⟨⟨ms2, s2, e2⟩, hr2⟩ : ∃ x, rMems N s1 e1 [] = x := ⟨_, rfl⟩
    have HGET := hid (getR_in HR1.out hN hr2)
    have HR2 := hid hr2
    clear hr2 HR1
    go_wp2_with (go_at_call 39; refine HCN.out.mono ?_; rintro e w2 ⟨rfl, hg2, -⟩; have HG2 := hid hg2; clear hg2)
    go_loopw [8] (fun iv wr => ∃ (k : Nat) (sk : List UInt8) (ek : Int) (mv : Value) (ms : List Mem), k ≤ N ∧ iv = .int .i64 (k : Int) ∧ GtI w wr A b C sk ek mv (.slice none 0 0) ms [] ∧ rMems (N - k) sk ek ms = (ms2, s2, e2) ∧ ms.length = k ∧ ∀ m ∈ ms, m.name.length ≤ 65536)
      (fun iv _ => N - (intOf iv).toNat)
    case atStart => exact ⟨0, s1, e1, _, [], by omega, rfl, HG2.out, HR2.out, rfl, by simp⟩
    case round =>
      clear HG2
      obtain ⟨k, sk, ek, mv, ms, hk, rfl, hG, hrun, hml, hmn⟩ := hrel
      obtain ⟨ao, cp, rfl⟩ := ownsRow_shape hG.own.mo
      have HG := hid hG
      have HRUN := hid hrun
      have HML := hid hml
      have HMN := hid hmn
      have HE := hid hG.err
      clear hG hrun hml hmn HR2 HCN
      go_upto_region 5 with fail
      go_cut [30] from 20 to 30 (fun p wq => p = .bool (decide (k < N) && decide (ek = 0)) ∧ wq = wr)
      case first =>
        as_aux_lemma =>
        by_cases hkn : k < N
        · by_cases hek : ek = 0
          · subst hek
            go_wp2_with (go_at_call 40; refine HE.out.mono ?_; rintro e w3 ⟨rfl, rfl⟩)
            go_meet
            exact ⟨by simp [hkn], rfl⟩
          · have hekb : (ek == 0) = false := beq_eq_false_iff_ne.2 hek
            go_wp2_with (go_at_call 40; refine HE.out.mono ?_; rintro e w3 ⟨rfl, rfl⟩)
            go_meet
            exact ⟨by simp [hkn, hek], rfl⟩
        · go_wp2_with fail
          go_meet
          exact ⟨by simp [hkn], rfl⟩
      case rest =>
        as_aux_lemma =>
        obtain ⟨rfl, rfl⟩ := hcut
        by_cases hq : k < N ∧ ek = 0
        · as_aux_lemma =>
          obtain ⟨hkn, rfl⟩ := hq
          have hqb : (decide (k < N) && decide ((0 : Int) = 0)) = true := by simp [hkn]
          rw [hqb]
          obtain ⟨⟨a, sa, ea⟩, hT⟩ : ∃ x, Oct.rText sk 0 = x := ⟨_, rfl⟩
          obtain ⟨⟨ro, sb, eb⟩, hRo⟩ : ∃ x, Oct.rInt sa ea = x := ⟨_, rfl⟩
          obtain ⟨⟨qu, sc, ec⟩, hQ⟩ : ∃ x, Oct.rInt sb eb = x := ⟨_, rfl⟩
          have hal : a.length ≤ 65536 := by have := (rText_len sk 0).2; rw [hT] at this; exact this
          have HNX : Hid (rMems (N - (k + 1)) sc ec (ms ++ [⟨a, ro, qu⟩]) = (ms2, s2, e2)) := hid (by
            have := HRUN.out
            rw [show N - k = (N - (k + 1)) + 1 by omega, rMems_step (rMem_of hT hRo hQ)] at this
            exact this)
          have HT := hid hT
          have HRo := hid hRo
          have HQ := hid hQ
          clear hT hRo hQ hqb HE HRUN
          have hkm : ms.length ≤ 256 := by have := HML.out; omega
          have c0 : ∀ w', (GtI w w' A b C sk 0 (.slice ao ms.length cp) (.slice none 0 0) ms []) → w'.cell? ⟨C, 0, none⟩ = some (.slice ao ms.length cp) := fun w' h => h.box.cell 0
          have hS0 := HG.out.box.cell 0
          simp only [List.getElem?_cons_zero] at hS0
          go_upto_region 7 with fail
          refine wp_region_late (fun w' => w'.cell? ⟨C, 0, none⟩ = some (.slice ao ms.length cp)) [12] (by kernel_rfl) hS0 (fun hHeld => ?_)
          refine wpLate_take0 (i := 0) (oi := _) (v := _) rfl (by kernel_rfl) (by kernel_rfl) (by kernel_rfl) (by kernel_rfl) (fun _ _ _ h => h) (Or.inl ⟨by rfl, by intro w _; go_simp; all_goals with_reducible rfl⟩) (fun _ => by assumption) ?_
          (try simp only [Act.put, List.getElem_toArray, List.getElem_cons_zero, List.setIfInBounds_toArray, List.set_cons_zero, List.set_cons_succ])
          refine wpLate_take [10, 12] (i := 1) (oi := _) (v := _) rfl (by kernel_rfl) (by kernel_rfl) (by kernel_rfl) (by kernel_rfl) (by kernel_rfl) (fun _ _ _ h => h) (Or.inl ⟨by rfl, by intro w hSw; (try dsimp only at hSw); go_simp; all_goals with_reducible rfl⟩) (by assumption) ?_
          (try simp only [Act.put, List.getElem_toArray, List.getElem_cons_succ, List.getElem_cons_zero, List.setIfInBounds_toArray, List.set_cons_zero, List.set_cons_succ])
          refine wpLate_take0 (i := 2) (oi := _) (v := _) rfl (by kernel_rfl) (by kernel_rfl) (by kernel_rfl) (by kernel_rfl) (fun _ _ _ h => h) (Or.inl ⟨by rfl, by intro w _; go_simp; all_goals with_reducible rfl⟩) (fun _ => by assumption) ?_
          (try simp only [Act.put, List.getElem_toArray, List.getElem_cons_succ, List.getElem_cons_zero, List.setIfInBounds_toArray, List.set_cons_zero, List.set_cons_succ])
          refine wpLate_take0 (i := 4) (oi := _) (v := _) rfl (by kernel_rfl) (by kernel_rfl) (by kernel_rfl) (by kernel_rfl) (fun _ _ _ h => h) (Or.inl ⟨by rfl, by intro w _; go_simp; all_goals with_reducible rfl⟩) (fun _ => by assumption) ?_
          (try simp only [Act.put, List.getElem_toArray, List.getElem_cons_succ, List.getElem_cons_zero, List.setIfInBounds_toArray, List.set_cons_zero, List.set_cons_succ])
          refine wpLate_take0 (i := 6) (oi := _) (v := _) rfl (by kernel_rfl) (by kernel_rfl) (by kernel_rfl) (by kernel_rfl) (fun _ _ _ h => h) (Or.inl ⟨by rfl, by intro w _; go_simp; all_goals with_reducible rfl⟩) (fun _ => by assumption) ?_
          (try simp only [Act.put, List.getElem_toArray, List.getElem_cons_succ, List.getElem_cons_zero, List.setIfInBounds_toArray, List.set_cons_zero, List.set_cons_succ])
          refine wpLate_ready (rs := [3]) (by kernel_rfl) (by simp) ?_
          refine (AllReadyL.cons (i := 3) rfl (fun K hK => ?_) AllReadyL.nil)
          simp only [List.getElem_toArray, List.getElem_cons_succ, List.getElem_cons_zero]
          go_simp
          refine (GtI.text (HG.out.no (Frm.refl No _).drew) HT.out).mono ?_; rintro e wa ⟨rfl, hGa, -⟩
          refine hK.out _ _ (hGa.box.cell 0) (fun hHeld => ?_)
          clear hK K
          (try simp only [Act.put, List.getElem_toArray, List.getElem_cons_succ, List.getElem_cons_zero, List.setIfInBounds_toArray, List.set_cons_zero, List.set_cons_succ])
          refine wpLate_ready (rs := [5]) (by kernel_rfl) (by simp) ?_
          refine (AllReadyL.cons (i := 5) rfl (fun K hK => ?_) AllReadyL.nil)
          simp only [List.getElem_toArray, List.getElem_cons_succ, List.getElem_cons_zero]
          go_simp
          refine (GtI.int hGa HRo.out).mono ?_; rintro e wb ⟨rfl, hGb, -⟩
          refine hK.out _ _ (hGb.box.cell 0) (fun hHeld => ?_)
          clear hK K
          (try simp only [Act.put, List.getElem_toArray, List.getElem_cons_succ, List.getElem_cons_zero, List.setIfInBounds_toArray, List.set_cons_zero, List.set_cons_succ])
          refine wpLate_ready (rs := [7]) (by kernel_rfl) (by simp) ?_
          refine (AllReadyL.cons (i := 7) rfl (fun K hK => ?_) AllReadyL.nil)
          simp only [List.getElem_toArray, List.getElem_cons_succ, List.getElem_cons_zero]
          go_simp
          refine (GtI.int hGb HQ.out).mono ?_; rintro e wd ⟨rfl, hGd, -⟩
          refine hK.out _ _ (hGd.box.cell 0) (fun hHeld => ?_)
          clear hK K hGa hGb
          (try simp only [Act.put, List.getElem_toArray, List.getElem_cons_succ, List.getElem_cons_zero, List.setIfInBounds_toArray, List.set_cons_zero, List.set_cons_succ])
          refine wpLate_take0 (i := 8) (oi := _) (v := _) rfl (by kernel_rfl) (by kernel_rfl) (by kernel_rfl) (by kernel_rfl) (fun _ _ _ h => h) (Or.inl ⟨by rfl, by intro w _; go_simp; all_goals with_reducible rfl⟩) (fun _ => by assumption) ?_
          (try simp only [Act.put, List.getElem_toArray, List.getElem_cons_succ, List.getElem_cons_zero, List.setIfInBounds_toArray, List.set_cons_zero, List.set_cons_succ])
          refine wpLate_ready (rs := [9]) (by kernel_rfl) (by simp) ?_
          refine (AllReadyL.cons (i := 9) rfl (fun K hK => ?_) AllReadyL.nil)
          simp only [List.getElem_toArray, List.getElem_cons_succ, List.getElem_cons_zero]
          go_simp
          have hGe := hGd.no ((Frm.refl No wd).alloc (.cells #[.string ⟨a.toArray⟩, .int .i64 ro, .int .i64 qu] 45))
          refine hK.out _ _ (hGe.box.cell 0) (fun hHeld => ?_)
          clear hK K
          (try simp only [Act.put, List.getElem_toArray, List.getElem_cons_succ, List.getElem_cons_zero, List.setIfInBounds_toArray, List.set_cons_zero, List.set_cons_succ])
          have hBX := Box.new (Frm.refl No wd) [.string ⟨a.toArray⟩, .int .i64 ro, .int .i64 qu] 45
          refine wpLate_ready (rs := [10]) (by kernel_rfl) (by simp) ?_
          refine (AllReadyL.cons (i := 10) rfl (fun K hK => ?_) AllReadyL.nil)
          refine step_append_own rfl (.tmp 34) (.tmp 42) 24 24 rfl w.heap.size 45 i0 _ 3 32 Tryz.underlying24 gi gz0 gz1 gz2 rfl (.slice ao ms.length cp) ms.length (rows memV ms) (by simp [Act.eval]) hGe.own.mo (.slice (some ⟨wd.heap.size, 0, none⟩) 1 1) 1 (memV ⟨a, ro, qu⟩) (by simp [Act.eval]) (src_box Tryz.underlying24 (memS.len _) (memS.one _) hBX.cell) (by unfold maxLen; omega) (by omega) (by have := hGe.box.frm.size; omega) ?_
          intro v4 w4 hown4 hf4 hv4
          refine hK.out _ _ ((hf4.cell (p := ⟨C, 0, none⟩) hGe.box.lC (fun e => (hGe.off C (.inl e)).2.2 rfl)).trans (hGe.box.cell 0)) (fun hHeld => ?_)
          clear hK K
          (try simp only [Act.put, List.getElem_toArray, List.getElem_cons_succ, List.getElem_cons_zero, List.setIfInBounds_toArray, List.set_cons_zero, List.set_cons_succ])
          obtain ⟨ao4, cp4, rfl⟩ := ownsRow_shape hown4
          have hB4 := hGe.box.other hf4 (fun e => (hGe.off C (.inl e)).2.2 rfl) (fun k hk => (hGe.own.b_lt (.inl hk)).1)
          have cX := hB4.cell
          have fX := hB4.fr
          refine wpLate_take0 (i := 11) (oi := _) (v := _) rfl (by kernel_rfl) (by kernel_rfl) (by kernel_rfl) (by kernel_rfl) (fun _ _ _ h => h) (Or.inl ⟨by rfl, by intro w _; go_simp; all_goals with_reducible rfl⟩) (fun _ => by assumption) ?_
          (try simp only [Act.put, List.getElem_toArray, List.getElem_cons_succ, List.getElem_cons_zero, List.setIfInBounds_toArray, List.set_cons_zero, List.set_cons_succ])
          refine wpLate_ready (rs := [12]) (by kernel_rfl) (by simp) ?_
          refine (AllReadyL.late (i := 12) rfl (by kernel_rfl) (fun K hK => ?_) AllReadyL.nil)
          simp only [List.getElem_toArray, List.getElem_cons_succ, List.getElem_cons_zero]
          go_simp
          refine hK.out _ _ ?_
          clear hK K
          (try simp only [Act.put, List.getElem_toArray, List.getElem_cons_succ, List.getElem_cons_zero, List.setIfInBounds_toArray, List.set_cons_zero, List.set_cons_succ])
          refine wpLate_done (by kernel_rfl) ?_ _
          have hlen : (ms ++ [(⟨a, ro, qu⟩ : Mem)]).length = ms.length + 1 := by simp
          have hGz := hGe.addM (ms' := ms ++ [⟨a, ro, qu⟩]) hf4 (by rw [hlen, ← rows_snoc]; exact hown4) hv4
          have HGz := hid hGz
          clear hGz cX fX hB4 hown4 hf4 hGe hGd hBX hHeld hS0 c0
          generalize w4.setCell ⟨C, 0, none⟩ (.slice ao4 (ms.length + 1) cp4) = wz at *
          go_wp2_with fail
          exact ⟨⟨k + 1, sc, ec, _, _, by omega, by go_num, HGz.out, HNX.out, by rw [hlen, HML.out], fun m hm => by
            rcases List.mem_append.1 hm with hm | hm
            · exact HMN.out m hm
            · obtain rfl := List.mem_singleton.1 hm
              exact hal⟩, by simp only [intOf]; omega⟩
        · as_aux_lemma =>
          have hqb : (decide (k < N) && decide (ek = 0)) = false := by
            rw [Bool.eq_false_iff]
            intro e
            simp at e
            exact hq e
          rw [hqb]
          have hstop : rMems (N - k) sk ek ms = (ms, sk, ek) := by
            by_cases hek : ek = 0
            · rw [show N - k = 0 by omega]; rfl
            · exact rMems_stop hek
          have hget := HGET.out
          have hrun := HRUN.out
          rw [hstop] at hrun
          simp only [Prod.mk.injEq] at hrun
          rw [← hrun.1, ← hrun.2.1, ← hrun.2.2] at hget
          have HGET2 := hid hget
          clear hqb hstop hget hrun hq HE HRUN HGET
          obtain ⟨⟨m, s3, e3⟩, hr3⟩ : ∃ x, Oct.rInt sk ek = x := ⟨_, rfl⟩
          have HR3 := hid hr3
          have HCN : Hid (Calls Tryz.prog 39 #[.pointer (some ⟨b, 0, none⟩), .int .i64 32] wc (GtP w wc A b C s3 e3 (.slice ao ms.length cp) (.slice none 0 0) ms [] (.tuple #[.int .i64 m, .bool (decide (0 ≤ m) && decide (m ≤ 32))]))) := hid (count_any HG.out hr3)
          clear hr3
          by_cases hm : 0 ≤ m ∧ m ≤ 32
          · as_aux_lemma =>
            obtain ⟨M, rfl⟩ := Int.eq_ofNat_of_zero_le hm.1
            have hM : M ≤ 32 := by omega
            have hmb : (decide (0 ≤ (M : Int)) && decide ((M : Int) ≤ 32)) = true := by simp; omega
            rw [hmb] at HCN
            clear hmb hm
            obtain ⟨⟨cl2, s4, e4⟩, hr4⟩ : ∃ x, rClss M s3 e3 [] = x := ⟨_, rfl⟩
            have HGET3 := hid (HGET2.out.trans (getC_in (ms := ms) HR3.out hM hr4))
            have HR4 := hid hr4
            clear hr4 HR3 HGET2 HG
            go_wp2_with (go_at_call 39; refine HCN.out.mono ?_; rintro e w5 ⟨rfl, hg5, -⟩; have HG5 := hid hg5; clear hg5)
            go_loopw [10] (fun iv wr => ∃ (k2 : Nat) (sk2 : List UInt8) (ek2 : Int) (cv : Value) (cs : List CV), k2 ≤ M ∧ iv = .int .i64 (k2 : Int) ∧ GtI w wr A b C sk2 ek2 (.slice ao ms.length cp) cv ms cs ∧ rClss (M - k2) sk2 ek2 (cs.map (·.1)) = (cl2, s4, e4) ∧ cs.length = k2 ∧ ∀ c ∈ cs, c.1.students.length ≤ 1000 ∧ c.1.name.length ≤ 65536)
              (fun iv _ => M - (intOf iv).toNat)
            case atStart => exact ⟨0, s3, e3, _, [], by omega, rfl, HG5.out, HR4.out, rfl, by simp⟩
            case round =>
              clear HG5
              obtain ⟨k2, sk2, ek2, cv, cs, hk2, rfl, hG, hrun, hcl, hcn⟩ := hrel
              obtain ⟨cao, ccp, rfl⟩ := ownsRow_shape hG.own.co
              have HG := hid hG
              have HRUN := hid hrun
              have HCL := hid hcl
              have HCM := hid hcn
              have HE := hid hG.err
              clear hG hrun hcl hcn HR4 HCN
              go_upto_region 12 with fail
              go_cut [62] from 52 to 62 (fun p wq => p = .bool (decide (k2 < M) && decide (ek2 = 0)) ∧ wq = wr)
              case first =>
                as_aux_lemma =>
                by_cases hkn : k2 < M
                · by_cases hek : ek2 = 0
                  · subst hek
                    go_wp2_with (go_at_call 40; refine HE.out.mono ?_; rintro e w3 ⟨rfl, rfl⟩)
                    go_meet
                    exact ⟨by simp [hkn], rfl⟩
                  · have hekb : (ek2 == 0) = false := beq_eq_false_iff_ne.2 hek
                    go_wp2_with (go_at_call 40; refine HE.out.mono ?_; rintro e w3 ⟨rfl, rfl⟩)
                    go_meet
                    exact ⟨by simp [hkn, hek], rfl⟩
                · go_wp2_with fail
                  go_meet
                  exact ⟨by simp [hkn], rfl⟩
              case rest =>
                as_aux_lemma =>
                obtain ⟨rfl, rfl⟩ := hcut
                by_cases hq : k2 < M ∧ ek2 = 0
                · as_aux_lemma =>
                  obtain ⟨hkn, rfl⟩ := hq
                  have hqb : (decide (k2 < M) && decide ((0 : Int) = 0)) = true := by simp [hkn]
                  rw [hqb]
                  obtain ⟨⟨a, sa, ea⟩, hT⟩ : ∃ x, Oct.rText sk2 0 = x := ⟨_, rfl⟩
                  obtain ⟨⟨t, sb, eb⟩, hRo⟩ : ∃ x, Oct.rText sa ea = x := ⟨_, rfl⟩
                  obtain ⟨⟨l, sc, ec⟩, hQ⟩ : ∃ x, Oct.rTexts 256 sb eb = x := ⟨_, rfl⟩
                  have hal : a.length ≤ 65536 := by have := (rText_len sk2 0).2; rw [hT] at this; exact this
                  have hll : l.length ≤ 256 := rTexts_cnt hQ
                  have HNX : Hid (rClss (M - (k2 + 1)) sc ec (cs.map (·.1) ++ [⟨a, t, l⟩]) = (cl2, s4, e4)) := hid (by
                    have := HRUN.out
                    rw [show M - k2 = (M - (k2 + 1)) + 1 by omega, rClss_step (rCls_of hT hRo hQ)] at this
                    exact this)
                  have HT := hid hT
                  have HRo := hid hRo
                  have HQ := hid hQ
                  clear hT hRo hQ hqb HE HRUN
                  have hkm : cs.length ≤ 32 := by have := HCL.out; omega
                  have hS0 := HG.out.box.cell 1
                  simp only [List.getElem?_cons_zero, List.getElem?_cons_succ] at hS0
                  go_upto_region 14 with fail
                  refine wp_region_late (fun w' => w'.cell? ⟨C, 1, none⟩ = some (.slice cao cs.length ccp)) [12] (by kernel_rfl) hS0 (fun hHeld => ?_)
                  refine wpLate_take0 (i := 0) (oi := _) (v := _) rfl (by kernel_rfl) (by kernel_rfl) (by kernel_rfl) (by kernel_rfl) (fun _ _ _ h => h) (Or.inl ⟨by rfl, by intro w _; go_simp; all_goals with_reducible rfl⟩) (fun _ => by assumption) ?_
                  (try simp only [Act.put, List.getElem_toArray, List.getElem_cons_zero, List.setIfInBounds_toArray, List.set_cons_zero, List.set_cons_succ])
                  refine wpLate_take [10, 12] (i := 1) (oi := _) (v := _) rfl (by kernel_rfl) (by kernel_rfl) (by kernel_rfl) (by kernel_rfl) (by kernel_rfl) (fun _ _ _ h => h) (Or.inl ⟨by rfl, by intro w hSw; (try dsimp only at hSw); go_simp; all_goals with_reducible rfl⟩) (by assumption) ?_
                  (try simp only [Act.put, List.getElem_toArray, List.getElem_cons_succ, List.getElem_cons_zero, List.setIfInBounds_toArray, List.set_cons_zero, List.set_cons_succ])
                  refine wpLate_take0 (i := 2) (oi := _) (v := _) rfl (by kernel_rfl) (by kernel_rfl) (by kernel_rfl) (by kernel_rfl) (fun _ _ _ h => h) (Or.inl ⟨by rfl, by intro w _; go_simp; all_goals with_reducible rfl⟩) (fun _ => by assumption) ?_
                  (try simp only [Act.put, List.getElem_toArray, List.getElem_cons_succ, List.getElem_cons_zero, List.setIfInBounds_toArray, List.set_cons_zero, List.set_cons_succ])
                  refine wpLate_take0 (i := 4) (oi := _) (v := _) rfl (by kernel_rfl) (by kernel_rfl) (by kernel_rfl) (by kernel_rfl) (fun _ _ _ h => h) (Or.inl ⟨by rfl, by intro w _; go_simp; all_goals with_reducible rfl⟩) (fun _ => by assumption) ?_
                  (try simp only [Act.put, List.getElem_toArray, List.getElem_cons_succ, List.getElem_cons_zero, List.setIfInBounds_toArray, List.set_cons_zero, List.set_cons_succ])
                  refine wpLate_take0 (i := 6) (oi := _) (v := _) rfl (by kernel_rfl) (by kernel_rfl) (by kernel_rfl) (by kernel_rfl) (fun _ _ _ h => h) (Or.inl ⟨by rfl, by intro w _; go_simp; all_goals with_reducible rfl⟩) (fun _ => by assumption) ?_
                  (try simp only [Act.put, List.getElem_toArray, List.getElem_cons_succ, List.getElem_cons_zero, List.setIfInBounds_toArray, List.set_cons_zero, List.set_cons_succ])
                  refine wpLate_ready (rs := [3]) (by kernel_rfl) (by simp) ?_
                  refine (AllReadyL.cons (i := 3) rfl (fun K hK => ?_) AllReadyL.nil)
                  simp only [List.getElem_toArray, List.getElem_cons_succ, List.getElem_cons_zero]
                  go_simp
                  refine (GtI.text (HG.out.no (Frm.refl No _).drew) HT.out).mono ?_; rintro e wa ⟨rfl, hGa, -⟩
                  refine hK.out _ _ (hGa.box.cell 1) (fun hHeld => ?_)
                  clear hK K
                  (try simp only [Act.put, List.getElem_toArray, List.getElem_cons_succ, List.getElem_cons_zero, List.setIfInBounds_toArray, List.set_cons_zero, List.set_cons_succ])
                  refine wpLate_ready (rs := [5]) (by kernel_rfl) (by simp) ?_
                  refine (AllReadyL.cons (i := 5) rfl (fun K hK => ?_) AllReadyL.nil)
                  simp only [List.getElem_toArray, List.getElem_cons_succ, List.getElem_cons_zero]
                  go_simp
                  refine (GtI.text hGa HRo.out).mono ?_; rintro e wb ⟨rfl, hGb, -⟩
                  refine hK.out _ _ (hGb.box.cell 1) (fun hHeld => ?_)
                  clear hK K
                  (try simp only [Act.put, List.getElem_toArray, List.getElem_cons_succ, List.getElem_cons_zero, List.setIfInBounds_toArray, List.set_cons_zero, List.set_cons_succ])
                  refine wpLate_ready (rs := [7]) (by kernel_rfl) (by simp) ?_
                  refine (AllReadyL.cons (i := 7) rfl (fun K hK => ?_) AllReadyL.nil)
                  simp only [List.getElem_toArray, List.getElem_cons_succ, List.getElem_cons_zero]
                  go_simp
                  refine (GtI.texts hGb HQ.out).mono ?_; rintro e wd ⟨lao, lcp, rfl, hown, hGd, -⟩
                  refine hK.out _ _ (hGd.box.cell 1) (fun hHeld => ?_)
                  clear hK K hGa
                  (try simp only [Act.put, List.getElem_toArray, List.getElem_cons_succ, List.getElem_cons_zero, List.setIfInBounds_toArray, List.set_cons_zero, List.set_cons_succ])
                  refine wpLate_take0 (i := 8) (oi := _) (v := _) rfl (by kernel_rfl) (by kernel_rfl) (by kernel_rfl) (by kernel_rfl) (fun _ _ _ h => h) (Or.inl ⟨by rfl, by intro w _; go_simp; all_goals with_reducible rfl⟩) (fun _ => by assumption) ?_
                  (try simp only [Act.put, List.getElem_toArray, List.getElem_cons_succ, List.getElem_cons_zero, List.setIfInBounds_toArray, List.set_cons_zero, List.set_cons_succ])
                  refine wpLate_ready (rs := [9]) (by kernel_rfl) (by simp) ?_
                  refine (AllReadyL.cons (i := 9) rfl (fun K hK => ?_) AllReadyL.nil)
                  simp only [List.getElem_toArray, List.getElem_cons_succ, List.getElem_cons_zero]
                  go_simp
                  have hGe := hGd.no ((Frm.refl No wd).alloc (.cells #[.string ⟨a.toArray⟩, .string ⟨t.toArray⟩, .slice lao l.length lcp] 53))
                  have hown2 : (wd.alloc (.cells #[.string ⟨a.toArray⟩, .string ⟨t.toArray⟩, .slice lao l.length lcp] 53)).ownsRow w.heap.size 9 1 (.slice lao l.length lcp) l.length (rows strV l) := ownsRow_base (hown.alloc _) (fun k hk => by have := (hown.lt k hk).1; have := hGb.box.frm.size; omega)
                  have hdd : ∀ k, (Value.slice lao l.length lcp).ownBlock = some k → ¬ RlB (.slice ao ms.length cp) (.slice cao cs.length ccp) cs k ∧ k ≠ A ∧ k ≠ b ∧ k ≠ C := fun k hk => by
                    have h1 := (hown.lt k hk).1
                    have h2 := hGb.res.lC
                    have h3 := hGb.inp.lt
                    have h4 := hGb.box.lC
                    exact ⟨fun e => by have := (hGb.own.b_lt e).2; omega, by omega, by omega, by omega⟩
                  refine hK.out _ _ (hGe.box.cell 1) (fun hHeld => ?_)
                  clear hK K
                  (try simp only [Act.put, List.getElem_toArray, List.getElem_cons_succ, List.getElem_cons_zero, List.setIfInBounds_toArray, List.set_cons_zero, List.set_cons_succ])
                  have hBX := Box.new (Frm.refl No wd) [.string ⟨a.toArray⟩, .string ⟨t.toArray⟩, .slice lao l.length lcp] 53
                  refine wpLate_ready (rs := [10]) (by kernel_rfl) (by simp) ?_
                  refine (AllReadyL.cons (i := 10) rfl (fun K hK => ?_) AllReadyL.nil)
                  refine step_append_own rfl (.tmp 66) (.tmp 74) 25 25 rfl w.heap.size 53 j0 _ 3 56 Tryz.underlying25 ji jz0 jz1 jz2 rfl (.slice cao cs.length ccp) cs.length (rows clsV cs) (by simp [Act.eval]) hGe.own.co (.slice (some ⟨wd.heap.size, 0, none⟩) 1 1) 1 (clsV (⟨a, t, l⟩, (lao, lcp))) (by simp [Act.eval]) (src_box Tryz.underlying25 (clsS.len _) (clsS.one _) hBX.cell) (by unfold maxLen; omega) (by omega) (by have := hGe.box.frm.size; omega) ?_
                  intro v4 w4 hown4 hf4 hv4
                  refine hK.out _ _ ((hf4.cell (p := ⟨C, 1, none⟩) hGe.box.lC (fun e => (hGe.off C (.inr (.inl e))).2.2 rfl)).trans (hGe.box.cell 1)) (fun hHeld => ?_)
                  clear hK K
                  (try simp only [Act.put, List.getElem_toArray, List.getElem_cons_succ, List.getElem_cons_zero, List.setIfInBounds_toArray, List.set_cons_zero, List.set_cons_succ])
                  obtain ⟨ao4, cp4, rfl⟩ := ownsRow_shape hown4
                  have hB4 := hGe.box.other hf4 (fun e => (hGe.off C (.inr (.inl e))).2.2 rfl) (fun k hk => (hGe.own.b_lt (.inr (.inl hk))).1)
                  have cX := hB4.cell
                  have fX := hB4.fr
                  refine wpLate_take0 (i := 11) (oi := _) (v := _) rfl (by kernel_rfl) (by kernel_rfl) (by kernel_rfl) (by kernel_rfl) (fun _ _ _ h => h) (Or.inl ⟨by rfl, by intro w _; go_simp; all_goals with_reducible rfl⟩) (fun _ => by assumption) ?_
                  (try simp only [Act.put, List.getElem_toArray, List.getElem_cons_succ, List.getElem_cons_zero, List.setIfInBounds_toArray, List.set_cons_zero, List.set_cons_succ])
                  refine wpLate_ready (rs := [12]) (by kernel_rfl) (by simp) ?_
                  refine (AllReadyL.late (i := 12) rfl (by kernel_rfl) (fun K hK => ?_) AllReadyL.nil)
                  simp only [List.getElem_toArray, List.getElem_cons_succ, List.getElem_cons_zero]
                  go_simp
                  refine hK.out _ _ ?_
                  clear hK K
                  (try simp only [Act.put, List.getElem_toArray, List.getElem_cons_succ, List.getElem_cons_zero, List.setIfInBounds_toArray, List.set_cons_zero, List.set_cons_succ])
                  refine wpLate_done (by kernel_rfl) ?_ _
                  have hlen : (cs ++ [((⟨a, t, l⟩, (lao, lcp)) : CV)]).length = cs.length + 1 := by simp
                  have hGz := hGe.addC (⟨a, t, l⟩, (lao, lcp)) hown2 hdd hf4 (by rw [hlen, ← rows_snoc]; exact hown4) hv4
                  have HGz := hid hGz
                  clear hGz cX fX hB4 hown4 hf4 hGe hGd hGb hBX hHeld hS0 hown hown2 hdd
                  generalize w4.setCell ⟨C, 1, none⟩ (.slice ao4 (cs.length + 1) cp4) = wz at *
                  go_wp2_with fail
                  exact ⟨⟨k2 + 1, sc, ec, _, _, by omega, by go_num, HGz.out, by rw [List.map_append]; exact HNX.out, by rw [hlen, HCL.out], fun m hm => by
                    rcases List.mem_append.1 hm with hm | hm
                    · exact HCM.out m hm
                    · obtain rfl := List.mem_singleton.1 hm
                      exact ⟨by dsimp only; omega, hal⟩⟩, by simp only [intOf]; omega⟩
                · as_aux_lemma =>
                  have hqb : (decide (k2 < M) && decide (ek2 = 0)) = false := by
                    rw [Bool.eq_false_iff]
                    intro e
                    simp at e
                    exact hq e
                  rw [hqb]
                  have hstop : rClss (M - k2) sk2 ek2 (cs.map (·.1)) = (cs.map (·.1), sk2, ek2) := by
                    by_cases hek : ek2 = 0
                    · rw [show M - k2 = 0 by omega]; rfl
                    · exact rClss_stop hek
                  have hget := HGET3.out
                  have hrun := HRUN.out
                  rw [hstop] at hrun
                  simp only [Prod.mk.injEq] at hrun
                  rw [← hrun.1, ← hrun.2.1, ← hrun.2.2] at hget
                  have HRD := hid (fun w1 (hf : Frm No wc w1) => (HG.out.no hf).own.rd)
                  have HRT := hid (fun w1 (hf : Frm No wc w1) => right_is (HRD.out w1 hf) (by have := HML.out; dsimp only; omega) (by have := HCL.out; rw [List.length_map]; omega) (fun c hc => by obtain ⟨x, hx, rfl⟩ := List.mem_map.1 hc; exact HCM.out x hx) HMN.out)
                  obtain ⟨R, hR⟩ : ∃ R : Rl, R = ⟨ms, cs.map (·.1)⟩ := ⟨_, rfl⟩
                  have HRE := hid hR
                  rw [← hR] at HRD HRT hget
                  have HFI := hid hget
                  have kA := HG.out.res.cell
                  have fA := HG.out.res.fr
                  have kC := HG.out.box.cell
                  clear hqb hstop hget hrun hq HRUN HGET3 hR
                  by_cases he : ek2 = 0
                  case neg =>
                    as_aux_lemma =>
                    have HFIN : Hid (getR s = (Roll.nil, ek2)) := hid (HFI.out.trans (if_pos he))
                    have heb : (ek2 == 0) = false := beq_eq_false_iff_ne.2 he
                    have hec : (ek2 != 0) = true := bne_iff_ne.2 he
                    clear HRT HRD
                    go_wp2_with (go_at_call 40; refine HE.out.mono ?_; rintro e w3 ⟨rfl, rfl⟩)
                    have BX4 := (HG.out.res.set 0 (by simp) (.slice none 0 0)).set 1 (by simp) (.slice none 0 0)
                    have e0 := BX4.cell 0
                    have e1 := BX4.cell 1
                    simp only [List.set_cons_zero, List.set_cons_succ, List.getElem?_cons_zero, List.getElem?_cons_succ] at e0 e1
                    refine bodyPost_ret (v := .tuple #[.agg #[.slice none 0 0, .slice none 0 0], .int .i64 ek2]) (by simp [results, Tryz.results10, go_sem, e0, e1]) rfl (by rw [HFIN.out]; exact ⟨_, _, rfl, nil_rd _, BX4.frm⟩)
                  subst he
                  have HFJ : Hid (getR s = if rightB R = false then (Roll.nil, 2) else if sk2 ≠ [] then (Roll.nil, 4) else (R, 0)) := hid (HFI.out.trans (if_neg (by simp)))
                  obtain ⟨q, hqq⟩ : ∃ q, rightB R = q := ⟨_, rfl⟩
                  rw [hqq] at HRT HFJ
                  have HRT0 := hid (HRT.out _ (Frm.refl No wc))
                  cases q
                  · as_aux_lemma =>
                    have HFIN : Hid (getR s = (Roll.nil, 2)) := hid (HFJ.out.trans (if_pos rfl))
                    clear HRT HRD kA fA
                    go_wp2_with (first | (go_at_call 40; refine HE.out.mono ?_; rintro e w3 ⟨rfl, rfl⟩) | (go_at_call 44; refine HRT0.out.mono ?_; rintro e w6 ⟨rfl, hf6⟩; have HG6 := hid (HG.out.no hf6); have kA := HG6.out.res.cell; have fA := HG6.out.res.fr))
                    have BX4 := (HG6.out.res.set 0 (by simp) (.slice none 0 0)).set 1 (by simp) (.slice none 0 0)
                    have e0 := BX4.cell 0
                    have e1 := BX4.cell 1
                    simp only [List.set_cons_zero, List.set_cons_succ, List.getElem?_cons_zero, List.getElem?_cons_succ] at e0 e1
                    refine bodyPost_ret (v := .tuple #[.agg #[.slice none 0 0, .slice none 0 0], .int .i64 2]) (by simp [results, Tryz.results10, go_sem, e0, e1]) rfl (by rw [HFIN.out]; exact ⟨_, _, rfl, nil_rd _, BX4.frm⟩)
                  have HFK : Hid (getR s = if sk2 ≠ [] then (Roll.nil, 4) else (R, 0)) := hid (HFJ.out.trans (if_neg (by decide)))
                  have HEN := hid (fun w1 (hf : Frm No wc w1) => in_end b sk2 0 w1 (HG.out.no hf).inp)
                  by_cases hsk : sk2 = []
                  case neg =>
                    as_aux_lemma =>
                    have HFIN : Hid (getR s = (Roll.nil, 4)) := hid (HFK.out.trans (if_pos hsk))
                    have hee : Oct.rEnd sk2 0 = 4 := by unfold Oct.rEnd; rw [if_pos rfl, if_neg hsk]
                    rw [hee] at HEN
                    clear HRT HRD kA fA
                    go_wp2_with (first | (go_at_call 40; refine HE.out.mono ?_; rintro e w3 ⟨rfl, rfl⟩) | (go_at_call 44; refine HRT0.out.mono ?_; rintro e w6 ⟨rfl, hf6⟩; have HG6 := hid (HG.out.no hf6); have kA := HG6.out.res.cell; have fA := HG6.out.res.fr) | (go_at_call 45; refine (HEN.out _ hf6).mono ?_; rintro e w7 ⟨rfl, rfl⟩))
                    have BX4 := (HG6.out.res.set 0 (by simp) (.slice none 0 0)).set 1 (by simp) (.slice none 0 0)
                    have e0 := BX4.cell 0
                    have e1 := BX4.cell 1
                    simp only [List.set_cons_zero, List.set_cons_succ, List.getElem?_cons_zero, List.getElem?_cons_succ] at e0 e1
                    refine bodyPost_ret (v := .tuple #[.agg #[.slice none 0 0, .slice none 0 0], .int .i64 4]) (by simp [results, Tryz.results10, go_sem, e0, e1]) rfl (by rw [HFIN.out]; exact ⟨_, _, rfl, nil_rd _, BX4.frm⟩)
                  subst hsk
                  have HFIN : Hid (getR s = (R, 0)) := hid (HFK.out.trans (if_neg (by simp)))
                  have hee : Oct.rEnd [] 0 = 0 := rfl
                  rw [hee] at HEN
                  clear kA fA
                  go_wp2_with (first | (go_at_call 40; refine HE.out.mono ?_; rintro e w3 ⟨rfl, rfl⟩) | (go_at_call 44; refine HRT0.out.mono ?_; rintro e w6 ⟨rfl, hf6⟩; have HG6 := hid (HG.out.no hf6); have kA := HG6.out.res.cell; have fA := HG6.out.res.fr; have kC6 := HG6.out.box.cell) | (go_at_call 45; refine (HEN.out _ hf6).mono ?_; rintro e w7 ⟨rfl, rfl⟩))
                  have BX4 := (HG6.out.res.set 0 (by simp) (.slice ao ms.length cp)).set 1 (by simp) (.slice cao cs.length ccp)
                  have e0 := BX4.cell 0
                  have e1 := BX4.cell 1
                  simp only [List.set_cons_zero, List.set_cons_succ, List.getElem?_cons_zero, List.getElem?_cons_succ] at e0 e1
                  have hOK := HG6.out.own.keep ((setCell_own _).then_ (setCell_own _) : Frm (One A) w6 ((w6.setCell ⟨A, 0, none⟩ (.slice ao ms.length cp)).setCell ⟨A, 1, none⟩ (.slice cao cs.length ccp))) (fun k hk e => (HG6.out.off k hk).1 e)
                  refine bodyPost_ret (v := .tuple #[.agg #[.slice ao ms.length cp, .slice cao cs.length ccp], .int .i64 0]) (by simp [results, Tryz.results10, go_sem, e0, e1]) rfl (by rw [HFIN.out]; exact ⟨_, _, rfl, by have := hOK.rd; rw [← HRE.out] at this; exact this, BX4.frm⟩)
          · as_aux_lemma =>
            have he3 : e3 = 0 := rInt_bad HR3.out (by omega) hm
            subst he3
            have hfin : getR s = (Roll.nil, 2) := by rw [HGET2.out, getC_out HR3.out hm]; rfl
            have hmb : (decide (0 ≤ m) && decide (m ≤ 32)) = false := by
              rw [Bool.eq_false_iff]
              intro e
              simp at e
              exact hm e
            rw [hmb] at HCN
            have HFIN := hid hfin
            clear hmb hm hfin HR3 HGET2 HG
            go_wp2_with (go_at_call 39; refine HCN.out.mono ?_; rintro e w5 ⟨rfl, hg5, -⟩; have HG5 := hid hg5; clear hg5)
            go_loopw [10] (fun iv wr => iv = .int .i64 0 ∧ GtI w wr A b C s3 0 (.slice ao ms.length cp) (.slice none 0 0) ms []) (fun iv _ => 0)
            case atStart => exact ⟨rfl, HG5.out⟩
            case round =>
              clear HG5 HCN
              obtain ⟨rfl, hG⟩ := hrel
              have HER := hid hG.err
              have kA := hG.res.cell
              have fA := hG.res.fr
              have HG := hid hG
              clear hG
              go_wp2_with (go_at_call 40; refine HER.out.mono ?_; rintro e w3 ⟨rfl, rfl⟩)
              have BX4 := (HG.out.res.set 0 (by simp) (.slice none 0 0)).set 1 (by simp) (.slice none 0 0)
              have e0 := BX4.cell 0
              have e1 := BX4.cell 1
              simp only [List.set_cons_zero, List.set_cons_succ, List.getElem?_cons_zero, List.getElem?_cons_succ] at e0 e1
              refine bodyPost_ret (v := .tuple #[.agg #[.slice none 0 0, .slice none 0 0], .int .i64 2]) (by simp [results, Tryz.results10, go_sem, e0, e1]) rfl (by rw [HFIN.out]; exact ⟨_, _, rfl, nil_rd _, BX4.frm⟩)
  · as_aux_lemma =>
    have he1 : e1 = 0 := rInt_bad HR1.out (by omega) hn
    subst he1
    have hfin : getR s = (Roll.nil, 2) := by rw [getR_out HR1.out hn]; rfl
    have hnb : (decide (0 ≤ n) && decide (n ≤ 256)) = false := by
      rw [Bool.eq_false_iff]
      intro e
      simp at e
      exact hn e
    rw [hnb] at HCN
    have HFIN := hid hfin
    clear hnb hn hfin HR1
    go_wp2_with (go_at_call 39; refine HCN.out.mono ?_; rintro e w2 ⟨rfl, hg2, -⟩; have HG2 := hid hg2; clear hg2)
    go_loopw [8] (fun iv wr => iv = .int .i64 0 ∧ GtI w wr A b C s1 0 (.slice none 0 0) (.slice none 0 0) [] []) (fun iv _ => 0)
    case atStart => exact ⟨rfl, HG2.out⟩
    case round =>
      clear HG2 HCN
      obtain ⟨rfl, hG⟩ := hrel
      have HG0 := hid hG
      clear hG
      go_wp2_with fail
      go_loopw [10] (fun iv wr => iv = .int .i64 0 ∧ GtI w wr A b C s1 0 (.slice none 0 0) (.slice none 0 0) [] []) (fun iv _ => 0)
      case atStart => exact ⟨rfl, HG0.out⟩
      case round =>
        clear HG0
        obtain ⟨rfl, hG⟩ := hrel
        have HER := hid hG.err
        have kA := hG.res.cell
        have fA := hG.res.fr
        have HG := hid hG
        clear hG
        go_wp2_with (go_at_call 40; refine HER.out.mono ?_; rintro e w3 ⟨rfl, rfl⟩)
        have BX4 := (HG.out.res.set 0 (by simp) (.slice none 0 0)).set 1 (by simp) (.slice none 0 0)
        have e0 := BX4.cell 0
        have e1 := BX4.cell 1
        simp only [List.set_cons_zero, List.set_cons_succ, List.getElem?_cons_zero, List.getElem?_cons_succ] at e0 e1
        refine bodyPost_ret (v := .tuple #[.agg #[.slice none 0 0, .slice none 0 0], .int .i64 2]) (by simp [results, Tryz.results10, go_sem, e0, e1]) rfl (by rw [HFIN.out]; exact ⟨_, _, rfl, nil_rd _, BX4.frm⟩)

end Go.Proofs.YtofcmghhmklmiaaGreat
