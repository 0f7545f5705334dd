/- A copy of a roll, which shares nothing. -/
import Derived.Test.YtofcmghhmklmiaaGreatRollB3
import Derived.Test.YtofcmghhmklmiaaGreatRollB2
import Derived.Test.YtofcmghhmklmiaaGreatLate
namespace Go.Proofs.YtofcmghhmklmiaaGreat
open Go.RowKit
open Roll

/-- Two rows lie apart. -/
def Dj (u v : Value) : Prop := ∀ k, u.ownBlock = some k → v.ownBlock ≠ some k
theorem Dj.symm {u v : Value} (h : Dj u v) : Dj v u := fun k hk e => h k e hk
/-- A roll whose parts are the call's own, from block 'base' on. -/
structure RlO (base : Nat) (w : World) (mv cv : Value) (R : Rl) (cs : List CV) : Prop where
  fst : cs.map (·.1) = R.clss
  mo : w.ownsRow base 45 3 mv R.mems.length (rows memV R.mems)
  co : w.ownsRow base 53 3 cv cs.length (rows clsV cs)
  so : ∀ p ∈ cs, w.ownsRow base 9 1 (sv p) p.1.students.length (rows strV p.1.students)
  dmc : Dj mv cv
  dms : ∀ p ∈ cs, Dj mv (sv p)
  dcs : ∀ p ∈ cs, Dj cv (sv p)
  dss : cs.Pairwise fun p q => Dj (sv p) (sv q)
theorem RlO.rd {base : Nat} {w : World} {mv cv : Value} {R : Rl} {cs : List CV} (h : RlO base w mv cv R cs) : RlR w mv cv R :=
  ⟨rdl_own memS h.mo, cs, h.fst, rdl_own clsS h.co, fun p hp => rdl_own strS (h.so p hp)⟩
/-- A row of the call's own, where only new blocks came. -/
theorem ownsRow_no {w w' : World} {base : Nat} {e : TypeId} {size : Nat} {v : Value} {n : Nat} {xs : List Value} (h : w.ownsRow base e size v n xs) (hf : Frm No w w') : w'.ownsRow base e size v n xs := hf.row h (fun _ _ h => h)
theorem own_lt {w : World} {base : Nat} {e : TypeId} {size : Nat} {v : Value} {n : Nat} {xs : List Value} (h : w.ownsRow base e size v n xs) {k : Nat} (hk : v.ownBlock = some k) : base ≤ k ∧ k < w.heap.size := h.lt k hk

/-- What the first statement of clone leaves: at block C a roll of two copied lists. -/
def ClP (W : World) (ml cl : Nat) (rm rc : List Value) (p : Value) (wq : World) : Prop :=
  ∃ (C : Nat) (mv' cv' : Value), p = .pointer (some ⟨C, 0, none⟩) ∧ (∀ j, wq.cell? ⟨C, j, none⟩ = ([mv', cv'] : List Value)[j]?) ∧ (∀ j, wq.frozen? ⟨C, j, none⟩ = false) ∧ C < wq.heap.size ∧ W.heap.size ≤ C ∧ wq.ownsRow W.heap.size 45 3 mv' ml rm ∧ wq.ownsRow W.heap.size 53 3 cv' cl rc ∧ Dj mv' cv' ∧ mv'.ownBlock ≠ some C ∧ cv'.ownBlock ≠ some C ∧ Frm No W wq
theorem clone_end1 {W wa wb : World} {ml cl b1 b2 : Nat} {rm rc : List Value} {va vb : Value} {T : TypeId} (hfa : Frm No W wa) (hka : wa.ownsRow b1 45 3 va ml rm) (hb1 : W.heap.size ≤ b1)
    (hfb : Frm No wa wb) (hkb : wb.ownsRow b2 53 3 vb cl rc) (hb2 : wa.heap.size ≤ b2 := by exact Nat.le_refl _) : ClP W ml cl rm rc (.pointer (some ⟨wb.heap.size, 0, none⟩)) (wb.alloc (.cells #[va, vb] T)) := by
  have hX := Box.new (hfa.thenNo hfb) [va, vb] T
  have h0 := hfa.size
  have h1 := hfb.size
  refine ⟨_, va, vb, rfl, hX.cell, hX.fr, hX.lC, by omega, ?_, ?_, fun k hk e => ?_, fun e => ?_, fun e => ?_, hX.frm⟩
  · exact ownsRow_base ((ownsRow_no hka hfb).alloc _) (fun k hk => by have := (hka.lt k hk).1; omega)
  · exact ownsRow_base (hkb.alloc _) (fun k hk => by have := (hkb.lt k hk).1; omega)
  · have := (hka.lt k hk).2; have := (hkb.lt k e).1; omega
  · have := (hka.lt _ e).2; omega
  · have := (hkb.lt _ e).2; omega
theorem clone_set {W wb : World} {ml cl b1 b2 C : Nat} {rm rc : List Value} {va vb x y : Value} (hka : wb.ownsRow b1 45 3 va ml rm) (hb1 : W.heap.size ≤ b1)
    (hkb : wb.ownsRow b2 53 3 vb cl rc) (hb2 : W.heap.size ≤ b2) (hX : Box W wb C [x, y]) (hd : Dj va vb) (h1 : va.ownBlock ≠ some C) (h2 : vb.ownBlock ≠ some C) :
    ClP W ml cl rm rc (.pointer (some ⟨C, 0, none⟩)) ((wb.setCell ⟨C, 0, none⟩ va).setCell ⟨C, 1, none⟩ vb) := by
  have hX2 := (hX.set 0 (by simp) va).set 1 (by simp) vb
  have hF : Frm (One C) wb ((wb.setCell ⟨C, 0, none⟩ va).setCell ⟨C, 1, none⟩ vb) := (setCell_own va).then_ (setCell_own vb)
  refine ⟨C, va, vb, rfl, fun j => ?_, hX2.fr, hX2.lC, hX2.hC, ?_, ?_, hd, h1, h2, hX2.frm⟩
  · rw [hX2.cell]; rfl
  · exact ownsRow_base (hF.row hka (fun k hk e => h1 (by rw [hk]; exact congrArg some e))) (fun k hk => by have := (hka.lt k hk).1; omega)
  · exact ownsRow_base (hF.row hkb (fun k hk e => h2 (by rw [hk]; exact congrArg some e))) (fun k hk => by have := (hkb.lt k hk).1; omega)
theorem clone_end2 {W wa wb : World} {ml cl b1 : Nat} {rm rc : List Value} {va vb : Value} {T : TypeId} (hfa : Frm No W wa) (hka : wa.ownsRow b1 45 3 va ml rm) (hb1 : W.heap.size ≤ b1)
    (hfb : Frm No (wa.alloc (.cells #[.slice none 0 0, .slice none 0 0] T)) wb) (hkb : wb.ownsRow (wa.alloc (.cells #[.slice none 0 0, .slice none 0 0] T)).heap.size 53 3 vb cl rc) :
    ClP W ml cl rm rc (.pointer (some ⟨wa.heap.size, 0, none⟩)) ((wb.setCell ⟨wa.heap.size, 0, none⟩ va).setCell ⟨wa.heap.size, 1, none⟩ vb) := by
  have h0 := hfa.size
  have hX := (Box.new hfa [.slice none 0 0, .slice none 0 0] T).no hfb
  refine clone_set (ownsRow_no (hka.alloc _) hfb) (by omega) hkb (by simp; omega) hX (fun k hk e => ?_) (fun e => ?_) (fun e => ?_)
  · have := (hka.lt k hk).2; have := (hkb.lt k e).1; simp at this; omega
  · have := (hka.lt _ e).2; omega
  · have := (hkb.lt _ e).1
    rw [World.size_alloc] at this
    omega
theorem clone_end3 {W wa wb : World} {ml cl b1 : Nat} {rm rc : List Value} {va vb x y : Value} (hka : wa.ownsRow b1 45 3 va ml rm) (hb1 : W.heap.size < b1) (hfa : Frm No W wa)
    (hfb : Frm No wa wb) (hkb : wb.ownsRow wa.heap.size 53 3 vb cl rc) (hX : Box W wb W.heap.size [x, y]) (hXl : W.heap.size < wa.heap.size) :
    ClP W ml cl rm rc (.pointer (some ⟨W.heap.size, 0, none⟩)) ((wb.setCell ⟨W.heap.size, 0, none⟩ va).setCell ⟨W.heap.size, 1, none⟩ vb) := by
  have h0 := hfa.size
  have h1 : va.ownBlock ≠ some W.heap.size := fun e => by have := (hka.lt _ e).1; omega
  refine clone_set (ownsRow_no hka hfb) (by omega) hkb (by omega) hX (fun k hk e => ?_) h1 (fun e => ?_)
  · have := (hka.lt k hk).2; have := (hkb.lt k e).1; omega
  · have := (hkb.lt _ e).1
    omega
/-- How far the loop of clone is: the first i classes' lists are copied. -/
structure ClI (W : World) (ml C : Nat) (mv' cv' : Value) (rm : List Value) (cs new : List CV) (i : Nat) (wr : World) : Prop where
  len : new.length = i
  fst : new.map (·.1) = (cs.take i).map (·.1)
  co : wr.ownsRow W.heap.size 53 3 cv' cs.length (rows clsV (new ++ cs.drop i))
  mo : wr.ownsRow W.heap.size 45 3 mv' ml rm
  so : ∀ p ∈ new, wr.ownsRow W.heap.size 9 1 (sv p) p.1.students.length (rows strV p.1.students)
  dm : ∀ p ∈ new, Dj mv' (sv p)
  dc : ∀ p ∈ new, Dj cv' (sv p)
  dC : ∀ p ∈ new, (sv p).ownBlock ≠ some C
  ss : new.Pairwise fun p q => Dj (sv p) (sv q)
  cC : ∀ j, wr.cell? ⟨C, j, none⟩ = ([mv', cv'] : List Value)[j]?
  lC : C < wr.heap.size
  frm : Frm No W wr
theorem take_drop_set {α : Type} (new cs : List α) (i : Nat) (y : α) (hn : new.length = i) (hi : i < cs.length) : (new ++ cs.drop i).set i y = (new ++ [y]) ++ cs.drop (i + 1) := by
  rw [List.set_append_right _ _ (by omega), hn, Nat.sub_self, List.drop_eq_getElem_cons hi, List.set_cons_zero, List.append_assoc]
  rfl
theorem app_at {α : Type} (new cs : List α) (i : Nat) (hn : new.length = i) (hi : i < cs.length) (h : i < (new ++ cs.drop i).length) : (new ++ cs.drop i)[i] = cs[i] := by
  rw [List.getElem_append_right (by omega)]
  simp [hn]
/-- One round: a list was copied, and stored. -/
theorem ClI.next {W wr wa : World} {ml C g cap : Nat} {mv' : Value} {rm : List Value} {cs new : List CV} {i : Nat} (h : ClI W ml C mv' (.slice (some ⟨g, 0, none⟩) cs.length cap) rm cs new i wr) (hi : i < cs.length) (hgC : g ≠ C) (hcm : Dj mv' (.slice (some ⟨g, 0, none⟩) cs.length cap))
    (ao : Option Addr) (c : Nat) (hf : Frm No wr wa) (ho : wa.ownsRow wr.heap.size 9 1 (.slice ao cs[i].1.students.length c) cs[i].1.students.length (rows strV cs[i].1.students)) :
    ClI W ml C mv' (.slice (some ⟨g, 0, none⟩) cs.length cap) rm cs (new ++ [(cs[i].1, (ao, c))]) (i + 1) (wa.setCell ⟨g, i * 3 + 2, none⟩ (.slice ao cs[i].1.students.length c)) := by
  have hF : Frm (One g) wa (wa.setCell ⟨g, i * 3 + 2, none⟩ (.slice ao cs[i].1.students.length c)) := setCell_own _
  have hsz := hf.size
  have hll : (new ++ cs.drop i).length = cs.length := by simp [h.len]; omega
  have hco : wa.ownsRow W.heap.size 53 3 (.slice (some ⟨g, 0, none⟩) cs.length cap) (new ++ cs.drop i).length (rows clsV (new ++ cs.drop i)) := by rw [hll]; exact ownsRow_no h.co hf
  have hgl : g < wr.heap.size := (h.co.lt g rfl).2
  have hg : W.heap.size ≤ g := (h.co.lt g rfl).1
  have hWr := h.frm.size
  have hset := own_set clsS Tryz.prog (base := W.heap.size) (l := new ++ cs.drop i) (by rw [hll] at hco ⊢; exact hco) (i := i) (j := 2) (by rw [hll]; exact hi) (by omega) (x := .slice ao cs[i].1.students.length c) rfl (y := (cs[i].1, (ao, c))) (by rw [app_at new cs i h.len hi]; rfl)
  rw [take_drop_set new cs i _ h.len hi, hll] at hset
  have hnew : ∀ k, (sv (cs[i].1, (ao, c))).ownBlock = some k → wr.heap.size ≤ k := fun k hk => (ho.lt k hk).1
  have hng : ∀ p ∈ new, ∀ k, (sv p).ownBlock = some k → k ≠ g := fun p hp k hk e => by subst e; exact h.dc p hp k rfl hk
  refine ⟨by simp [h.len], ?_, hset, ?_, fun p hp => ?_, fun p hp => ?_, fun p hp => ?_, fun p hp => ?_, ?_, fun j => ?_, ?_, ?_⟩
  · rw [List.map_append, h.fst, List.take_succ_eq_append_getElem hi, List.map_append]
    rfl
  · exact hF.row (ownsRow_no h.mo hf) (fun k hk e => by have e : k = g := e; subst e; exact hcm k hk rfl)
  · rcases List.mem_append.1 hp with hp | hp
    · exact hF.row (ownsRow_no (h.so p hp) hf) (fun k hk e => hng p hp k hk e)
    · simp only [List.mem_singleton] at hp
      subst hp
      exact hF.row (ownsRow_base ho (fun k hk => by have := (ho.lt k hk).1; omega)) (fun k hk e => by have e : k = g := e; have := (ho.lt k hk).1; omega)
  · rcases List.mem_append.1 hp with hp | hp
    · exact h.dm p hp
    · simp only [List.mem_singleton] at hp
      subst hp
      exact fun k hk e => by have := (h.mo.lt k hk).2; have := hnew k e; omega
  · rcases List.mem_append.1 hp with hp | hp
    · exact h.dc p hp
    · simp only [List.mem_singleton] at hp
      subst hp
      exact fun k hk e => by have := (h.co.lt k hk).2; have := hnew k e; omega
  · rcases List.mem_append.1 hp with hp | hp
    · exact h.dC p hp
    · simp only [List.mem_singleton] at hp
      subst hp
      exact fun e => by have := hnew C e; have := h.lC; omega
  · refine List.pairwise_append.2 ⟨h.ss, List.pairwise_singleton _ _, fun p hp q hq => ?_⟩
    simp only [List.mem_singleton] at hq
    subst hq
    exact fun k hk e => by have := ((h.so p hp).lt k hk).2; have := hnew k e; omega
  · exact ((hF.cell (p := ⟨C, j, none⟩) (by have := h.lC; show C < _; omega) (fun e => hgC e.symm)).trans (hf.cell (p := ⟨C, j, none⟩) h.lC (fun e => e))).trans (h.cC j)
  · have := hF.size; have := h.lC; omega
  · exact (h.frm.thenNo hf).trans hF (fun _ _ h => h) (fun k hk e => by have e : k = g := e; omega)
set_option maxRecDepth 100000 in
set_option maxHeartbeats 4000000 in
theorem rclone_any (R : Rl) (mv cv : Value) (w : World) (hr : RlR w mv cv R) (h1 : R.mems.length ≤ 1000) (h2 : R.clss.length ≤ 1000) (h3 : ∀ c ∈ R.clss, c.students.length ≤ 1000) :
    Calls Tryz.prog 55 #[.agg #[mv, cv]] w fun e w' => ∃ mv' cv' cs', e = .returned (.agg #[mv', cv']) ∧ RlO w.heap.size w' mv' cv' R cs' ∧ Frm No w w' := by
  obtain ⟨mao, mcp, rfl⟩ := hr.mr.shape
  obtain ⟨cs, he, hc, hst⟩ := hr.cr
  have hcl : cs.length = R.clss.length := by rw [← he]; simp
  have HKM := hid (fun (w1 : World) (hf : Frm No w w1) => clone_mem R.mems (.slice mao R.mems.length mcp) w1 (hr.no hf).mr (by omega))
  have hcf : ∀ w1, Frm No w w1 → RdL w1 cv 3 clsV cs := fun w1 hf => hc.frm (fun _ _ => rfl) hf (fun _ _ h => h)
  have HKC := hid (fun (w1 : World) (hf : Frm No w w1) => clone_cls cs cv w1 (hcf w1 hf) (by omega))
  have HST := hid (fun (w1 : World) (hf : Frm No w w1) p (hp : p ∈ cs) => clone_str p.1.students (sv p) w1 ((hst p hp).frm (fun _ _ => rfl) hf (fun _ _ h => h)) (by have := h3 p.1 (by rw [← he]; exact List.mem_map.2 ⟨p, hp, rfl⟩); omega))
  obtain ⟨cao, ccp, rfl⟩ := hc.shape
  clear hr hc hst hcf h3
  have HE := hid he
  clear he
  obtain ⟨ml, hml⟩ : ∃ ml, R.mems.length = ml := ⟨_, rfl⟩
  rw [hml] at HKM h1 ⊢
  have HML := hid hml
  clear hml
  obtain ⟨cl, hcl'⟩ : ∃ cl, cs.length = cl := ⟨_, rfl⟩
  have HCL : Hid (cs.length = cl ∧ cl = R.clss.length) := hid ⟨hcl', by omega⟩
  rw [hcl'] at HKC ⊢
  have h2 : cl ≤ 1000 := by omega
  clear hcl hcl'
  go_enter Tryz.func55, Tryz.ntmps55
  go_upto_region 1 with fail
  have X0 := Box.new (Frm.refl No w) [.slice mao ml mcp, .slice cao cl ccp] 27
  have X1 := Box.new X0.frm [.slice none 0 0, .slice none 0 0] 27
  have Y0 := X0.no ((Frm.refl No _).alloc (.cells #[.slice none 0 0, .slice none 0 0] 27))
  clear X0
  simp only [World.size_alloc] at X1
  obtain ⟨W, hW⟩ : ∃ W, W = (w.alloc (.cells #[.slice mao ml mcp, .slice cao cl ccp] 27)).alloc (.cells #[.slice none 0 0, .slice none 0 0] 27) := ⟨_, rfl⟩
  rw [← hW] at X1 Y0 ⊢
  clear hW
  obtain ⟨b, hb⟩ : ∃ b, w.heap.size = b := ⟨_, rfl⟩
  rw [hb] at X1 Y0
  simp only [hb]
  have x0 := Y0.cell
  have HY := hid Y0
  have HX := hid X1
  have hlb := Y0.lC
  clear X1 Y0
  go_cut [3] from 5 to 11 (fun p wq => ClP W ml cl (rows memV R.mems) (rows clsV cs) p wq)
  case first =>
    as_aux_lemma =>
    have SK : Hid (∀ w', Frm No W w' → w'.cell? ⟨b, 0, none⟩ = some (.slice mao ml mcp) ∧ w'.cell? ⟨b, 1, none⟩ = some (.slice cao cl ccp)) := hid fun w' hf => ⟨(hf.cell (p := ⟨b, 0, none⟩) hlb (fun h => h)).trans (x0 0), (hf.cell (p := ⟨b, 1, none⟩) hlb (fun h => h)).trans (x0 1)⟩
    clear x0
    refine wp_region_late (fun w' => w'.cell? ⟨b, 0, none⟩ = some (.slice mao ml mcp) ∧ w'.cell? ⟨b, 1, none⟩ = some (.slice cao cl ccp)) [8] (by kernel_rfl) (SK.out _ (Frm.refl _ _).drew) (fun hHeld => ?_)
    refine wpLate_take0 (i := 0) (oi := _) (v := _) rfl (by kernel_rfl) (by kernel_rfl) (by kernel_rfl) (by kernel_rfl) (fun _ _ _ h => h) (Or.inl ⟨by rfl, by intro w _; go_simp; all_goals with_reducible rfl⟩) (fun _ => by assumption) ?_
    (try simp only [Act.put, List.getElem_toArray, List.getElem_cons_zero, List.setIfInBounds_toArray, List.set_cons_zero, List.set_cons_succ])
    refine wpLate_take [2, 5, 6, 8] (i := 1) (oi := _) (v := _) rfl (by kernel_rfl) (by kernel_rfl) (by kernel_rfl) (by kernel_rfl) (by kernel_rfl) (fun _ _ _ h => h) (Or.inl ⟨by rfl, by intro w hSw; (try dsimp only at hSw); go_simp; all_goals with_reducible rfl⟩) (by assumption) ?_
    (try simp only [Act.put, List.getElem_toArray, List.getElem_cons_succ, List.getElem_cons_zero, List.setIfInBounds_toArray, List.set_cons_zero, List.set_cons_succ])
    refine wpLate_take0 (i := 3) (oi := _) (v := _) rfl (by kernel_rfl) (by kernel_rfl) (by kernel_rfl) (by kernel_rfl) (fun _ _ _ h => h) (Or.inl ⟨by rfl, by intro w _; go_simp; all_goals with_reducible rfl⟩) (fun _ => by assumption) ?_
    (try simp only [Act.put, List.getElem_toArray, List.getElem_cons_succ, List.getElem_cons_zero, List.setIfInBounds_toArray, List.set_cons_zero, List.set_cons_succ])
    refine wpLate_take [5, 6, 8] (i := 4) (oi := _) (v := _) rfl (by kernel_rfl) (by kernel_rfl) (by kernel_rfl) (by kernel_rfl) (by kernel_rfl) (fun _ _ _ h => h) (Or.inl ⟨by rfl, by intro w hSw; (try dsimp only at hSw); go_simp; all_goals with_reducible rfl⟩) (by assumption) ?_
    (try simp only [Act.put, List.getElem_toArray, List.getElem_cons_succ, List.getElem_cons_zero, List.setIfInBounds_toArray, List.set_cons_zero, List.set_cons_succ])
    refine wpLate_ready (rs := [2, 7]) (by kernel_rfl) (by simp) ?_
    refine (AllReadyL.cons (i := 2) rfl (fun K hK => ?_) (AllReadyL.cons (i := 7) rfl (fun K hK => ?_) AllReadyL.nil))
    · simp only [List.getElem_toArray, List.getElem_cons_succ, List.getElem_cons_zero]
      go_simp
      refine (HKM.out _ HY.out.frm.drew).mono ?_; rintro e wa ⟨va, rfl, hka, hfa0⟩; obtain ⟨vao, vac, rfl⟩ := ownsRow_shape hka; have hfa := ((Frm.refl No W).drew).thenNo hfa0
      refine hK.out _ _ (SK.out _ hfa) (fun hHeld => ?_)
      clear hK K
      (try simp only [Act.put, List.getElem_toArray, List.getElem_cons_succ, List.getElem_cons_zero, List.setIfInBounds_toArray, List.set_cons_zero, List.set_cons_succ])
      refine wpLate_ready (rs := [5, 7]) (by kernel_rfl) (by simp) ?_
      refine (AllReadyL.cons (i := 5) rfl (fun K hK => ?_) (AllReadyL.cons (i := 7) rfl (fun K hK => ?_) AllReadyL.nil))
      · simp only [List.getElem_toArray, List.getElem_cons_succ, List.getElem_cons_zero]
        go_simp
        refine (HKC.out _ (HY.out.frm.thenNo hfa)).mono ?_; rintro e wb ⟨vb, rfl, hkb, hfb⟩; obtain ⟨vbo, vbc, rfl⟩ := ownsRow_shape hkb
        refine hK.out _ _ (SK.out _ (hfa.thenNo hfb)) (fun hHeld => ?_)
        clear hK K
        (try simp only [Act.put, List.getElem_toArray, List.getElem_cons_succ, List.getElem_cons_zero, List.setIfInBounds_toArray, List.set_cons_zero, List.set_cons_succ])
        refine wpLate_take0 (i := 6) (oi := _) (v := _) rfl (by kernel_rfl) (by kernel_rfl) (by kernel_rfl) (by kernel_rfl) (fun _ _ _ h => h) (Or.inl ⟨by rfl, by intro w _; go_simp; all_goals with_reducible rfl⟩) (fun _ => by assumption) ?_
        (try simp only [Act.put, List.getElem_toArray, List.getElem_cons_succ, List.getElem_cons_zero, List.setIfInBounds_toArray, List.set_cons_zero, List.set_cons_succ])
        refine wpLate_ready (rs := [7]) (by kernel_rfl) (by simp) ?_
        refine (AllReadyL.cons (i := 7) rfl (fun K hK => ?_) AllReadyL.nil)
        simp only [List.getElem_toArray, List.getElem_cons_succ, List.getElem_cons_zero]
        go_simp
        refine hK.out _ _ (SK.out _ ((hfa.thenNo hfb).alloc _)) (fun hHeld => ?_)
        clear hK K
        (try simp only [Act.put, List.getElem_toArray, List.getElem_cons_succ, List.getElem_cons_zero, List.setIfInBounds_toArray, List.set_cons_zero, List.set_cons_succ])
        refine wpLate_ready (rs := [8]) (by kernel_rfl) (by simp) ?_
        refine (AllReadyL.late (i := 8) rfl (by kernel_rfl) (fun K hK => ?_) AllReadyL.nil)
        simp only [List.getElem_toArray, List.getElem_cons_succ, List.getElem_cons_zero]
        go_simp
        refine hK.out _ _ ?_
        clear hK K
        (try simp only [Act.put, List.getElem_toArray, List.getElem_cons_succ, List.getElem_cons_zero, List.setIfInBounds_toArray, List.set_cons_zero, List.set_cons_succ])
        refine wpLate_done (by kernel_rfl) ?_ _
        dsimp only [Exit.then]; go_step; go_meet
        exact clone_end1 hfa hka (by simp) hfb hkb
      · simp only [List.getElem_toArray, List.getElem_cons_succ, List.getElem_cons_zero]
        go_simp
        refine hK.out _ _ (SK.out _ (hfa.alloc _)) (fun hHeld => ?_)
        clear hK K
        (try simp only [Act.put, List.getElem_toArray, List.getElem_cons_succ, List.getElem_cons_zero, List.setIfInBounds_toArray, List.set_cons_zero, List.set_cons_succ])
        refine wpLate_ready (rs := [5]) (by kernel_rfl) (by simp) ?_
        refine (AllReadyL.cons (i := 5) rfl (fun K hK => ?_) AllReadyL.nil)
        simp only [List.getElem_toArray, List.getElem_cons_succ, List.getElem_cons_zero]
        go_simp
        refine (HKC.out _ ((HY.out.frm.thenNo hfa).alloc _)).mono ?_; rintro e wb ⟨vb, rfl, hkb, hfb⟩; obtain ⟨vbo, vbc, rfl⟩ := ownsRow_shape hkb; have BXb := (Box.new hfa [.slice none 0 0, .slice none 0 0] 27).no hfb
        refine hK.out _ _ (SK.out _ ((hfa.alloc _).thenNo hfb)) (fun hHeld => ?_)
        clear hK K
        (try simp only [Act.put, List.getElem_toArray, List.getElem_cons_succ, List.getElem_cons_zero, List.setIfInBounds_toArray, List.set_cons_zero, List.set_cons_succ])
        refine wpLate_take0 (i := 6) (oi := _) (v := _) rfl (by kernel_rfl) (by kernel_rfl) (by kernel_rfl) (by kernel_rfl) (fun _ _ _ h => h) (Or.inl ⟨by rfl, by intro w _; go_simp; all_goals with_reducible rfl⟩) (fun _ => by assumption) ?_
        (try simp only [Act.put, List.getElem_toArray, List.getElem_cons_succ, List.getElem_cons_zero, List.setIfInBounds_toArray, List.set_cons_zero, List.set_cons_succ])
        have cX := BXb.cell
        have fX := BXb.fr
        refine wpLate_ready (rs := [8]) (by kernel_rfl) (by simp) ?_
        refine (AllReadyL.late (i := 8) rfl (by kernel_rfl) (fun K hK => ?_) AllReadyL.nil)
        simp only [List.getElem_toArray, List.getElem_cons_succ, List.getElem_cons_zero]
        go_simp
        refine hK.out _ _ ?_
        clear hK K
        (try simp only [Act.put, List.getElem_toArray, List.getElem_cons_succ, List.getElem_cons_zero, List.setIfInBounds_toArray, List.set_cons_zero, List.set_cons_succ])
        refine wpLate_done (by kernel_rfl) ?_ _
        dsimp only [Exit.then]; go_step; go_meet
        exact clone_end2 hfa hka (by simp) hfb hkb
    · simp only [List.getElem_toArray, List.getElem_cons_succ, List.getElem_cons_zero]
      go_simp
      refine hK.out _ _ (SK.out _ ((Frm.refl No W).drew.alloc _)) (fun hHeld => ?_)
      clear hK K
      (try simp only [Act.put, List.getElem_toArray, List.getElem_cons_succ, List.getElem_cons_zero, List.setIfInBounds_toArray, List.set_cons_zero, List.set_cons_succ])
      refine wpLate_ready (rs := [2]) (by kernel_rfl) (by simp) ?_
      refine (AllReadyL.cons (i := 2) rfl (fun K hK => ?_) AllReadyL.nil)
      simp only [List.getElem_toArray, List.getElem_cons_succ, List.getElem_cons_zero]
      go_simp
      refine (HKM.out _ ((HY.out.frm.alloc _).drew)).mono ?_; rintro e wa ⟨va, rfl, hka, hfa0⟩; obtain ⟨vao, vac, rfl⟩ := ownsRow_shape hka; have hfa := (((Frm.refl No W).alloc _).drew).thenNo hfa0; have BXa := ((Box.new (Frm.refl No W) [.slice none 0 0, .slice none 0 0] 27).no ((Frm.refl No _).drew)).no hfa0
      refine hK.out _ _ (SK.out _ hfa) (fun hHeld => ?_)
      clear hK K
      (try simp only [Act.put, List.getElem_toArray, List.getElem_cons_succ, List.getElem_cons_zero, List.setIfInBounds_toArray, List.set_cons_zero, List.set_cons_succ])
      refine wpLate_ready (rs := [5]) (by kernel_rfl) (by simp) ?_
      refine (AllReadyL.cons (i := 5) rfl (fun K hK => ?_) AllReadyL.nil)
      simp only [List.getElem_toArray, List.getElem_cons_succ, List.getElem_cons_zero]
      go_simp
      refine (HKC.out _ (HY.out.frm.thenNo hfa)).mono ?_; rintro e wb ⟨vb, rfl, hkb, hfb⟩; obtain ⟨vbo, vbc, rfl⟩ := ownsRow_shape hkb
      refine hK.out _ _ (SK.out _ (hfa.thenNo hfb)) (fun hHeld => ?_)
      clear hK K
      (try simp only [Act.put, List.getElem_toArray, List.getElem_cons_succ, List.getElem_cons_zero, List.setIfInBounds_toArray, List.set_cons_zero, List.set_cons_succ])
      refine wpLate_take0 (i := 6) (oi := _) (v := _) rfl (by kernel_rfl) (by kernel_rfl) (by kernel_rfl) (by kernel_rfl) (fun _ _ _ h => h) (Or.inl ⟨by rfl, by intro w _; go_simp; all_goals with_reducible rfl⟩) (fun _ => by assumption) ?_
      (try simp only [Act.put, List.getElem_toArray, List.getElem_cons_succ, List.getElem_cons_zero, List.setIfInBounds_toArray, List.set_cons_zero, List.set_cons_succ])
      have BXb := BXa.no hfb
      have cX := BXb.cell
      have fX := BXb.fr
      refine wpLate_ready (rs := [8]) (by kernel_rfl) (by simp) ?_
      refine (AllReadyL.late (i := 8) rfl (by kernel_rfl) (fun K hK => ?_) AllReadyL.nil)
      simp only [List.getElem_toArray, List.getElem_cons_succ, List.getElem_cons_zero]
      go_simp
      refine hK.out _ _ ?_
      clear hK K
      (try simp only [Act.put, List.getElem_toArray, List.getElem_cons_succ, List.getElem_cons_zero, List.setIfInBounds_toArray, List.set_cons_zero, List.set_cons_succ])
      refine wpLate_done (by kernel_rfl) ?_ _
      dsimp only [Exit.then]; go_step; go_meet
      exact clone_end3 hka (by simp) hfa hfb hkb BXb BXa.lC
  case rest =>
    as_aux_lemma =>
    obtain ⟨C, mv', cv', rfl, hC, hCf, hCl, hCW, hm, hc, hd, hmC, hcC, hfq⟩ := hcut
    obtain ⟨hcle, hcl2⟩ := HCL.out
    subst hcle
    obtain ⟨cva, cvc, rfl⟩ := ownsRow_shape hc
    obtain ⟨mva, mvc, rfl⟩ := ownsRow_shape hm
    have HI0 : Hid (ClI W ml C (.slice mva ml mvc) (.slice cva cs.length cvc) (rows memV R.mems) cs [] 0 wc) := hid ⟨rfl, rfl, hc, hm, by simp, by simp, by simp, by simp, List.Pairwise.nil, hC, hCl, hfq⟩
    have HDj := hid hd
    have HcC := hid hcC
    have HML2 := HML
    clear hc hm hd hcC hmC hCf hcl2 HCL HKM HKC x0 hfq hCl
    go_wp2_with fail
    go_loopw [4, 15] (fun _ k wr => ∃ (i : Nat) (new : List CV), i ≤ cs.length ∧ k = .int .i64 (i : Int) ∧ ClI W ml C (.slice mva ml mvc) (.slice cva cs.length cvc) (rows memV R.mems) cs new i wr)
      (fun _ k _ => cs.length - (intOf k).toNat)
    case atStart => exact ⟨0, [], by omega, rfl, HI0.out⟩
    case round =>
      clear hC HI0
      obtain ⟨i, new, hi, rfl, hI⟩ := hrel
      have HI := hid hI
      have c0 := hI.cC 0
      have c1 := hI.cC 1
      simp only [List.getElem?_cons_zero, List.getElem?_cons_succ] at c0 c1
      by_cases hil : i < cs.length
      · as_aux_lemma =>
        have hll : (new ++ cs.drop i).length = cs.length := by simp [hI.len]; omega
        have hco := hI.co
        rw [← hll] at hco
        obtain ⟨g, cap, hv, hbg, hgl, hnc, hgc, hgf⟩ := own_at clsS hco (i := i) (by rw [hll]; exact hil)
        rw [hll] at hv hnc
        have q2 := hgc 2 (by omega)
        rw [app_at new cs i hI.len hil] at q2
        have hq := HST.out wr.drew (HY.out.frm.thenNo hI.frm).drew cs[i] (List.getElem_mem hil)
        have HN := hid (fun (hgC : g ≠ C) (hcm : Dj (.slice mva ml mvc) (.slice (some ⟨g, 0, none⟩) cs.length cap)) (ao : Option Addr) (c : Nat) wa (hf : Frm No wr wa) (ho : wa.ownsRow wr.heap.size 9 1 (.slice ao cs[i].1.students.length c) cs[i].1.students.length (rows strV cs[i].1.students)) => ClI.next (by simp only [Value.slice.injEq] at hv; obtain ⟨rfl, -, rfl⟩ := hv; exact hI) hil hgC hcm ao c hf ho)
        have hgC : g ≠ C := fun e => HcC.out (by rw [hv]; exact congrArg some e)
        have hcm : Dj (.slice mva ml mvc) (.slice (some ⟨g, 0, none⟩) cs.length cap) := by rw [← hv]; exact HDj.out
        have HN2 := hid (HN.out hgC hcm)
        obtain ⟨p, hp⟩ : ∃ p, cs[i] = p := ⟨_, rfl⟩
        simp only [hp] at HN2 hq q2
        obtain ⟨⟨nm, te, st⟩, so, sc⟩ := p
        simp only [clsV, List.getElem?_cons_zero, List.getElem?_cons_succ, sv] at q2 hq
        simp only [Value.slice.injEq] at hv
        obtain ⟨rfl, -, rfl⟩ := hv
        have hCl := hI.lC
        have SK : Hid (∀ w', Frm No wr w' → w'.cell? ⟨C, 1, none⟩ = some (.slice (some ⟨g, 0, none⟩) cs.length cvc) ∧ w'.cell? ⟨g, i * 3 + 2, none⟩ = some (.slice so st.length sc)) := hid fun w' hf => ⟨(hf.cell (p := ⟨C, 1, none⟩) hCl (fun h => h)).trans c1, (hf.cell (p := ⟨g, i * 3 + 2, none⟩) hgl (fun h => h)).trans q2⟩
        have HGF := hid (fun w' (hf : Frm No wr w') => (hf.frozen (p := ⟨g, i * 3 + 2, none⟩) hgl (fun h => h)).trans (hgf _))
        have HQ := hid hq
        have hilz : (i : Int) < (cs.length : Int) := by omega
        clear hq q2 c0 c1 hI HI hco hgc hgf hll HN hp HST HDj HcC hcm
        generalize cs.length = cl at *
        go_upto_region 5 with fail
        refine wp_region_late (fun w' => w'.cell? ⟨C, 1, none⟩ = some (.slice (some ⟨g, 0, none⟩) cl cvc) ∧ w'.cell? ⟨g, i * 3 + 2, none⟩ = some (.slice so st.length sc)) [12] (by kernel_rfl) (SK.out _ (Frm.refl _ _).drew) (fun hHeld => ?_)
        refine wpLate_take0 (i := 0) (oi := _) (v := _) rfl (by kernel_rfl) (by kernel_rfl) (by kernel_rfl) (by kernel_rfl) (fun _ _ _ h => h) (Or.inl ⟨by rfl, by intro w _; go_simp; all_goals with_reducible rfl⟩) (fun _ => by assumption) ?_
        (try simp only [Act.put, List.getElem_toArray, List.getElem_cons_zero, List.setIfInBounds_toArray, List.set_cons_zero, List.set_cons_succ])
        refine wpLate_take [10, 11, 12] (i := 1) (oi := _) (v := _) rfl (by kernel_rfl) (by kernel_rfl) (by kernel_rfl) (by kernel_rfl) (by kernel_rfl) (fun _ _ _ h => h) (Or.inl ⟨by rfl, by intro w hSw; (try dsimp only at hSw); go_simp; all_goals with_reducible rfl⟩) (by assumption) ?_
        (try simp only [Act.put, List.getElem_toArray, List.getElem_cons_succ, List.getElem_cons_zero, List.setIfInBounds_toArray, List.set_cons_zero, List.set_cons_succ])
        refine wpLate_take0 (i := 2) (oi := _) (v := _) rfl (by kernel_rfl) (by kernel_rfl) (by kernel_rfl) (by kernel_rfl) (fun _ _ _ h => h) (Or.inl ⟨by rfl, by intro w _; go_simp; all_goals with_reducible rfl⟩) (fun _ => by assumption) ?_
        (try simp only [Act.put, List.getElem_toArray, List.getElem_cons_succ, List.getElem_cons_zero, List.setIfInBounds_toArray, List.set_cons_zero, List.set_cons_succ])
        refine wpLate_take0 (i := 3) (oi := _) (v := _) rfl (by kernel_rfl) (by kernel_rfl) (by kernel_rfl) (by kernel_rfl) (fun _ _ _ h => h) (Or.inl ⟨by rfl, by intro w _; go_simp; all_goals with_reducible rfl⟩) (fun _ => by assumption) ?_
        (try simp only [Act.put, List.getElem_toArray, List.getElem_cons_succ, List.getElem_cons_zero, List.setIfInBounds_toArray, List.set_cons_zero, List.set_cons_succ])
        refine wpLate_take [6, 7, 8, 9, 12] (i := 4) (oi := _) (v := _) rfl (by kernel_rfl) (by kernel_rfl) (by kernel_rfl) (by kernel_rfl) (by kernel_rfl) (fun _ _ _ h => h) (Or.inl ⟨by rfl, by intro w hSw; (try dsimp only at hSw); go_simp; all_goals with_reducible rfl⟩) (by assumption) ?_
        (try simp only [Act.put, List.getElem_toArray, List.getElem_cons_succ, List.getElem_cons_zero, List.setIfInBounds_toArray, List.set_cons_zero, List.set_cons_succ])
        refine wpLate_take0 (i := 5) (oi := _) (v := _) rfl (by kernel_rfl) (by kernel_rfl) (by kernel_rfl) (by kernel_rfl) (fun _ _ _ h => h) (Or.inl ⟨by rfl, by intro w _; go_simp; all_goals with_reducible rfl⟩) (fun _ => by assumption) ?_
        (try simp only [Act.put, List.getElem_toArray, List.getElem_cons_succ, List.getElem_cons_zero, List.setIfInBounds_toArray, List.set_cons_zero, List.set_cons_succ])
        refine wpLate_take0 (i := 6) (oi := _) (v := _) rfl (by kernel_rfl) (by kernel_rfl) (by kernel_rfl) (by kernel_rfl) (fun _ _ _ h => h) (Or.inl ⟨by rfl, by intro w _; go_simp; all_goals with_reducible rfl⟩) (fun _ => by assumption) ?_
        (try simp only [Act.put, List.getElem_toArray, List.getElem_cons_succ, List.getElem_cons_zero, List.setIfInBounds_toArray, List.set_cons_zero, List.set_cons_succ])
        refine wpLate_take0 (i := 7) (oi := _) (v := _) rfl (by kernel_rfl) (by kernel_rfl) (by kernel_rfl) (by kernel_rfl) (fun _ _ _ h => h) (Or.inl ⟨by rfl, by intro w _; go_simp; all_goals with_reducible rfl⟩) (fun _ => by assumption) ?_
        (try simp only [Act.put, List.getElem_toArray, List.getElem_cons_succ, List.getElem_cons_zero, List.setIfInBounds_toArray, List.set_cons_zero, List.set_cons_succ])
        refine wpLate_take [9, 12] (i := 8) (oi := _) (v := _) rfl (by kernel_rfl) (by kernel_rfl) (by kernel_rfl) (by kernel_rfl) (by kernel_rfl) (fun _ _ _ h => h) (Or.inl ⟨by rfl, by intro w hSw; (try dsimp only at hSw); go_simp; all_goals with_reducible rfl⟩) (by assumption) ?_
        (try simp only [Act.put, List.getElem_toArray, List.getElem_cons_succ, List.getElem_cons_zero, List.setIfInBounds_toArray, List.set_cons_zero, List.set_cons_succ])
        refine wpLate_ready (rs := [9]) (by kernel_rfl) (by simp) ?_
        refine (AllReadyL.cons (i := 9) rfl (fun K hK => ?_) AllReadyL.nil)
        simp only [List.getElem_toArray, List.getElem_cons_succ, List.getElem_cons_zero]
        go_simp
        refine HQ.out.mono ?_; rintro e wa ⟨va, rfl, hka, hfa0⟩; obtain ⟨vao, vac, rfl⟩ := ownsRow_shape hka
        refine hK.out _ _ (SK.out _ ((Frm.refl No wr).drew.thenNo hfa0)) (fun hHeld => ?_)
        clear hK K
        (try simp only [Act.put, List.getElem_toArray, List.getElem_cons_succ, List.getElem_cons_zero, List.setIfInBounds_toArray, List.set_cons_zero, List.set_cons_succ])
        have kS := (SK.out _ ((Frm.refl No wr).drew.thenNo hfa0)).2
        have kF := HGF.out _ ((Frm.refl No wr).drew.thenNo hfa0)
        refine wpLate_take0 (i := 10) (oi := _) (v := _) rfl (by kernel_rfl) (by kernel_rfl) (by kernel_rfl) (by kernel_rfl) (fun _ _ _ h => h) (Or.inl ⟨by rfl, by intro w _; go_simp; all_goals with_reducible rfl⟩) (fun _ => by assumption) ?_
        (try simp only [Act.put, List.getElem_toArray, List.getElem_cons_succ, List.getElem_cons_zero, List.setIfInBounds_toArray, List.set_cons_zero, List.set_cons_succ])
        refine wpLate_take0 (i := 11) (oi := _) (v := _) rfl (by kernel_rfl) (by kernel_rfl) (by kernel_rfl) (by kernel_rfl) (fun _ _ _ h => h) (Or.inl ⟨by rfl, by intro w _; go_simp; all_goals with_reducible rfl⟩) (fun _ => by assumption) ?_
        (try simp only [Act.put, List.getElem_toArray, List.getElem_cons_succ, List.getElem_cons_zero, List.setIfInBounds_toArray, List.set_cons_zero, List.set_cons_succ])
        refine wpLate_ready (rs := [12]) (by kernel_rfl) (by simp) ?_
        refine (AllReadyL.late (i := 12) rfl (by kernel_rfl) (fun K hK => ?_) AllReadyL.nil)
        simp only [List.getElem_toArray, List.getElem_cons_succ, List.getElem_cons_zero]
        go_simp
        refine hK.out _ _ ?_
        clear hK K
        (try simp only [Act.put, List.getElem_toArray, List.getElem_cons_succ, List.getElem_cons_zero, List.setIfInBounds_toArray, List.set_cons_zero, List.set_cons_succ])
        refine wpLate_done (by kernel_rfl) ?_ _
        have HZ := HN2.out vao vac _ ((Frm.refl No wr).drew.thenNo hfa0) hka
        go_wp2_with fail
        exact ⟨⟨i + 1, _, by omega, by go_num, HZ⟩, by simp only [intOf]; omega⟩
      · as_aux_lemma =>
        obtain rfl : i = cs.length := by omega
        have BX := HX.out.no hI.frm
        have cX := BX.cell
        have fX := BX.fr
        have hF0 := HY.out.frm.thenNo hI.frm
        have hco := hI.co
        have hmo := hI.mo
        have hfm := hI.frm
        clear hI
        have hn0 : new ++ cs.drop cs.length = new := by rw [List.drop_length, List.append_nil]
        rw [hn0] at hco
        have hbw : b + 1 < W.heap.size := HX.out.lC
        have hbw0 : w.heap.size ≤ b + 1 := by omega
        have HCO := hid hco
        have HMO := hid hmo
        have HFM := hid hfm
        have hWw := HY.out.frm.size
        clear hco hmo hfm hn0
        go_wp2_with fail
        have BX2 := (BX.set 0 (by simp) (.slice mva ml mvc)).set 1 (by simp) (.slice cva cs.length cvc)
        have hF : Frm (One (b + 1)) wr ((wr.setCell ⟨b + 1, 0, none⟩ (.slice mva ml mvc)).setCell ⟨b + 1, 1, none⟩ (.slice cva cs.length cvc)) := (setCell_own _).then_ (setCell_own _)
        have e0 := BX2.cell 0
        have e1 := BX2.cell 1
        simp only [List.set_cons_zero, List.set_cons_succ, List.getElem?_cons_zero, List.getElem?_cons_succ] at e0 e1
        have hno : ∀ {bs : Nat} {e : TypeId} {sz : Nat} {v : Value} {n : Nat} {xs : List Value}, W.heap.size ≤ bs → wr.ownsRow bs e sz v n xs → ((wr.setCell ⟨b + 1, 0, none⟩ (.slice mva ml mvc)).setCell ⟨b + 1, 1, none⟩ (.slice cva cs.length cvc)).ownsRow w.heap.size e sz v n xs := fun hbs ho => ownsRow_base (hF.row ho (fun k hk e => by have e : k = b + 1 := e; have := (ho.lt k hk).1; omega)) (fun k hk => by have := (ho.lt k hk).1; omega)
        generalize (wr.setCell ⟨b + 1, 0, none⟩ (.slice mva ml mvc)).setCell ⟨b + 1, 1, none⟩ (.slice cva cs.length cvc) = wz at *
        refine bodyPost_ret (v := .agg #[.slice mva ml mvc, .slice cva cs.length cvc]) (by simp [results, Tryz.results55, go_sem, e0, e1]) rfl ⟨_, _, new, rfl, ⟨?_, ?_, ?_, ?_, ?_, ?_, ?_, ?_⟩, BX2.frm⟩
        · rw [HI.out.fst, List.take_length, HE.out]
        · rw [HML.out]; exact hno (Nat.le_refl _) HMO.out
        · rw [HI.out.len]; exact hno (Nat.le_refl _) HCO.out
        · exact fun p hp => hno (Nat.le_refl _) (HI.out.so p hp)
        · exact HDj.out
        · exact HI.out.dm
        · exact HI.out.dc
        · exact HI.out.ss
end Go.Proofs.YtofcmghhmklmiaaGreat
