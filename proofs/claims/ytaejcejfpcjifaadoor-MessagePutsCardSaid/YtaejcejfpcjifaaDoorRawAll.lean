/- A block of the call's own: what lies there, and that nothing older has changed. No program is in sight here. A region that draws its order: what an operation reads has to stand only until the late operations (its stores) come up. No program is in sight here. What is known behind an append to an empty row, in whatever order the statement's parts were done. No program is in sight here. A raw message of the message laws, read from an argument; whether it is too large to be played. Whether a raw message is too large to be played. -/
import Derived.Test.YtaejcejfpcjifaaDoorLib
import Derived.Deep.MidRow
import Derived.OrdersHeld
import Derived.Deep.RegionHeld
import Derived.Laws.Tables
import Derived.Test.YtaejcejfpcjifaaDoorAppOwn
import Derived.Test.YtaejcejfpcjifaaDoorOpenG
import Derived.Test.YtaejcejfpcjifaaDoorMsgW2
import Derived.Laws.IdiomArrays
import Derived.Deep.Cut
import Derived.Deep.CutRange
namespace Go.Proofs.YtaejcejfpcjifaaDoor
open Go.RowKit

theorem setCell_own {w : World} {B j : Nat} (x : Value) : Frm (One B) w (w.setCell ⟨B, j, none⟩ x) := (Frm.refl (One B) w).setCell (p := ⟨B, j, none⟩) (fun _ => rfl) x
/-- At block C, made since w0, lie the cells cs; nothing that was there at w0 has changed. -/
structure Box (w0 w : World) (C : Nat) (cs : List Value) : Prop where
  hC : w0.heap.size ≤ C
  lC : C < w.heap.size
  cell : ∀ j, w.cell? ⟨C, j, none⟩ = cs[j]?
  fr : ∀ j, w.frozen? ⟨C, j, none⟩ = false
  frm : Frm No w0 w
theorem Box.new {w0 w : World} (hf : Frm No w0 w) (cs : List Value) (T : TypeId) : Box w0 (w.alloc (.cells cs.toArray T)) w.heap.size cs :=
  ⟨hf.size, by simp, fun j => by rw [World.cell?_alloc_at _ _ _ _ rfl]; simp, fun j => World.frozen?_alloc_at _ _ _ _ rfl, hf.alloc _⟩
theorem Box.no {w0 w w' : World} {C : Nat} {cs : List Value} (h : Box w0 w C cs) (hf : Frm No w w') : Box w0 w' C cs :=
  ⟨h.hC, Nat.lt_of_lt_of_le h.lC hf.size, fun j => (hf.cell (p := ⟨C, j, none⟩) h.lC (fun h => h)).trans (h.cell j), fun j => (hf.frozen (p := ⟨C, j, none⟩) h.lC (fun h => h)).trans (h.fr j), h.frm.thenNo hf⟩
/-- Some other blocks, made since w0, changed. -/
theorem Box.other {w0 w w' : World} {C : Nat} {cs : List Value} {S : Nat → Prop} (h : Box w0 w C cs) (hf : Frm S w w') (hS : ¬ S C) (h0 : ∀ k, S k → w0.heap.size ≤ k) : Box w0 w' C cs :=
  ⟨h.hC, Nat.lt_of_lt_of_le h.lC hf.size, fun j => (hf.cell (p := ⟨C, j, none⟩) h.lC hS).trans (h.cell j), fun j => (hf.frozen (p := ⟨C, j, none⟩) h.lC hS).trans (h.fr j),
    h.frm.trans hf (fun _ _ h => h) (fun i hi hs => by have := h0 i hs; omega)⟩
theorem Box.set {w0 w : World} {C : Nat} {cs : List Value} (h : Box w0 w C cs) (j : Nat) (hj : j < cs.length) (x : Value) : Box w0 (w.setCell ⟨C, j, none⟩ x) C (cs.set j x) := by
  have hS : Frm (One C) w (w.setCell ⟨C, j, none⟩ x) := setCell_own x
  refine ⟨h.hC, Nat.lt_of_lt_of_le h.lC hS.size, fun i => ?_, fun i => ?_, h.frm.trans hS (fun _ _ h => h) (fun i hi e => by have e : i = C := e; have := h.hC; omega)⟩
  · by_cases hij : i = j
    · subst hij
      have hc := h.cell i
      rw [List.getElem?_eq_getElem hj] at hc
      rw [World.cell?_setCell_same' w ⟨C, i, none⟩ x (by rw [hc]; rfl)]
      simp [hj]
    · rw [World.cell?_setCell_other w ⟨C, j, none⟩ ⟨C, i, none⟩ x (by intro e; injection e with _ e; omega), h.cell i, List.getElem?_set]
      rw [if_neg (by omega)]
  · simpa using h.fr i
theorem Box.setOther {w0 w : World} {C D : Nat} {cs : List Value} (h : Box w0 w C cs) (hD : w0.heap.size ≤ D) (hne : C ≠ D) (j : Nat) (x : Value) : Box w0 (w.setCell ⟨D, j, none⟩ x) C cs :=
  h.other (setCell_own x) (fun e => hne e) (fun k hk => by have hk : k = D := hk; omega)
theorem Box.set7 {w0 w : World} {C : Nat} {y0 y1 y2 y3 y4 y5 y6 : Value} (h : Box w0 w C [y0, y1, y2, y3, y4, y5, y6]) (x0 x1 x2 x3 x4 x5 x6 : Value) : Box w0 (((((((w.setCell ⟨C, 0, none⟩ x0).setCell ⟨C, 1, none⟩ x1).setCell ⟨C, 2, none⟩ x2).setCell ⟨C, 3, none⟩ x3).setCell ⟨C, 4, none⟩ x4).setCell ⟨C, 5, none⟩ x5).setCell ⟨C, 6, none⟩ x6) C [x0, x1, x2, x3, x4, x5, x6] :=
  (((((((h.set 0 (by simp) x0).set 1 (by simp) x1).set 2 (by simp) x2).set 3 (by simp) x3).set 4 (by simp) x4).set 5 (by simp) x5).set 6 (by simp) x6)
theorem Box.other7 {w0 w : World} {C D : Nat} {cs : List Value} (h : Box w0 w C cs) (hD : w0.heap.size ≤ D) (hne : C ≠ D) (x0 x1 x2 x3 x4 x5 x6 : Value) : Box w0 (((((((w.setCell ⟨D, 0, none⟩ x0).setCell ⟨D, 1, none⟩ x1).setCell ⟨D, 2, none⟩ x2).setCell ⟨D, 3, none⟩ x3).setCell ⟨D, 4, none⟩ x4).setCell ⟨D, 5, none⟩ x5).setCell ⟨D, 6, none⟩ x6) C cs :=
  (((((((h.setOther hD hne 0 x0).setOther hD hne 1 x1).setOther hD hne 2 x2).setOther hD hne 3 x3).setOther hD hne 4 x4).setOther hD hne 5 x5).setOther hD hne 6 x6)
/-- All its cells at once. -/
theorem Box.there {w0 w : World} {C : Nat} {cs : List Value} (h : Box w0 w C cs) {n : Nat} (hn : n ≤ cs.length) : w.there C 0 n := fun j hj => ⟨by rw [Nat.zero_add, h.cell j, List.getElem?_eq_getElem (by omega)]; rfl, h.fr _⟩
theorem Box.range {w0 w : World} {C : Nat} {cs : List Value} (h : Box w0 w C cs) : w.rangeAt C 0 cs := fun j v hv => by rw [Nat.zero_add, h.cell j, hv]
theorem setCells_own (B : Nat) : ∀ (vs : List Value) (o : Nat) (w : World), Frm (One B) w (w.setCells B o vs)
  | [], _, w => Frm.refl _ w
  | v :: vs, o, w => (Frm.setCell (p := ⟨B, o, none⟩) (Frm.refl (One B) w) (fun _ => rfl) v).then_ (setCells_own B vs (o + 1) _)
theorem Box.setAll {w0 w : World} {C : Nat} {cs : List Value} (h : Box w0 w C cs) (vs : List Value) (hl : vs.length = cs.length) : Box w0 (w.setCells C 0 vs) C vs := by
  have hS := setCells_own C vs 0 w
  refine ⟨h.hC, Nat.lt_of_lt_of_le h.lC hS.size, fun j => ?_, fun j => by rw [World.frozen?_setCells]; exact h.fr j, h.frm.trans hS (fun _ _ h => h) (fun i hi e => by have e : i = C := e; have := h.hC; omega)⟩
  by_cases hj : j < vs.length
  · have := World.rangeAt_setCells_same w C 0 vs (h.there (by omega)) j vs[j] (List.getElem?_eq_getElem hj)
    rw [Nat.zero_add] at this
    rw [this, List.getElem?_eq_getElem hj]
  · rw [World.cell?_setCells_out C vs 0 w ⟨C, j, none⟩ (fun _ _ => .inr (by show 0 + vs.length ≤ j; omega)), h.cell j, List.getElem?_eq_none (by omega), List.getElem?_eq_none (by omega)]
theorem Box.setAllOther {w0 w : World} {C D : Nat} {cs : List Value} (h : Box w0 w C cs) (hD : w0.heap.size ≤ D) (hne : C ≠ D) (vs : List Value) : Box w0 (w.setCells D 0 vs) C cs :=
  h.other (setCells_own D vs 0 w) (fun e => hne e) (fun k hk => by have hk : k = D := hk; omega)

/-! Steps of a region that draws its order. -/
section
variable {P : Program} {ops : Array Oper} {o : Oper} {a : Act} {W : World} {K : Act → World → Prop} {Q : Exit → Act → World → Prop} {E : Prop}
theorem step_store_mid (hg : o.guard = none) (ty : TypeId) (x y : Operand) (ho : o.op = .store ty x y)
    (b q : Nat) (cells : Array Value) (hx : a.eval x = .pointer (some ⟨b, q, none⟩)) (hy : a.eval y = .agg cells)
    (ht : W.there b q cells.size) (hi : (P.info? ty).map (·.size) = some cells.size) (h1 : cells.all (·.oneCell') = true)
    (h : K (a.put o.dst undef) (W.setCells b q cells.toList)) : if Region.wanted o (yielded ops a.tmps) = true then Oper.wp P o a W K Q else E := by
  have hw : Region.wanted o (yielded ops a.tmps) = true := by simp [Region.wanted, hg]
  rw [if_pos hw]
  exact wp_store_mid ty x y ho b q cells hx hy ht hi h1 h
theorem step_store_one (hg : o.guard = none) (ty : TypeId) (x y : Operand) (ho : o.op = .store ty x y)
    (b q : Nat) (v : Value) (hx : a.eval x = .pointer (some ⟨b, q, none⟩)) (hy : a.eval y = v)
    (hr : ∀ w : World, (w.cell? ⟨b, q, none⟩).isSome = true → w.frozen? ⟨b, q, none⟩ = false → (Instr.storeAt ty (.pointer (some ⟨b, q, none⟩)) v).run P w = .ok () (w.setCell ⟨b, q, none⟩ v))
    (hc : (W.cell? ⟨b, q, none⟩).isSome = true) (hf : W.frozen? ⟨b, q, none⟩ = false)
    (h : K (a.put o.dst undef) (W.setCell ⟨b, q, none⟩ v)) : if Region.wanted o (yielded ops a.tmps) = true then Oper.wp P o a W K Q else E := by
  have hw : Region.wanted o (yielded ops a.tmps) = true := by simp [Region.wanted, hg]
  rw [if_pos hw]
  unfold Oper.wp execOp
  simp only [ho, hx, hy, Sem.run_bind, hr W hc hf, Result.andThen_ok, Sem.run_pure]
  exact h
end
end Go.Proofs.YtaejcejfpcjifaaDoor

namespace Go.Proofs.YtaejcejfpcjifaaDoor

section
variable {P : Program} {ops : Array Oper} {Q : Exit → Act → World → Prop} {md : Region.Mode} {S : World → Prop} {D : List Nat}

/-- None of D has come up. -/
def early (D : List Nat) (listed : Array Bool) : Bool := D.all fun d => !listed.getD d true
theorem early_set {listed : Array Bool} {i : Nat} (h : early D (listed.setIfInBounds i true) = true) : early D listed = true ∨ i ∈ D := by
  by_cases hi : i ∈ D
  · exact .inr hi
  · left
    simp only [early, List.all_eq_true, Bool.not_eq_true'] at h ⊢
    intro d hd
    have := h d hd
    rwa [getD_set_ne true (fun e => hi (by rw [e]; exact hd))] at this
theorem early_not {listed : Array Bool} {i : Nat} (hi : i ∈ D) : early D (listed.setIfInBounds i true) = false := by
  cases h : early D (listed.setIfInBounds i true)
  · rfl
  · simp only [early, List.all_eq_true, Bool.not_eq_true'] at h
    have := h i hi
    rcases Nat.lt_or_ge i listed.size with h' | h'
    · simp [Array.getD, h'] at this
    · simp [Array.getD, Nat.not_lt.2 h'] at this
theorem early_keep {listed : Array Bool} {i : Nat} (h : early D listed = true) (hi : i ∉ D) : early D (listed.setIfInBounds i true) = true := by
  simp only [early, List.all_eq_true, Bool.not_eq_true'] at h ⊢
  intro d hd
  rw [getD_set_ne true (fun e => hi (by rw [e]; exact hd))]
  exact h d hd

/-- Whatever order is picked from here on, and S holds behind every operation that is carried out until one of D has come up. -/
def wpLate (P : Program) (md : Region.Mode) (ops : Array Oper) (Q : Exit → Act → World → Prop) (S : World → Prop) (D : List Nat) : Nat → Array Bool → Act → World → Prop
  | 0, listed, a, w => Region.ready md ops listed = [] ∧ Q .normal a w
  | fuel + 1, listed, a, w =>
    (Region.ready md ops listed = [] → Q .normal a w) ∧
    ∀ i ∈ Region.ready md ops listed, wpOp P ops Q i (fun a' w' => (early D (listed.setIfInBounds i true) = true → S w') ∧ wpLate P md ops Q S D fuel (listed.setIfInBounds i true) a' w') a w

theorem wpAny_of_late : ∀ (fuel : Nat) (listed : Array Bool) (a : Act) (w : World), wpLate P md ops Q S D fuel listed a w → wpAny P md ops Q fuel listed a w
  | 0, _, _, _, h => h
  | fuel + 1, _, _, _, h => ⟨h.1, fun i hi => wpOp_mono (fun a' w' h' => wpAny_of_late fuel _ a' w' h'.2) (h.2 i hi)⟩

/-- Each of W waits for i, or for another one of W; none of them has come up. -/
def waits (md : Region.Mode) (ops : Array Oper) (listed : Array Bool) (i : Nat) (W : List Nat) : Bool :=
  !listed.getD i true && W.all fun j => j != i && !listed.getD j true && match ops[j]? with
    | none => false
    | some o => o.after.any fun e => Region.binds md e && (e.on == i || W.contains e.on)
theorem waits_notReady {listed : Array Bool} {i : Nat} {W : List Nat} (h : waits md ops listed i W = true) {j : Nat} (hj : j ∈ W) : j ∉ Region.ready md ops listed := by
  simp only [waits, Bool.and_eq_true, Bool.not_eq_true', List.all_eq_true] at h
  obtain ⟨hi, hW⟩ := h
  intro hr
  obtain ⟨hjun, oj, hoj, hall⟩ := mem_ready.1 hr
  obtain ⟨⟨-, -⟩, hex⟩ := hW j hj
  rw [hoj] at hex
  simp only [Array.any_eq_true, Bool.and_eq_true, Bool.or_eq_true, beq_iff_eq, List.contains_iff_mem] at hex
  obtain ⟨k, hk, hb, he⟩ := hex
  have h1 := hall _ (Array.getElem_mem hk) hb
  have hun : listed.getD (oj.after[k]).on true = false := by
    rcases he with he | he
    · rw [he]; exact hi
    · exact (hW _ he).1.2
  rcases Nat.lt_or_ge (oj.after[k]).on listed.size with h' | h'
  · simp [h'] at h1 hun; rw [hun] at h1; cases h1
  · simp [Array.getElem?_eq_none h'] at hun
theorem waits_set {listed : Array Bool} {i : Nat} {W : List Nat} (h : waits md ops listed i W = true) {j : Nat} (hj : j ∉ W) (hji : j ≠ i) : waits md ops (listed.setIfInBounds j true) i W = true := by
  simp only [waits, Bool.and_eq_true, Bool.not_eq_true', List.all_eq_true] at h ⊢
  obtain ⟨hi, hW⟩ := h
  refine ⟨by rw [getD_set_ne true hji]; exact hi, fun k hk => ?_⟩
  have hkj : j ≠ k := fun e => hj (by rw [e]; exact hk)
  rw [getD_set_ne true hkj]
  exact hW k hk
theorem waits_early {listed : Array Bool} {i : Nat} {W : List Nat} (h : waits md ops listed i W = true) (hDW : ∀ d ∈ D, d ∈ W) : early D listed = true ∧ i ∉ D := by
  simp only [waits, Bool.and_eq_true, Bool.not_eq_true', List.all_eq_true] at h
  refine ⟨?_, fun hi => ?_⟩
  · simp only [early, List.all_eq_true, Bool.not_eq_true']
    exact fun d hd => (h.2 d (hDW d hd)).1.2
  · have := (h.2 i (hDW i hi)).1.1
    simp at this

/-- The step at the heart of both takes: F says what is known of the world as long as i has not come up. -/
theorem wpLate_first {i : Nat} {oi : Oper} {v : Value} {T : World → Prop} {F : Array Bool → Prop} (hi : ops[i]? = some oi) (hsel : ∀ (j : Nat) (o : Oper) cs b, ops[j]? = some o → o.op ≠ .select cs b)
    (hQ : ∀ c a w, Q (.panic c) (a.put oi.dst v) w → Q (.panic c) a w)
    (hF : ∀ (listed : Array Bool) j, F listed → j ∈ Region.ready md ops listed → j ≠ i → F (listed.setIfInBounds j true))
    (hT : ∀ (listed : Array Bool) j w, F listed → j ∈ Region.ready md ops listed → j ≠ i → (early D ((listed.setIfInBounds i true).setIfInBounds j true) = true → S w) → T w)
    (hE : ∀ (listed : Array Bool) j, F listed → j ≠ i → early D (listed.setIfInBounds j true) = true → early D ((listed.setIfInBounds i true).setIfInBounds j true) = true) :
    ∀ (fuel : Nat) (listed : Array Bool) (a : Act) (w : World), F listed →
      (∀ j oj, ops[j]? = some oj → j ≠ i → listed.getD j true = false → (∀ e ∈ oj.after, Region.binds md e = true → e.on ≠ i) → oi.apart ops oj = true) →
      i ∈ Region.ready md ops listed → YieldsIf P ops T oi v a → T w → (early D (listed.setIfInBounds i true) = true → S w) →
      wpLate P md ops Q S D fuel (listed.setIfInBounds i true) (a.put oi.dst v) w → wpLate P md ops Q S D (fuel + 1) listed a w := by
  intro fuel
  induction fuel with
  | zero =>
    intro listed a w _ _ hr hy hTw hS H
    refine ⟨fun h => (by rw [h] at hr; cases hr), fun j hj => ?_⟩
    by_cases hji : j = i
    · subst hji; exact hy.wpOp hi hTw ⟨hS, H⟩
    · have := ready_mono hj hji
      rw [H.1] at this
      cases this
  | succ fuel ih =>
    intro listed a w hFl hfree hr hy hTw hS H
    refine ⟨fun h => (by rw [h] at hr; cases hr), fun j hj => ?_⟩
    by_cases hji : j = i
    · subst hji; exact hy.wpOp hi hTw ⟨hS, H⟩
    · have h1 := H.2 j (ready_mono hj hji)
      obtain ⟨hjun, oj, hoj, hall⟩ := mem_ready.1 hj
      have hnot : ∀ e ∈ oj.after, Region.binds md e = true → e.on ≠ i := fun e he hb heq => by
        have h1 := hall e he hb
        have h0 := (mem_ready.1 hr).1
        rw [heq] at h1
        rcases Nat.lt_or_ge i listed.size with h' | h'
        · simp [h'] at h0 h1; rw [h0] at h1; cases h1
        · simp [Array.getElem?_eq_none h'] at h1
      have h2 := wpOp_putIf hoj (hfree j oj hoj hji hjun hnot) (fun cs b => hsel i oi cs b hi) (fun cs b => hsel j oj cs b hoj) hQ hy h1
      have hfree' : ∀ k ok, ops[k]? = some ok → k ≠ i → (listed.setIfInBounds j true).getD k true = false →
          (∀ e ∈ ok.after, Region.binds md e = true → e.on ≠ i) → oi.apart ops ok = true := fun k ok hk hki hun hno => by
        refine hfree k ok hk hki ?_ hno
        by_cases hjk : j = k
        · subst hjk; exact hjun
        · rw [getD_set_ne true hjk] at hun; exact hun
      refine wpOp_mono (fun a' w' h3 => ⟨fun he => h3.2.1 (hE listed j hFl hji he), ih (listed.setIfInBounds j true) a' w' (hF listed j hFl hj hji) hfree' (ready_mono hr (Ne.symm hji)) h3.1 (hT listed j w' hFl hj hji h3.2.1) ?_ ?_⟩) h2
      · intro he
        rw [Array.setIfInBounds_comm _ _ hji] at he
        exact h3.2.1 he
      · rw [Array.setIfInBounds_comm _ _ hji]
        exact h3.2.2

/-- Take number i first: it yields v in every world that meets S, and the late ones wait for it. -/
theorem wpLate_take {i : Nat} {oi : Oper} {v : Value} (W : List Nat) {fuel : Nat} {listed : Array Bool} {a : Act} {w : World} (hi : ops[i]? = some oi)
    (hs : Region.noSelect ops = true) (hf : Region.free md ops listed i = true) (hr : (Region.ready md ops listed).contains i = true) (hDW : D.all (W.contains ·) = true) (hwt : waits md ops listed i W = true)
    (hQ : ∀ c a w, Q (.panic c) (a.put oi.dst v) w → Q (.panic c) a w) (hy : YieldsIf P ops S oi v a) (hS : S w)
    (h : wpLate P md ops Q S D fuel (listed.setIfInBounds i true) (a.put oi.dst v) w) : wpLate P md ops Q S D (fuel + 1) listed a w := by
  have hDW' : ∀ d ∈ D, d ∈ W := by simpa using hDW
  refine wpLate_first (T := S) (F := fun listed => waits md ops listed i W = true) hi (Region.noSelect_spec hs) hQ ?_ ?_ ?_ fuel listed a w hwt (Region.free_spec hi hf) (by simpa using hr) hy hS (fun _ => hS) h
  · intro l j hl hj hji
    exact waits_set hl (fun h => waits_notReady hl h hj) hji
  · intro l j w' hl hj hji hS'
    obtain ⟨he, hiD⟩ := waits_early hl hDW'
    exact hS' (early_keep (early_keep he hiD) (fun h => waits_notReady hl (hDW' j h) hj))
  · intro l j hl hji he
    obtain ⟨-, hiD⟩ := waits_early hl hDW'
    rw [Array.setIfInBounds_comm _ _ (Ne.symm hji)]
    exact early_keep he hiD

/-- Take number i first: it yields v in whatever world. -/
theorem wpLate_take0 {i : Nat} {oi : Oper} {v : Value} {fuel : Nat} {listed : Array Bool} {a : Act} {w : World} (hi : ops[i]? = some oi)
    (hs : Region.noSelect ops = true) (hf : Region.free md ops listed i = true) (hr : (Region.ready md ops listed).contains i = true) (hiD : D.contains i = false)
    (hQ : ∀ c a w, Q (.panic c) (a.put oi.dst v) w → Q (.panic c) a w) (hy : YieldsIf P ops (fun _ => True) oi v a) (hS : early D listed = true → S w)
    (h : wpLate P md ops Q S D fuel (listed.setIfInBounds i true) (a.put oi.dst v) w) : wpLate P md ops Q S D (fuel + 1) listed a w := by
  have hiD' : i ∉ D := by simpa using hiD
  refine wpLate_first (T := fun _ => True) (F := fun _ => True) hi (Region.noSelect_spec hs) hQ (fun _ _ _ _ _ => trivial) (fun _ _ _ _ _ _ _ => trivial) ?_ fuel listed a w trivial (Region.free_spec hi hf) (by simpa using hr) hy trivial (fun he => ?_) h
  · intro l j _ hji he
    rw [Array.setIfInBounds_comm _ _ (Ne.symm hji)]
    exact early_keep he hiD'
  · rcases early_set he with h | h
    · exact hS h
    · exact absurd h hiD'

/-- A struct or an array of many parts, built: its cells as the kernel reckons them. -/
theorem yields_build {T : World → Prop} {op : Oper} {a : Act} (hw : Region.wanted op (yielded ops a.tmps) = true) (t : TypeId) (parts : Array (Nat × Operand)) (ho : op.op = .build t parts) (cells : Array Value) (vals : List (Nat × Value))
    (hv : parts.toList.map (fun q => (q.1, a.eval q.2)) = vals) (hc : P.built t vals = some cells) : YieldsIf P ops T op (.agg cells) a :=
  .inl ⟨hw, fun w _ => by
    have hc' : P.built t (parts.map fun (i, x) => (i, a.eval x)).toList = some cells := by rw [Array.toList_map, hv]; exact hc
    unfold execOp
    simp only [ho, Sem.run_bind, run_build w t _ cells hc', Result.andThen_ok, Sem.run_pure]⟩

theorem wpLate_done {listed : Array Bool} {a : Act} {w : World} (hr : Region.ready md ops listed = []) (h : Q .normal a w) :
    ∀ fuel, wpLate P md ops Q S D fuel listed a w
  | 0 => ⟨hr, h⟩
  | _ + 1 => ⟨fun _ => h, by rw [hr]; simp⟩

/-- Each of the operations rs comes up next. -/
def AllReadyL (P : Program) (md : Region.Mode) (ops : Array Oper) (Q : Exit → Act → World → Prop) (S : World → Prop) (D : List Nat) (fuel : Nat) (listed : Array Bool) (a : Act) (w : World) (rs : List Nat) : Prop :=
  ∀ i ∈ rs, wpOp P ops Q i (fun a' w' => (early D (listed.setIfInBounds i true) = true → S w') ∧ wpLate P md ops Q S D fuel (listed.setIfInBounds i true) a' w') a w
theorem AllReadyL.nil {fuel : Nat} {listed : Array Bool} {a : Act} {w : World} : AllReadyL P md ops Q S D fuel listed a w [] := fun _ h => by cases h
/-- One that is not late: behind it S is shown anew. -/
theorem AllReadyL.cons {fuel : Nat} {listed : Array Bool} {a : Act} {w : World} {i : Nat} {o : Oper} {rs : List Nat} (ho : ops[i]? = some o)
    (h : ∀ K' : Act → World → Prop, Shut (∀ a w, S w → (S w → wpLate P md ops Q S D fuel (listed.setIfInBounds i true) a w) → K' a w) → if Region.wanted o (yielded ops a.tmps) = true then Oper.wp P o a w K' Q else K' (a.put o.dst undef) w)
    (hs : AllReadyL P md ops Q S D fuel listed a w rs) : AllReadyL P md ops Q S D fuel listed a w (i :: rs) := fun j hj => by
  rcases List.mem_cons.1 hj with rfl | hj
  · exact wpOp_step ho (fun K' hK => h K' (fun a w hS hW => hK a w ⟨fun _ => hS, hW hS⟩))
  · exact hs j hj
/-- A late one, or one that comes behind a late one. -/
theorem AllReadyL.late {fuel : Nat} {listed : Array Bool} {a : Act} {w : World} {i : Nat} {o : Oper} {rs : List Nat} (ho : ops[i]? = some o) (hD : early D (listed.setIfInBounds i true) = false)
    (h : ∀ K' : Act → World → Prop, Shut (∀ a w, wpLate P md ops Q S D fuel (listed.setIfInBounds i true) a w → K' a w) → if Region.wanted o (yielded ops a.tmps) = true then Oper.wp P o a w K' Q else K' (a.put o.dst undef) w)
    (hs : AllReadyL P md ops Q S D fuel listed a w rs) : AllReadyL P md ops Q S D fuel listed a w (i :: rs) := fun j hj => by
  rcases List.mem_cons.1 hj with rfl | hj
  · exact wpOp_step ho (fun K' hK => h K' (fun a w hW => hK a w ⟨fun hn => (by rw [hD] at hn; cases hn), hW⟩))
  · exact hs j hj
theorem wpLate_ready {rs : List Nat} {fuel : Nat} {listed : Array Bool} {a : Act} {w : World} (hr : Region.ready md ops listed = rs) (hne : rs ≠ [])
    (h : AllReadyL P md ops Q S D fuel listed a w rs) : wpLate P md ops Q S D (fuel + 1) listed a w :=
  ⟨fun h0 => absurd (hr ▸ h0) hne, hr ▸ h⟩

theorem wp_region_late {id : Nat} {a : Act} {w : World} (S : World → Prop) (D : List Nat) (hm : P.follows .mixedOrders = true) (hS : S w.drew)
    (h : S w.drew → wpLate P .any ops Q S D ops.size (Array.replicate ops.size false) a w.drew) : (Code.region id ops true).wp P Q a w :=
  wp_region_any hm (wpAny_of_late _ _ _ _ (h hS))
/-- The same at the list of a plain region's operations. -/
theorem wpList_built {os : Array Oper} {rest : List Oper} {o : Oper} {a : Act} {w : World} (hg : o.guard = none) (t : TypeId) (parts : Array (Nat × Operand)) (ho : o.op = .build t parts) (cells : Array Value) (vals : List (Nat × Value))
    (hv : parts.toList.map (fun q => (q.1, a.eval q.2)) = vals) (hc : P.built t vals = some cells) (h : wpList P os Q rest (a.put o.dst (.agg cells)) w) : wpList P os Q (o :: rest) a w := by
  have hc' : P.built t (parts.map fun (i, x) => (i, a.eval x)).toList = some cells := by rw [Array.toList_map, hv]; exact hc
  exact wpList_build hg t parts ho (by rw [hc']; rfl) (by rw [hc']; exact h)
end
end Go.Proofs.YtaejcejfpcjifaaDoor

namespace Go.Proofs.YtaejcejfpcjifaaDoor
open Go.RowKit

theorem own_a {w w4 : World} {T : TypeId} {n c : Nat} (hf : Frm (Own (.slice (some ⟨w.heap.size, 0, none⟩) n c)) (w.alloc (.cells #[] T)).drew w4) : Frm No w w4 :=
  ((Frm.refl No w).alloc _).drew.trans hf (fun _ _ h => h) (fun i hi e => by
    simp only [Own, Value.ownBlock, Option.some.injEq] at e
    omega)
theorem own_b {w w4 : World} {T U : TypeId} {cs : Array Value} {n c : Nat} (hf : Frm (Own (.slice (some ⟨w.heap.size, 0, none⟩) n c)) ((w.alloc (.cells #[] T)).alloc (.cells cs U)).drew w4) {v4 : Value} (hv : v4.ownBlock = (Value.slice (some ⟨w.heap.size, 0, none⟩) n c).ownBlock ∨ ∃ k, v4.ownBlock = some k ∧ ((w.alloc (.cells #[] T)).alloc (.cells cs U)).drew.heap.size ≤ k) :
    Frm No w w4 ∧ (∀ j, w4.cell? ⟨w.heap.size + 1, j, none⟩ = cs[j]?) ∧ (∀ j, w4.frozen? ⟨w.heap.size + 1, j, none⟩ = false) ∧ ∀ k, v4.ownBlock = some k → k ≠ w.heap.size + 1 := by
  have hn : ¬ Own (.slice (some ⟨w.heap.size, 0, none⟩) n c) (w.heap.size + 1) := fun e => by
    simp only [Own, Value.ownBlock, Option.some.injEq] at e
    omega
  refine ⟨(((Frm.refl No w).alloc _).alloc _).drew.trans hf (fun _ _ h => h) (fun i hi e => by
    simp only [Own, Value.ownBlock, Option.some.injEq] at e
    omega), fun j => ?_, fun j => ?_, fun k hk e => ?_⟩
  · rw [hf.cell (p := ⟨w.heap.size + 1, j, none⟩) (by simp) hn]
    exact World.cell?_alloc_at _ _ _ _ (by simp)
  · rw [hf.frozen (p := ⟨w.heap.size + 1, j, none⟩) (by simp) hn]
    exact World.frozen?_alloc_at _ _ _ _ (by simp)
  · rcases hv with h | ⟨k', h, h'⟩
    · rw [h] at hk
      simp only [Value.ownBlock, Option.some.injEq] at hk
      omega
    · rw [h] at hk
      simp only [Option.some.injEq] at hk
      simp at h'
      omega
theorem own_c {w w4 : World} {T U : TypeId} {cs : Array Value} {n c : Nat} (hf : Frm (Own (.slice (some ⟨w.heap.size + 1, 0, none⟩) n c)) ((w.alloc (.cells cs U)).alloc (.cells #[] T)).drew w4) {v4 : Value} (hv : v4.ownBlock = (Value.slice (some ⟨w.heap.size + 1, 0, none⟩) n c).ownBlock ∨ ∃ k, v4.ownBlock = some k ∧ ((w.alloc (.cells cs U)).alloc (.cells #[] T)).drew.heap.size ≤ k) :
    Frm No w w4 ∧ (∀ j, w4.cell? ⟨w.heap.size, j, none⟩ = cs[j]?) ∧ (∀ j, w4.frozen? ⟨w.heap.size, j, none⟩ = false) ∧ ∀ k, v4.ownBlock = some k → k ≠ w.heap.size := by
  have hn : ¬ Own (.slice (some ⟨w.heap.size + 1, 0, none⟩) n c) w.heap.size := fun e => by
    simp only [Own, Value.ownBlock, Option.some.injEq] at e
    omega
  refine ⟨(((Frm.refl No w).alloc _).alloc _).drew.trans hf (fun _ _ h => h) (fun i hi e => by
    simp only [Own, Value.ownBlock, Option.some.injEq] at e
    omega), fun j => ?_, fun j => ?_, fun k hk e => ?_⟩
  · rw [hf.cell (p := ⟨w.heap.size, j, none⟩) (by simp; omega) hn]
    exact (((Frm.refl No _).alloc _).cell (p := ⟨w.heap.size, j, none⟩) (by simp) (fun h => h)).trans (World.cell?_alloc_at _ _ _ _ rfl)
  · rw [hf.frozen (p := ⟨w.heap.size, j, none⟩) (by simp; omega) hn]
    exact (((Frm.refl No _).alloc _).frozen (p := ⟨w.heap.size, j, none⟩) (by simp) (fun h => h)).trans (World.frozen?_alloc_at _ _ _ _ rfl)
  · rcases hv with h | ⟨k', h, h'⟩
    · rw [h] at hk
      simp only [Value.ownBlock, Option.some.injEq] at hk
      omega
    · rw [h] at hk
      simp only [Option.some.injEq] at hk
      simp at h'
      omega
theorem own_empty_c {w : World} {base : Nat} {size : Nat} {o : Obj} (T : TypeId) (hb : base ≤ w.heap.size) : ((w.alloc o).alloc (.cells #[] T)).ownsRow base T size (.slice (some ⟨w.heap.size + 1, 0, none⟩) 0 0) 0 [] := by
  have := own_empty (w := w.alloc o) (base := base) (size := size) T (by simp; omega)
  simpa using this

end Go.Proofs.YtaejcejfpcjifaaDoor

namespace Go.Proofs.YtaejcejfpcjifaaDoor
open Go.ChangeShapes Go.WideShapes Go.ChangeAt Go.RowKit Go.Deep
open Msg

section
variable {H : Type} {enc : TypeId × Value → H} {P : Program} {W : World}
/-- A field of a struct, of so many cells. -/
theorem trod_fldw {t : TypeId} {fs : Array Field} {fuel : Nat} {cs : List Value} {x : DataW H × List MemPlace} (hs : P.underlying t = some (.struct fs))
    (h : DataW.trod enc P W 0 (fun _ => true) true fuel t cs = some x) (j : Nat) (T : TypeId) (o c : Nat) (hj : (fs[j]?).map (fun f => (f.type, f.offset, P.cellsOf f.type)) = some (T, o, c)) :
    ∃ n y, DataW.trod enc P W 0 (fun _ => true) true n T ((cs.drop o).take c) = some y := by
  obtain ⟨ys, n, -, -, hcl, hyl, hf⟩ := DataW.trod_struct hs h
  cases hg : fs[j]? with
  | none => rw [hg] at hj; cases hj
  | some f =>
    rw [hg] at hj
    simp only [Option.map_some, Option.some.injEq, Prod.mk.injEq] at hj
    obtain ⟨rfl, rfl, rfl⟩ := hj
    have h1 := hf j f hg
    have hjl : j < fs.size := (Array.getElem?_eq_some_iff.1 hg).1
    rw [List.getElem?_eq_getElem (by omega)] at h1
    exact ⟨n, _, h1⟩
end
/-- A raw message's cells. -/
def rawC (m : Ms) (kv ev : Value) : Array Value := #[.int .i64 m.kind, .int .i64 m.from_, .int .i64 m.born, .int .i64 m.view, .int .i64 m.last, .int .i64 m.op, .int .i64 m.commit, .int .i64 m.client, .int .i64 m.number, .int .i64 m.nonce, .int .i64 m.base, kv, .string ⟨m.text.toArray⟩, .bool m.full, .string ⟨m.state.toArray⟩, ev]
def rawV (m : Ms) (kv ev : Value) : Value := .agg (rawC m kv ev)
structure RawK (w : World) (m : Ms) (kv ev : Value) : Prop where
  rd : MsR w m kv ev
  text : m.text.length ≤ maxLen
  state : m.state.length ≤ maxLen
  known : m.known.length ≤ maxLen
  ents : m.entries.length ≤ maxLen
  texts : ∀ x ∈ m.entries, x.text.length ≤ maxLen
/-- Whether it is too large. -/
structure Lil (m : Ms) : Prop where
  text : m.text.length ≤ 9000
  state : m.state.length ≤ 3000
  known : m.known.length ≤ 20
  ents : m.entries.length ≤ 80
  texts : ∀ x ∈ m.entries, x.text.length ≤ 9000

theorem len16r {α : Type} {l : List α} (h : l.length = 16) : ∃ a0 a1 a2 a3 a4 a5 a6 a7 a8 a9 a10 a11 a12 a13 a14 a15, l = [a0, a1, a2, a3, a4, a5, a6, a7, a8, a9, a10, a11, a12, a13, a14, a15] := by
  match l, h with
  | [a0, a1, a2, a3, a4, a5, a6, a7, a8, a9, a10, a11, a12, a13, a14, a15], _ => exact ⟨a0, a1, a2, a3, a4, a5, a6, a7, a8, a9, a10, a11, a12, a13, a14, a15, rfl⟩
theorem len10' {α : Type} {l : List α} (h : l.length = 10) : ∃ a b c d e f g i j k, l = [a, b, c, d, e, f, g, i, j, k] := by
  match l, h with
  | [a, b, c, d, e, f, g, i, j, k], _ => exact ⟨a, b, c, d, e, f, g, i, j, k, rfl⟩
theorem el_ints10 {H : Type} {enc : TypeId × Value → H} {W : World} {cs : List Value} {n : Nat} {x : DataW H × List MemPlace} (hl : cs.length = 10) (h : DataW.trod enc Tryd.prog W 0 (fun _ => true) true n 22 cs = some x) :
    ∃ a0 a1 a2 a3 a4 a5 a6 a7 a8 a9 : Int, cs = [.int .i64 a0, .int .i64 a1, .int .i64 a2, .int .i64 a3, .int .i64 a4, .int .i64 a5, .int .i64 a6, .int .i64 a7, .int .i64 a8, .int .i64 a9] := by
  obtain ⟨xs, m, -, -, -, hxl, hx⟩ := DataW.trod_array Tryd.underlying22 h
  have key : ∀ i (hi : i < 10), ∃ a : Int, cs[i]? = some (.int .i64 a) := fun i hi => by
    have h1 := hx i hi
    rw [cells_int, Nat.mul_one, List.getElem?_eq_getElem (by omega)] at h1
    have h2 : (cs.drop i).take 1 = [cs[i]'(by omega)] := by rw [List.drop_eq_getElem_cons (by omega)]; rfl
    rw [h2] at h1
    obtain ⟨a, ha, -⟩ := el_int h1
    simp only [List.cons.injEq, and_true] at ha
    exact ⟨a, by rw [List.getElem?_eq_getElem (by omega), ha]⟩
  obtain ⟨c0, c1, c2, c3, c4, c5, c6, c7, c8, c9, rfl⟩ := len10' hl
  obtain ⟨a0, h0⟩ := key 0 (by omega)
  obtain ⟨a1, h1⟩ := key 1 (by omega)
  obtain ⟨a2, h2⟩ := key 2 (by omega)
  obtain ⟨a3, h3⟩ := key 3 (by omega)
  obtain ⟨a4, h4⟩ := key 4 (by omega)
  obtain ⟨a5, h5⟩ := key 5 (by omega)
  obtain ⟨a6, h6⟩ := key 6 (by omega)
  obtain ⟨a7, h7⟩ := key 7 (by omega)
  obtain ⟨a8, h8⟩ := key 8 (by omega)
  obtain ⟨a9, h9⟩ := key 9 (by omega)
  simp only [List.getElem?_cons_zero, List.getElem?_cons_succ, Option.some.injEq] at h0 h1 h2 h3 h4 h5 h6 h7 h8 h9
  subst h0 h1 h2 h3 h4 h5 h6 h7 h8 h9
  exact ⟨_, _, _, _, _, _, _, _, _, _, rfl⟩
theorem cells_rawent : Tryd.prog.cellsOf 48 = 3 := by kernel_rfl
theorem el_rawent {H : Type} {enc : TypeId × Value → H} {W : World} {cs : List Value} {n : Nat} {x : DataW H × List MemPlace} (hl : cs.length = 3) (h : DataW.trod enc Tryd.prog W 0 (fun _ => true) true n 48 cs = some x) :
    ∃ y : Ent, cs = entV y ∧ y.text.length ≤ maxLen := by
  obtain ⟨c0, c1, c2, rfl⟩ := len3 hl
  have F := fun j T o c hj => trod_fldw Tryd.underlying48 h j T o c hj
  obtain ⟨n0, y0, h0⟩ := F 0 3 0 1 (by kernel_rfl)
  obtain ⟨n1, y1, h1⟩ := F 1 3 1 1 (by kernel_rfl)
  obtain ⟨n2, y2, h2⟩ := F 2 9 2 1 (by kernel_rfl)
  obtain ⟨a, e0, -⟩ := el_int h0
  obtain ⟨b, e1, -⟩ := el_int h1
  obtain ⟨s, e2, g2⟩ := el_string h2
  simp only [List.drop_zero, List.drop_succ_cons, List.take_succ_cons, List.take_zero, List.cons.injEq, and_true] at e0 e1 e2
  subst e0 e1 e2
  exact ⟨⟨a, b, s⟩, rfl, g2⟩
theorem el_bool {H : Type} {enc : TypeId × Value → H} {W : World} {cs : List Value} {n : Nat} {x : DataW H × List MemPlace} (h : DataW.trod enc Tryd.prog W 0 (fun _ => true) true n 4 cs = some x) :
    ∃ y : Bool, cs = [.bool y] := by
  obtain ⟨a, rfl, -⟩ := DataW.trod_bool Tryd.underlying4 h
  exact ⟨a, rfl⟩
theorem cells_rawm : Tryd.prog.cellsOf 26 = 16 := by kernel_rfl
theorem el_rawm {H : Type} {enc : TypeId × Value → H} {W : World} {cs : List Value} {n : Nat} {x : DataW H × List MemPlace} (hl : cs.length = 16) (h : DataW.trod enc Tryd.prog W 0 (fun _ => true) true n 26 cs = some x) :
    ∃ (m : Ms) (kv ev : Value), cs = (rawC m kv ev).toList ∧ RawK W m kv ev := by
  obtain ⟨c0, c1, c2, c3, c4, c5, c6, c7, c8, c9, c10, c11, c12, c13, c14, c15, rfl⟩ := len16r hl
  have F := fun j T o c hj => trod_fldw Tryd.underlying26 h j T o c hj
  obtain ⟨n0, y0, h0⟩ := F 0 3 0 1 (by kernel_rfl)
  obtain ⟨n1, y1, h1⟩ := F 1 22 1 10 (by kernel_rfl)
  obtain ⟨n2, y2, h2⟩ := F 2 23 11 1 (by kernel_rfl)
  obtain ⟨n3, y3, h3⟩ := F 3 9 12 1 (by kernel_rfl)
  obtain ⟨n4, y4, h4⟩ := F 4 4 13 1 (by kernel_rfl)
  obtain ⟨n5, y5, h5⟩ := F 5 9 14 1 (by kernel_rfl)
  obtain ⟨n6, y6, h6⟩ := F 6 24 15 1 (by kernel_rfl)
  obtain ⟨k, e0, -⟩ := el_int h0
  obtain ⟨a0, a1, a2, a3, a4, a5, a6, a7, a8, a9, e1⟩ := el_ints10 (by simp) h1
  obtain ⟨zs, rz, hz, gz⟩ := open_cell_list (f := Value.int .i64) Tryd.underlying23 cells_int (show DataW.trod enc Tryd.prog W 0 (fun _ => true) true n2 23 [c11] = some y2 from h2) (fun _ _ _ _ h => el_int h)
  obtain ⟨s, e3, g3⟩ := el_string h3
  obtain ⟨f, e4⟩ := el_bool h4
  obtain ⟨u, e5, g5⟩ := el_string h5
  have hv : ∃ a l cp, c15 = .slice a l cp := by
    rcases open_slice Tryd.underlying24 (show DataW.trod enc Tryd.prog W 0 (fun _ => true) true n6 24 [c15] = some y6 from h6) with ⟨hcs, -⟩ | ⟨a, len, cap, m, n, D, Pl, hcs, -⟩
    · simp at hcs; exact ⟨_, _, _, hcs⟩
    · simp at hcs; exact ⟨_, _, _, hcs⟩
  obtain ⟨es, re, he, ge⟩ := open_list (cells := entV) (good := fun y : Ent => y.text.length ≤ maxLen) Tryd.underlying24 cells_rawent (by omega) (v := c15) (d := y6.1) (ps := y6.2) ⟨n6, by obtain ⟨a, l, cp, rfl⟩ := hv; exact h6⟩ hv (fun _ _ _ hl h => el_rawent hl h)
  simp only [List.drop_zero, List.drop_succ_cons, List.take_succ_cons, List.take_zero, List.cons.injEq, and_true] at e0 e1 e3 e4 e5
  obtain ⟨q0, q1, q2, q3, q4, q5, q6, q7, q8, q9⟩ := e1
  subst e0 e3 e4 e5 q0 q1 q2 q3 q4 q5 q6 q7 q8 q9
  exact ⟨⟨k, a0, a1, zs, a2, a3, a4, a5, a6, a7, a8, s, f, a9, u, es⟩, c11, c15, rfl, ⟨⟨rz, re⟩, g3, g5, hz, he, ge⟩⟩
set_option maxRecDepth 100000 in
theorem open_rawm {H : Type} {enc : TypeId × Value → H} {W : World} {v : Value} {d : DataW H} {ps : List MemPlace} (h : DataW.Trod enc Tryd.prog W 0 (fun _ => true) true 26 v d ps) {r : Reach} {b0 : Nat} (hv : Value.okWide Tryd.prog W r b0 26 v) :
    ∃ y : Ms × Value × Value, v = rawV y.1 y.2.1 y.2.2 ∧ RawK W y.1 y.2.1 y.2.2 := by
  obtain ⟨cs, rfl, hsz⟩ := okWide_struct Tryd.underlying26 hv
  obtain ⟨fuel, hf⟩ := h
  obtain ⟨m, kv, ev, hy, ho⟩ := el_rawm (cs := cs.toList) (by rw [Array.length_toList, hsz]; exact cells_rawm) hf
  exact ⟨(m, kv, ev), by rw [rawV, ← Array.toArray_toList (xs := cs), hy], ho⟩
end Go.Proofs.YtaejcejfpcjifaaDoor

namespace Go.Proofs.YtaejcejfpcjifaaDoor
open Go.RowKit
open Msg

set_option maxRecDepth 100000 in
set_option maxHeartbeats 4000000 in
theorem large_any (m : Ms) (kv ev : Value) (w : World) (h : RawK w m kv ev) :
    Calls Tryd.prog 5 #[rawV m kv ev] w fun e w' => ∃ b : Bool, e = .returned (.bool b) ∧ (b = false → Lil m) ∧ Frm No w w' := by
  have l1 := h.text
  have l2 := h.state
  have l3 := h.known
  have l4 := h.ents
  have l5 := h.texts
  have her := h.rd.er
  obtain ⟨kao, kcp, rfl⟩ := h.rd.kr.shape
  obtain ⟨eao, ecp, rfl⟩ := h.rd.er.shape
  unfold maxLen at *
  have HV : Hid (rawV m (.slice kao m.known.length kcp) (.slice eao m.entries.length ecp) = .agg #[.int .i64 m.kind, .int .i64 m.from_, .int .i64 m.born, .int .i64 m.view, .int .i64 m.last, .int .i64 m.op, .int .i64 m.commit, .int .i64 m.client, .int .i64 m.number, .int .i64 m.nonce, .int .i64 m.base, .slice kao m.known.length kcp, .string ⟨m.text.toArray⟩, .bool m.full, .string ⟨m.state.toArray⟩, .slice eao m.entries.length ecp]) := hid rfl
  rw [HV.out]
  clear h
  go_enter Tryd.func5, Tryd.ntmps5
  go_upto_region 1 with fail
  go_cut [0, 25] from 4 to 24 (fun _ t wq => (∃ b : Bool, t = .bool b ∧ (b = false → m.text.length ≤ 9000 ∧ m.state.length ≤ 3000 ∧ m.known.length ≤ 20 ∧ m.entries.length ≤ 80)) ∧ wq = w.alloc (.cells #[.int .i64 m.kind, .int .i64 m.from_, .int .i64 m.born, .int .i64 m.view, .int .i64 m.last, .int .i64 m.op, .int .i64 m.commit, .int .i64 m.client, .int .i64 m.number, .int .i64 m.nonce, .int .i64 m.base, .slice kao m.known.length kcp, .string ⟨m.text.toArray⟩, .bool m.full, .string ⟨m.state.toArray⟩, .slice eao m.entries.length ecp] 26))
  case first =>
    as_aux_lemma =>
    clear her l5
    go_wp2_with fail
    all_goals
      go_meet
      exact ⟨⟨_, rfl, by intro h; simp at h; try omega⟩, rfl⟩
  case rest =>
    as_aux_lemma =>
    obtain ⟨⟨b, rfl, hb⟩, rfl⟩ := hcut
    cases b
    · obtain ⟨b1, b2, b3, b4⟩ := hb rfl
      clear hb
      go_wp2_with fail
      go_loopw [3] (fun i wr => ∃ k : Nat, k ≤ m.entries.length ∧ i = .int .i64 (k : Int) ∧ (∀ x ∈ m.entries.take k, x.text.length ≤ 9000) ∧ wr = w.alloc (.cells #[.int .i64 m.kind, .int .i64 m.from_, .int .i64 m.born, .int .i64 m.view, .int .i64 m.last, .int .i64 m.op, .int .i64 m.commit, .int .i64 m.client, .int .i64 m.number, .int .i64 m.nonce, .int .i64 m.base, .slice kao m.known.length kcp, .string ⟨m.text.toArray⟩, .bool m.full, .string ⟨m.state.toArray⟩, .slice eao m.entries.length ecp] 26))
        (fun i _ => m.entries.length - (intOf i).toNat)
      case atStart => exact ⟨0, by omega, rfl, by simp, rfl⟩
      case round =>
        obtain ⟨k, hk, rfl, hall, rfl⟩ := hrel
        by_cases hkl : k < m.entries.length
        · obtain ⟨b', o', rfl, hcc⟩ := her.at_ (by omega)
          obtain ⟨x, hx⟩ : ∃ x, m.entries[k] = x := ⟨_, rfl⟩
          have hc2 := hcc k hkl 2 (by omega)
          rw [hx] at hc2
          have hxt := l5 x (by rw [← hx]; exact List.getElem_mem hkl)
          have hcell : ∀ o, (w.alloc o).cell? ⟨b', o' + k * 3 + 2, none⟩ = some (.string ⟨x.text.toArray⟩) := fun o => by
            have e : w.cell? ⟨b', o' + k * 3 + 2, none⟩ = some (.string ⟨x.text.toArray⟩) := by rw [Nat.add_assoc]; exact hc2
            exact (((Frm.refl No w).alloc o).cell (World.block_lt_of_cell? w _ e) (fun h => h)).trans e
          have hkz : (k : Int) < (m.entries.length : Int) := by omega
          have HN := hid (fun (h9 : x.text.length ≤ 9000) y (hy : y ∈ m.entries.take (k + 1)) => by
            rw [List.take_succ_eq_append_getElem hkl, List.mem_append] at hy
            rcases hy with hy | hy
            · exact hall y hy
            · simp only [List.mem_singleton] at hy
              rw [hy, hx]
              exact h9)
          clear hcc hc2 hall hx l5 her
          go_wp2_with fail
          all_goals first
            | (go_ret; exact ⟨true, rfl, fun h => (by cases h), (Frm.refl No w).alloc _⟩)
            | exact ⟨⟨k + 1, by omega, by go_num, HN.out (by omega), trivial⟩, by simp only [intOf]; omega⟩
            | (go_ret; exact Or.inr ⟨rfl, (Frm.refl No w).alloc _⟩)
        · obtain rfl : k = m.entries.length := by omega
          rw [List.take_length] at hall
          clear her l5
          go_wp2_with fail
          go_ret
          exact ⟨false, rfl, fun _ => ⟨b1, b2, b3, b4, hall⟩, (Frm.refl No w).alloc _⟩
    · clear her l5
      go_wp2_with fail
      go_ret
      exact ⟨true, rfl, fun h => (by cases h), (Frm.refl No w).alloc _⟩
end Go.Proofs.YtaejcejfpcjifaaDoor
