/- The walks of the network's Send, Take, Double. -/
import Derived.Test.YthbacebkidggdaaNet2
import Derived.Test.YthbacebkidggdaaAppOwn
namespace Go.Proofs.Ythbacebkidggdaa
open Go.RowKit

def NetS (b : Nat) (v : Value) (k : Nat) : Prop := k = b ∨ v.ownBlock = some k
structure NetPost (b : Nat) (w : World) (v : Value) (fs : List Fr) (v' : Value) (w' : World) : Prop where
  at_ : NetAt w' b v' fs
  frm : Frm (NetS b v) w w'
  own : v'.ownBlock = v.ownBlock ∨ ∃ k, v'.ownBlock = some k ∧ w.heap.size ≤ k
theorem NetPost.same {b : Nat} {w w' : World} {v : Value} {fs : List Fr} (h : NetAt w b v fs) (hf : Frm No w w') : NetPost b w v fs v w' := ⟨h.frm hf (fun h => h) (fun _ _ h => h), hf.any, Or.inl rfl⟩
/-- What a change of the row and the store behind it leave. -/
theorem net_done {b : Nat} {w w1 : World} {v v1 : Value} {fs fs1 : List Fr} (h : NetAt w b v fs) (hf : Frm (Own v) w w1) (hown : w1.ownsRow 0 35 4 v1 fs1.length (framesV fs1)) (hv : v1.ownBlock = v.ownBlock ∨ ∃ k, v1.ownBlock = some k ∧ w.heap.size ≤ k) :
    NetPost b w v fs1 v1 (w1.setCell ⟨b, 0, none⟩ v1) := by
  have hb : b < w.heap.size := World.block_lt_of_cell? w _ h.c0
  have hap : ¬ Own v b := h.apart
  have hap1 : v1.ownBlock ≠ some b := by
    rcases hv with hv | ⟨k, hv, hk⟩
    · rw [hv]; exact h.apart
    · rw [hv]; simp; omega
  have k0 : w1.cell? ⟨b, 0, none⟩ = some v := (hf.cell (p := ⟨b, 0, none⟩) hb hap).trans h.c0
  have fr : Frm (One b) w1 (w1.setCell ⟨b, 0, none⟩ v1) := Frm.setCell (p := ⟨b, 0, none⟩) (Frm.refl (One b) w1) (fun _ => rfl) _
  refine ⟨⟨World.cell?_setCell_same _ _ _ k0, fun j => ?_, fr.row hown (fun k hk e => hap1 (by rw [hk, e])), hap1⟩, hf.trans fr (fun i _ h => Or.inr h) (fun i _ h => Or.inl h), hv⟩
  rw [World.frozen?_setCell, hf.frozen (p := ⟨b, j, none⟩) hb hap]
  exact h.f j
theorem NetPost.behind {b : Nat} {w w1 w2 : World} {v v2 : Value} {fs2 : List Fr} (hf : Frm No w w1) (k : NetPost b w1 v fs2 v2 w2) : NetPost b w v fs2 v2 w2 :=
  ⟨k.at_, hf.trans k.frm (fun _ _ h => h.elim) (fun _ _ h => h), by
    rcases k.own with e | ⟨g, e, hg⟩
    · exact Or.inl e
    · exact Or.inr ⟨g, e, Nat.le_trans hf.size hg⟩⟩
theorem NetPost.no {b : Nat} {w0 w w' : World} {v v' : Value} {fs : List Fr} (h : NetPost b w v fs v' w') (hf : Frm No w0 w) (hb : w0.heap.size ≤ b) (hv : ∀ k, v.ownBlock = some k → w0.heap.size ≤ k) : Frm No w0 w' :=
  hf.trans h.frm (fun _ _ h => h) (fun i hi hs => by
    rcases hs with rfl | hs
    · omega
    · have := hv i hs; omega)
theorem NetPost.ge {b : Nat} {w0 w w' : World} {v v' : Value} {fs : List Fr} (h : NetPost b w v fs v' w') (hf : w0.heap.size ≤ w.heap.size) (hv : ∀ k, v.ownBlock = some k → w0.heap.size ≤ k) : ∀ k, v'.ownBlock = some k → w0.heap.size ≤ k := by
  intro k hk
  rcases h.own with e | ⟨g, e, hg⟩
  · exact hv k (e ▸ hk)
  · rw [e] at hk; cases hk; omega

theorem send_nil (f t : Int) (s : List UInt8) (w : World) : Calls Try.prog 5 #[.pointer none, .int .i64 f, .int .i64 t, .string ⟨s.toArray⟩] w fun e w' => e = .returned (.bool false) ∧ w = w' := by
  go_enter Try.func5, Try.ntmps5
  go_wp2_with fail
  go_ret
  exact ⟨rfl, rfl⟩
def sent (fs : List Fr) (f t : Int) (s : List UInt8) : List Fr := if fs.length < 1024 then fs ++ [⟨f, t, s, false⟩] else fs
set_option maxRecDepth 100000 in
set_option maxHeartbeats 400000 in
theorem send_any (b : Nat) (v : Value) (fs : List Fr) (f t : Int) (s : List UInt8) (w : World) (h : NetAt w b v fs) (hsm : fs.length ≤ 100000) :
    Calls Try.prog 5 #[.pointer (some ⟨b, 0, none⟩), .int .i64 f, .int .i64 t, .string ⟨s.toArray⟩] w fun e w' => e = .returned (.bool (decide (fs.length < 1024))) ∧ ∃ v', NetPost b w v (sent fs f t s) v' w' := by
  obtain ⟨i0, gi, gz0, gz1, gz2⟩ := info_parts info_frame
  have h0 := h.c0
  have hf := h.f 0
  have hr := h.row
  have hb : b < w.heap.size := World.block_lt_of_cell? w _ h.c0
  obtain ⟨ao, c, rfl⟩ := ownsRow_shape hr
  by_cases hn : fs.length < 1024
  · have hs : Hid (sent fs f t s = fs ++ [⟨f, t, s, false⟩]) := hid (if_pos hn)
    rw [decide_eq_true hn]
    have hn' : ¬ (1024 : Int) ≤ (fs.length : Int) := by omega
    have hcl : ∀ o : Obj, (w.alloc o).cell? ⟨b, 0, none⟩ = some (.slice ao fs.length c) := fun o => (((Frm.refl No w).alloc o).cell hb (fun h => h)).trans h0
    go_enter Try.func5, Try.ntmps5
    go_wp2_with (at_builtin; refine wpList_push _ rfl (.tmp 23) (.tmp 28) 24 rfl 0 35 i0 _ 4 40 Try.underlying24 gi gz0 gz1 gz2 rfl (.slice ao fs.length c) fs.length (framesV fs) rfl hr (frV ⟨f, t, s, false⟩) rfl rfl (framesV_one [⟨f, t, s, false⟩]) (by omega) (by omega) (Nat.zero_le _) ?_; intro v1 w1 hown hg hv hz; obtain ⟨ao1, c1, rfl⟩ := ownsRow_shape hown; have q1 := (hg.cell (p := ⟨b, 0, none⟩) hb h.apart).trans h0; have q2 := (hg.frozen (p := ⟨b, 0, none⟩) hb h.apart).trans hf)
    go_ret
    refine ⟨rfl, .slice ao1 (fs.length + 1) c1, ?_⟩
    rw [hs.out]
    exact net_done h hg (by rw [List.length_append, framesV_append]; exact hown) hv
  · have hs : Hid (sent fs f t s = fs) := hid (if_neg hn)
    rw [decide_eq_false hn]
    have hn' : (1024 : Int) ≤ (fs.length : Int) := by omega
    go_enter Try.func5, Try.ntmps5
    go_wp2_with fail
    go_ret
    exact ⟨rfl, _, by rw [hs.out]; exact NetPost.same h (Frm.refl _ _)⟩

theorem box_cell {w w1 : World} {cs : Array Value} {T : TypeId} (h : Frm No (w.alloc (.cells cs T)) w1) (o : Obj) (j : Nat) : (w1.alloc o).cell? ⟨w.heap.size, j, none⟩ = cs[j]? := (h.alloc o).box j
theorem box_frozen {w w1 : World} {cs : Array Value} {T : TypeId} (h : Frm No (w.alloc (.cells cs T)) w1) (j : Nat) : w1.frozen? ⟨w.heap.size, j, none⟩ = false :=
  (h.frozen (p := ⟨w.heap.size, j, none⟩) (by simp) (fun h => h)).trans (World.frozen?_alloc_at _ _ _ _ rfl)
theorem box_frozen' {w w1 : World} {cs : Array Value} {T : TypeId} (h : Frm No (w.alloc (.cells cs T)) w1) (o : Obj) (j : Nat) : (w1.alloc o).frozen? ⟨w.heap.size, j, none⟩ = false := box_frozen (h.alloc o) j
theorem box_new {w w1 : World} {cs : Array Value} {T : TypeId} (h : Frm No (w.alloc (.cells cs T)) w1) : w.heap.size < w1.heap.size := Nat.lt_of_lt_of_le (by simp) h.size

theorem store4 {w w1 : World} {B : Nat} (hf : Frm No w w1) (hB : w.heap.size ≤ B) (a b c d : Value) : Frm No w ((((w1.setCell ⟨B, 0, none⟩ a).setCell ⟨B, 1, none⟩ b).setCell ⟨B, 2, none⟩ c).setCell ⟨B, 3, none⟩ d) :=
  (((hf.setCell (p := ⟨B, 0, none⟩) (fun h => absurd h (by simp; omega)) _).setCell (p := ⟨B, 1, none⟩) (fun h => absurd h (by simp; omega)) _).setCell (p := ⟨B, 2, none⟩) (fun h => absurd h (by simp; omega)) _).setCell (p := ⟨B, 3, none⟩) (fun h => absurd h (by simp; omega)) _
theorem store4_one {w1 : World} {B : Nat} (a b c d : Value) : Frm (One B) w1 ((((w1.setCell ⟨B, 0, none⟩ a).setCell ⟨B, 1, none⟩ b).setCell ⟨B, 2, none⟩ c).setCell ⟨B, 3, none⟩ d) :=
  (((((Frm.refl (One B) w1).setCell (p := ⟨B, 0, none⟩) (fun _ => rfl) _).setCell (p := ⟨B, 1, none⟩) (fun _ => rfl) _).setCell (p := ⟨B, 2, none⟩) (fun _ => rfl) _).setCell (p := ⟨B, 3, none⟩) (fun _ => rfl) _)
theorem store4_cell {w1 : World} {B : Nat} {x0 x1 x2 x3 : Value} (h0 : w1.cell? ⟨B, 0, none⟩ = some x0) (h1 : w1.cell? ⟨B, 1, none⟩ = some x1) (h2 : w1.cell? ⟨B, 2, none⟩ = some x2) (h3 : w1.cell? ⟨B, 3, none⟩ = some x3) (a b c d : Value) :
    ((((w1.setCell ⟨B, 0, none⟩ a).setCell ⟨B, 1, none⟩ b).setCell ⟨B, 2, none⟩ c).setCell ⟨B, 3, none⟩ d).cell? ⟨B, 0, none⟩ = some a ∧ ((((w1.setCell ⟨B, 0, none⟩ a).setCell ⟨B, 1, none⟩ b).setCell ⟨B, 2, none⟩ c).setCell ⟨B, 3, none⟩ d).cell? ⟨B, 1, none⟩ = some b ∧
    ((((w1.setCell ⟨B, 0, none⟩ a).setCell ⟨B, 1, none⟩ b).setCell ⟨B, 2, none⟩ c).setCell ⟨B, 3, none⟩ d).cell? ⟨B, 2, none⟩ = some c ∧ ((((w1.setCell ⟨B, 0, none⟩ a).setCell ⟨B, 1, none⟩ b).setCell ⟨B, 2, none⟩ c).setCell ⟨B, 3, none⟩ d).cell? ⟨B, 3, none⟩ = some d := by
  have ne : ∀ i j : Nat, i ≠ j → (⟨B, i, none⟩ : Addr) ≠ ⟨B, j, none⟩ := fun i j h e => h (congrArg Addr.off e)
  have n01 := ne 0 1 (by omega); have n02 := ne 0 2 (by omega); have n03 := ne 0 3 (by omega); have n12 := ne 1 2 (by omega); have n13 := ne 1 3 (by omega); have n23 := ne 2 3 (by omega)
  refine ⟨?_, ?_, ?_, ?_⟩
  · rw [World.cell?_setCell_other _ _ _ _ n03.symm, World.cell?_setCell_other _ _ _ _ n02.symm, World.cell?_setCell_other _ _ _ _ n01.symm]
    exact World.cell?_setCell_same _ _ _ h0
  · rw [World.cell?_setCell_other _ _ _ _ n13.symm, World.cell?_setCell_other _ _ _ _ n12.symm]
    exact World.cell?_setCell_same _ _ _ (by rw [World.cell?_setCell_other _ _ _ _ n01]; exact h1)
  · rw [World.cell?_setCell_other _ _ _ _ n23.symm]
    exact World.cell?_setCell_same _ _ _ (by rw [World.cell?_setCell_other _ _ _ _ n12, World.cell?_setCell_other _ _ _ _ n02]; exact h2)
  · exact World.cell?_setCell_same _ _ _ (by rw [World.cell?_setCell_other _ _ _ _ n23, World.cell?_setCell_other _ _ _ _ n13, World.cell?_setCell_other _ _ _ _ n03]; exact h3)
theorem alloc_cell {W : World} {p : Addr} {v : Value} (h : W.cell? p = some v) (o : Obj) : (W.alloc o).cell? p = some v := (((Frm.refl No W).alloc o).cell (World.block_lt_of_cell? W p h) (fun h => h)).trans h
theorem NetPost.store {b B : Nat} {w wz wd w3 : World} {v v1 : Value} {fs : List Fr} (k : NetPost b wz v fs v1 wd) (hf : Frm No w wz) (h3 : Frm (One B) wd w3) (hB : w.heap.size ≤ B) (hb : b ≠ B) (hv : v1.ownBlock ≠ some B) : NetPost b w v fs v1 w3 :=
  ⟨k.at_.frm h3 hb (fun g hg e => hv (by rw [hg]; exact congrArg some e)), (hf.trans k.frm (fun _ _ h => h.elim) (fun _ _ h => h)).trans h3 (fun _ _ h => h) (fun i hi (e : i = B) => by omega), by
    rcases k.own with e | ⟨g, e, hg⟩
    · exact Or.inl e
    · exact Or.inr ⟨g, e, Nat.le_trans hf.size hg⟩⟩
theorem look_nil' (x : Int) (w : World) : Calls Try.prog 11 #[.pointer none, .int .i64 x] w fun e w' => e = .returned (.tuple #[.agg #[.int .i64 0, .int .i64 0, .string ⟨#[]⟩, .bool false], .bool false]) ∧ Frm No w w' := look_nil x w
theorem look_any' (b : Nat) (v : Value) (fs : List Fr) (x : Int) (f : Fr) (hf : look fs x = f) (ok : Bool) (ho : decide (0 < fs.length) = ok) (w : World) (h : NetAt w b v fs) (hsm : fs.length ≤ 100000) :
    Calls Try.prog 11 #[.pointer (some ⟨b, 0, none⟩), .int .i64 x] w fun e w' => e = .returned (.tuple #[.agg #[.int .i64 f.from_, .int .i64 f.to_, .string ⟨f.bytes.toArray⟩, .bool f.bad], .bool ok]) ∧ Frm No w w' := by
  subst hf ho; exact look_any b v fs x w h hsm

set_option maxRecDepth 100000 in
theorem take_nil (x : Int) (w : World) : Calls Try.prog 7 #[.pointer none, .int .i64 x] w fun e w' => e = .returned (.tuple #[.agg #[.int .i64 0, .int .i64 0, .string ⟨#[]⟩, .bool false], .bool false]) ∧ Frm No w w' := by
  go_enter Try.func7, Try.ntmps7
  go_wp2_with (go_at_call 11; refine (look_nil' x _).mono ?_; rintro e1 w1 ⟨rfl, hf1⟩; have q1 := hf1.box; have q2 := box_cell hf1; have q3 := box_frozen hf1; have q4 := box_frozen' hf1; have q5 := box_new hf1)
  have ⟨r0, r1, r2, r3⟩ := store4_cell (q1 0) (q1 1) (q1 2) (q1 3) (.int .i64 0) (.int .i64 0) (.string ⟨#[]⟩) (.bool false)
  have r0 := fun o => alloc_cell r0 o
  have r1 := fun o => alloc_cell r1 o
  have r2 := fun o => alloc_cell r2 o
  have r3 := fun o => alloc_cell r3 o
  refine bodyPost_ret (v := .tuple #[.agg #[.int .i64 0, .int .i64 0, .string ⟨#[]⟩, .bool false], .bool false]) (by simp [results, Try.results7, go_sem, r0, r1, r2, r3]) rfl ⟨rfl, ?_⟩
  exact (store4 (((Frm.refl No w).alloc _).thenNo hf1) (Nat.le_refl _) _ _ _ _).alloc _
theorem double_nil (x : Int) (w : World) : Calls Try.prog 8 #[.pointer none, .int .i64 x] w fun e w' => e = .returned (.bool false) ∧ Frm No w w' := by
  go_enter Try.func8, Try.ntmps8
  go_wp2_with (go_at_call 11; refine (look_nil' x _).mono ?_; rintro e1 w1 ⟨rfl, hf1⟩)
  go_ret
  exact ⟨rfl, hf1.alloc _⟩
theorem double_none (b : Nat) (v : Value) (x : Int) (w : World) (h : NetAt w b v []) : Calls Try.prog 8 #[.pointer (some ⟨b, 0, none⟩), .int .i64 x] w fun e w' => e = .returned (.bool false) ∧ Frm No w w' := by
  have HL := hid (look_any' b v [] x fr0 rfl false rfl w h (by simp))
  unfold fr0 at HL
  simp only at HL
  go_enter Try.func8, Try.ntmps8
  go_wp2_with (go_at_call 11; refine HL.out.mono ?_; rintro e1 w1 ⟨rfl, hf1⟩)
  go_ret
  exact ⟨rfl, hf1.alloc _⟩

set_option maxRecDepth 100000 in
set_option maxHeartbeats 400000 in
theorem take_none (b : Nat) (v : Value) (x : Int) (w : World) (h : NetAt w b v []) : Calls Try.prog 7 #[.pointer (some ⟨b, 0, none⟩), .int .i64 x] w fun e w' => e = .returned (.tuple #[.agg #[.int .i64 0, .int .i64 0, .string ⟨#[]⟩, .bool false], .bool false]) ∧ Frm No w w' := by
  have h1 : NetAt (w.alloc (.cells #[.int .i64 0, .int .i64 0, .string ⟨#[]⟩, .bool false] 35)) b v [] := h.frm ((Frm.refl No w).alloc _) (fun h => h) (fun _ _ h => h)
  have HL := hid (look_any' b v [] x fr0 rfl false rfl _ h1 (by simp))
  unfold fr0 at HL
  simp only at HL
  clear h h1
  go_enter Try.func7, Try.ntmps7
  go_wp2_with (go_at_call 11; refine HL.out.mono ?_; rintro e1 w1 ⟨rfl, hf1⟩; have q1 := hf1.box; have q2 := box_cell hf1; have q3 := box_frozen hf1; have q4 := box_frozen' hf1; have q5 := box_new hf1)
  have ⟨r0, r1, r2, r3⟩ := store4_cell (q1 0) (q1 1) (q1 2) (q1 3) (.int .i64 0) (.int .i64 0) (.string ⟨#[]⟩) (.bool false)
  have r0 := fun o => alloc_cell r0 o
  have r1 := fun o => alloc_cell r1 o
  have r2 := fun o => alloc_cell r2 o
  have r3 := fun o => alloc_cell r3 o
  refine bodyPost_ret (v := .tuple #[.agg #[.int .i64 0, .int .i64 0, .string ⟨#[]⟩, .bool false], .bool false]) (by simp [results, Try.results7, go_sem, r0, r1, r2, r3]) rfl ⟨rfl, ?_⟩
  exact (store4 (((Frm.refl No w).alloc _).thenNo hf1) (Nat.le_refl _) _ _ _ _).alloc _

theorem take_mid {w w1 w3 : World} {b : Nat} {v : Value} {cs ds : Array Value} {T T' : TypeId} (hb : b < w.heap.size) (hvl : ∀ k, v.ownBlock = some k → k < w.heap.size) (hap : v.ownBlock ≠ some b) (p1 : w1.cell? ⟨b, 0, none⟩ = some v) (p2 : w1.frozen? ⟨b, 0, none⟩ = false)
    (hf1 : Frm No (w.alloc (.cells cs T)) w1) (hd : Frm (Own v) (w1.alloc (.cells ds T')) w3) :
    (∀ j, w3.cell? ⟨w1.heap.size, j, none⟩ = ds[j]?) ∧ (∀ j, w3.cell? ⟨w.heap.size, j, none⟩ = cs[j]?) ∧ (∀ j, w3.frozen? ⟨w.heap.size, j, none⟩ = false) ∧ w3.cell? ⟨b, 0, none⟩ = some v ∧ w3.frozen? ⟨b, 0, none⟩ = false := by
  have q5 := box_new hf1
  have nw : ∀ k, w.heap.size ≤ k → ¬ Own v k := fun k hk e => absurd (hvl k e) (Nat.not_lt.2 hk)
  have hsz : (w1.alloc (.cells ds T')).heap.size = w1.heap.size + 1 := by simp
  refine ⟨fun j => ?_, fun j => ?_, fun j => ?_, ?_, ?_⟩
  · exact (hd.cell (p := ⟨w1.heap.size, j, none⟩) (by rw [hsz]; exact Nat.lt_succ_self _) (nw _ (Nat.le_of_lt q5))).trans (World.cell?_alloc_at _ _ _ _ rfl)
  · exact (hd.cell (p := ⟨w.heap.size, j, none⟩) (by rw [hsz]; exact Nat.lt_succ_of_lt q5) (nw _ (Nat.le_refl _))).trans (box_cell hf1 _ j)
  · exact (hd.frozen (p := ⟨w.heap.size, j, none⟩) (by rw [hsz]; exact Nat.lt_succ_of_lt q5) (nw _ (Nat.le_refl _))).trans (box_frozen' hf1 _ j)
  · exact (hd.cell (p := ⟨b, 0, none⟩) (by rw [hsz]; show b < w1.heap.size + 1; omega) hap).trans (alloc_cell p1 _)
  · exact (hd.frozen (p := ⟨b, 0, none⟩) (by rw [hsz]; show b < w1.heap.size + 1; omega) hap).trans ((((Frm.refl No w1).alloc _).frozen (p := ⟨b, 0, none⟩) (show b < w1.heap.size by omega) (fun h => h)).trans p2)

set_option maxRecDepth 100000 in
set_option maxHeartbeats 1000000 in
theorem take_some (b : Nat) (v : Value) (fs : List Fr) (x : Int) (f : Fr) (hlk : look fs x = f) (w : World) (h : NetAt w b v fs) (hn : 0 < fs.length) (hsm : fs.length ≤ 100000) :
    Calls Try.prog 7 #[.pointer (some ⟨b, 0, none⟩), .int .i64 x] w fun e w' => e = .returned (.tuple #[.agg #[.int .i64 f.from_, .int .i64 f.to_, .string ⟨f.bytes.toArray⟩, .bool f.bad], .bool true]) ∧ ∃ v', NetPost b w v (fs.eraseIdx (pl x fs.length)) v' w' := by
  have hb : b < w.heap.size := World.block_lt_of_cell? w _ h.c0
  have h1 : NetAt (w.alloc (.cells #[.int .i64 0, .int .i64 0, .string ⟨#[]⟩, .bool false] 35)) b v fs := h.frm ((Frm.refl No w).alloc _) (fun h => h) (fun _ _ h => h)
  have HL := hid (look_any' b v fs x f hlk true (decide_eq_true hn) _ h1 hsm)
  have HR := hid (fun w => round_any x fs.length w hn (by omega))
  have hpl := pl_lt x fs.length hn
  have HD := hid (fun w hr => delete_any 0 v fs (pl x fs.length) w hr hpl hsm)
  have hvl : ∀ k, v.ownBlock = some k → k < w.heap.size := fun k hk => (h.row.lt k hk).2
  have hpz : ((pl x fs.length : Nat) : Int) ≤ 100000 := by omega
  obtain ⟨ao, c, rfl⟩ := ownsRow_shape h.row
  have hel : (fs.eraseIdx (pl x fs.length)).length = fs.length - 1 := by rw [List.length_eraseIdx, if_pos hpl]
  have ne1 : ¬ b = w.heap.size := by omega
  have ne2 : ¬ w.heap.size = b := by omega
  go_enter Try.func7, Try.ntmps7
  go_wp2_with (first | (go_at_call 11; refine HL.out.mono ?_; rintro e1 w1 ⟨rfl, hf1⟩; have hn1 := h1.frm hf1 (fun h => h) (fun _ _ h => h); have p1 := hn1.c0; have p1' := fun o => alloc_cell p1 o; have p2 := hn1.f 0; have q1 := hf1.box; have q2 := box_cell hf1; have q3 := box_frozen hf1; have q4 := box_frozen' hf1; have q5 := box_new hf1) | (go_at_call 13; refine (HR.out _).mono ?_; rintro e2 w2 ⟨rfl, rfl⟩) | (go_at_call 14; refine (HD.out _ (hn1.row.alloc _)).mono ?_; rintro e3 w3 ⟨v3, rfl, hown, hv3, hd⟩; obtain ⟨ao3, c3, rfl⟩ := ownsRow_shape hown; obtain ⟨k6, kr, kf, pb, pf⟩ := take_mid hb hvl h.apart p1 p2 hf1 hd))
  have hP := net_done (hn1.frm ((Frm.refl No w1).alloc _) (fun h => h) (fun _ _ h => h)) hd (fs1 := fs.eraseIdx (pl x fs.length)) (by rw [hel]; exact hown) (Or.inl hv3)
  have ks : ∀ j, (w3.setCell ⟨b, 0, none⟩ (.slice ao3 (fs.length - 1) c3)).cell? ⟨w.heap.size, j, none⟩ = (#[.int .i64 0, .int .i64 0, .string ⟨#[]⟩, .bool false] : Array Value)[j]? := fun j => (World.cell?_setCell_other _ _ _ _ (fun e => by first | exact ne1 (congrArg Addr.block e) | exact ne2 (congrArg Addr.block e))).trans (kr j)
  have ⟨r0, r1, r2, r3⟩ := store4_cell (ks 0) (ks 1) (ks 2) (ks 3) (.int .i64 f.from_) (.int .i64 f.to_) (.string ⟨f.bytes.toArray⟩) (.bool f.bad)
  refine bodyPost_ret (v := .tuple #[.agg #[.int .i64 f.from_, .int .i64 f.to_, .string ⟨f.bytes.toArray⟩, .bool f.bad], .bool true]) (by simp [results, Try.results7, go_sem, r0, r1, r2, r3]) rfl ⟨rfl, _, hP.store ((((Frm.refl No w).alloc _).thenNo hf1).alloc _) (store4_one _ _ _ _) (Nat.le_refl _) ne1 (fun e => by rw [hv3] at e; exact absurd (hvl _ e) (Nat.lt_irrefl _))⟩

set_option maxRecDepth 100000 in
set_option maxHeartbeats 1000000 in
theorem double_some (b : Nat) (v : Value) (fs : List Fr) (x : Int) (f : Fr) (hlk : look fs x = f) (w : World) (h : NetAt w b v fs) (hn : 0 < fs.length) (hsm : fs.length < 1024) :
    Calls Try.prog 8 #[.pointer (some ⟨b, 0, none⟩), .int .i64 x] w fun e w' => e = .returned (.bool true) ∧ ∃ v', NetPost b w v (fs ++ [f]) v' w' := by
  obtain ⟨i0, gi, gz0, gz1, gz2⟩ := info_parts info_frame
  have hb : b < w.heap.size := World.block_lt_of_cell? w _ h.c0
  have HL := hid (look_any' b v fs x f hlk true (decide_eq_true hn) _ h (by omega))
  have hvl : ∀ k, v.ownBlock = some k → k < w.heap.size := fun k hk => (h.row.lt k hk).2
  obtain ⟨ao, c, rfl⟩ := ownsRow_shape h.row
  have hn' : ¬ (1024 : Int) ≤ (fs.length : Int) := by omega
  go_enter Try.func8, Try.ntmps8
  go_wp2_with (go_at_call 11; refine HL.out.mono ?_; rintro e1 w1 ⟨rfl, hf1⟩; have hn1 := h.frm hf1 (fun h => h) (fun _ _ h => h); have p1 := hn1.c0; have p1' := fun o => alloc_cell p1 o; have p2 := hn1.f 0; have hz1 := hf1.size)
  obtain ⟨wa, hwa⟩ : ∃ wa : World, wa = w1.alloc (.cells #[.int .i64 f.from_, .int .i64 f.to_, .string ⟨f.bytes.toArray⟩, .bool f.bad] 35) := ⟨_, rfl⟩
  have hfa : Frm No w1 wa := by rw [hwa]; exact (Frm.refl _ _).alloc _
  have hna := hn1.frm hfa (fun h => h) (fun _ _ h => h)
  have hsa : wa.heap.size = w1.heap.size + 1 := by rw [hwa]; simp
  have ka : ∀ j, wa.cell? ⟨w1.heap.size, j, none⟩ = (#[.int .i64 f.from_, .int .i64 f.to_, .string ⟨f.bytes.toArray⟩, .bool f.bad] : Array Value)[j]? := fun j => by rw [hwa]; exact World.cell?_alloc_at _ _ _ _ rfl
  have kab : ∀ o j, (wa.alloc o).cell? ⟨w1.heap.size, j, none⟩ = (#[.int .i64 f.from_, .int .i64 f.to_, .string ⟨f.bytes.toArray⟩, .bool f.bad] : Array Value)[j]? := fun o j => (((Frm.refl No wa).alloc o).cell (p := ⟨w1.heap.size, j, none⟩) (by rw [hsa]; exact Nat.lt_succ_self _) (fun h => h)).trans (ka j)
  have pa := hna.c0
  have pab := fun o => alloc_cell pa o
  have HSRC : Hid (Src Try.prog 4 24 (.slice (some ⟨wa.heap.size, 0, none⟩) 1 1) 1 (frV f) (wa.alloc (.cells #[.int .i64 f.from_, .int .i64 f.to_, .string ⟨f.bytes.toArray⟩, .bool f.bad] 35)).drew) := hid (Src.ofSlice _ Try.underlying24 ⟨wa.heap.size, 0, none⟩ 1 1 (frV f) rfl (fun j u hj => by
    have e : (⟨wa.heap.size, 0, none⟩ : Addr).add j = ⟨wa.heap.size, j, none⟩ := by rw [Addr.add_lit]; simp
    have e2 : (wa.alloc (.cells #[.int .i64 f.from_, .int .i64 f.to_, .string ⟨f.bytes.toArray⟩, .bool f.bad] 35)).drew.cell? ⟨wa.heap.size, j, none⟩ = (#[.int .i64 f.from_, .int .i64 f.to_, .string ⟨f.bytes.toArray⟩, .bool f.bad] : Array Value)[j]? := World.cell?_alloc_at _ _ _ _ rfl
    rw [e, e2, ← hj]
    simp [frV]) (by intro u hu; simp only [frV, List.mem_cons, List.not_mem_nil, or_false] at hu; rcases hu with rfl | rfl | rfl | rfl <;> rfl))
  have HROW : Hid ((wa.alloc (.cells #[.int .i64 f.from_, .int .i64 f.to_, .string ⟨f.bytes.toArray⟩, .bool f.bad] 35)).drew.ownsRow 0 35 4 (.slice ao fs.length c) fs.length (framesV fs)) := hid (hna.row.alloc _).drew
  have hbb : Hid (b < (wa.alloc (.cells #[.int .i64 f.from_, .int .i64 f.to_, .string ⟨f.bytes.toArray⟩, .bool f.bad] 35)).drew.heap.size) := hid (by show b < (wa.alloc _).heap.size; rw [World.size_alloc]; omega)
  have HC0 : Hid ((wa.alloc (.cells #[.int .i64 f.from_, .int .i64 f.to_, .string ⟨f.bytes.toArray⟩, .bool f.bad] 35)).drew.cell? ⟨b, 0, none⟩ = some (.slice ao fs.length c)) := hid (pab _)
  have HF0 : Hid ((wa.alloc (.cells #[.int .i64 f.from_, .int .i64 f.to_, .string ⟨f.bytes.toArray⟩, .bool f.bad] 35)).drew.frozen? ⟨b, 0, none⟩ = false) := hid ((((Frm.refl No wa).alloc _).frozen (p := ⟨b, 0, none⟩) (show b < wa.heap.size by omega) (fun h => h)).trans (hna.f 0))
  have HNW : Hid (NetAt (wa.alloc (.cells #[.int .i64 f.from_, .int .i64 f.to_, .string ⟨f.bytes.toArray⟩, .bool f.bad] 35)).drew b (.slice ao fs.length c) fs) := hid ⟨pab _, fun j => (((Frm.refl No wa).alloc _).frozen (p := ⟨b, j, none⟩) (show b < wa.heap.size by omega) (fun h => h)).trans (hna.f j), (hna.row.alloc _).drew, h.apart⟩
  have HFW : Hid (Frm No w (wa.alloc (.cells #[.int .i64 f.from_, .int .i64 f.to_, .string ⟨f.bytes.toArray⟩, .bool f.bad] 35)).drew) := hid (((hf1.thenNo hfa).alloc _).drew)
  rw [← hwa]
  clear p1' hwa
  go_region_law (refine step_append_own rfl (.tmp 27) (.tmp 29) 24 24 rfl 0 35 i0 _ 4 40 Try.underlying24 gi gz0 gz1 gz2 rfl (.slice ao fs.length c) fs.length (framesV fs) (by simp [Act.eval]) HROW.out (.slice (some ⟨wa.heap.size, 0, none⟩) 1 1) 1 (frV f) (by simp [Act.eval]) HSRC.out (by unfold maxLen; omega) (by omega) (Nat.zero_le _) ?_; intro v3 w3 hown hd hv; obtain ⟨ao3, c3, rfl⟩ := ownsRow_shape hown; have pz := (hd.cell (p := ⟨b, 0, none⟩) hbb.out h.apart).trans HC0.out; have pzf := (hd.frozen (p := ⟨b, 0, none⟩) hbb.out h.apart).trans HF0.out)
  all_goals
    go_wp2_with fail
    go_ret
    refine ⟨rfl, .slice ao3 (fs.length + 1) c3, NetPost.behind HFW.out (net_done HNW.out hd (fs1 := fs ++ [f]) ?_ hv)⟩
    rw [List.length_append, framesV_append]
    exact hown
theorem double_many (b : Nat) (v : Value) (fs : List Fr) (x : Int) (w : World) (h : NetAt w b v fs) (hn : 0 < fs.length) (hb : ¬ fs.length < 1024) (hsm : fs.length ≤ 100000) :
    Calls Try.prog 8 #[.pointer (some ⟨b, 0, none⟩), .int .i64 x] w fun e w' => e = .returned (.bool false) ∧ Frm No w w' := by
  have HL := hid (look_any' b v fs x _ rfl true (decide_eq_true hn) _ h hsm)
  generalize look fs x = f at *
  obtain ⟨ao, c, rfl⟩ := ownsRow_shape h.row
  have hn' : (1024 : Int) ≤ (fs.length : Int) := by omega
  go_enter Try.func8, Try.ntmps8
  go_wp2_with (go_at_call 11; refine HL.out.mono ?_; rintro e1 w1 ⟨rfl, hf1⟩; have hn1 := h.frm hf1 (fun h => h) (fun _ _ h => h); have p1 := hn1.c0; have p1' := fun o => alloc_cell p1 o)
  go_ret
  exact ⟨rfl, hf1.alloc _⟩

theorem double_any (b : Nat) (v : Value) (fs : List Fr) (x : Int) (w : World) (h : NetAt w b v fs) (hsm : fs.length ≤ 100000) :
    Calls Try.prog 8 #[.pointer (some ⟨b, 0, none⟩), .int .i64 x] w fun e w' => e = .returned (.bool (decide (0 < fs.length) && decide (fs.length < 1024))) ∧ ∃ v', NetPost b w v (if 0 < fs.length ∧ fs.length < 1024 then fs ++ [look fs x] else fs) v' w' := by
  by_cases h0 : 0 < fs.length
  · by_cases h1 : fs.length < 1024
    · rw [decide_eq_true h0, decide_eq_true h1, if_pos ⟨h0, h1⟩]
      exact double_some b v fs x _ rfl w h h0 h1
    · rw [decide_eq_true h0, decide_eq_false h1, if_neg (fun h => h1 h.2)]
      exact (double_many b v fs x w h h0 h1 hsm).mono fun e w' ⟨he, hf⟩ => ⟨he, v, NetPost.same h hf⟩
  · obtain rfl : fs = [] := List.eq_nil_of_length_eq_zero (by omega)
    exact (double_none b v x w h).mono fun e w' ⟨he, hf⟩ => ⟨he, v, NetPost.same h hf⟩
end Go.Proofs.Ythbacebkidggdaa
