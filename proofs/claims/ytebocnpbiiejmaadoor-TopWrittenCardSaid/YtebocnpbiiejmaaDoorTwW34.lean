/- Grammars as texts: the walks of format's writer but put. Grammars as texts: the walks of format's atom and again. Printed by a program (tww4.py). -/
import Derived.Test.YtebocnpbiiejmaaDoorTwW12
import Derived.Deep.RegionWith
namespace Go.Proofs.YtebocnpbiiejmaaDoor
open Go.RowKit
theorem writer_set {b : Nat} {w : World} {v : Value} {l : List UInt8} (h : Wri w b v l) {k : Nat} (hk : k < b) : ¬ WrS b v k := by
  rintro (e | e)
  · omega
  · have := (h.row.lt k e).1; omega
/-- what lay in front of the writer stands -/
theorem Wrote.tree {b : Nat} {w w1 : World} {v v1 : Value} {l l0 : List UInt8} (h : Wrote b w v l v1 w1) (h0 : Wri w b v l0) {Q : Nat → Prop} (hQ : ∀ k, Q k → k < b) {d : Gr.Nd} {x : Nv} (hN : NdQ w Q d x) : NdQ w1 Q d x :=
  NdQ.frm h.frm (fun k hk _ => writer_set h0 (hQ k hk)) d x hN
/-- a variable that was made behind the writer stands -/
theorem Wrote.box {b : Nat} {w w1 : World} {v v1 : Value} {l l0 : List UInt8} {cs : Array Value} {T : TypeId} (h0 : Wri w b v l0) (h : Wrote b (w.alloc (.cells cs T)) v l v1 w1) (j : Nat) : w1.cell? ⟨w.heap.size, j, none⟩ = cs[j]? := by
  have hb := h0.lt
  refine (h.frm.cell (p := ⟨w.heap.size, j, none⟩) (by rw [World.size_alloc]; exact Nat.lt_succ_self _) ?_).trans (World.cell?_alloc_at _ _ _ _ rfl)
  rintro (e | e)
  · have e : w.heap.size = b := e; omega
  · have := (h0.row.lt _ e).2; exact Nat.lt_irrefl _ this
theorem Wri.al {b : Nat} {w : World} {v : Value} {l : List UInt8} (h : Wri w b v l) (o : Obj) : Wri (w.alloc o) b v l := h.frm ((Frm.refl No w).alloc o) (fun h => h) (fun _ _ h => h)
theorem Wri.no {b : Nat} {w w1 : World} {v : Value} {l : List UInt8} (h : Wri w b v l) (hf : Frm No w w1) : Wri w1 b v l := h.frm hf (fun h => h) (fun _ _ h => h)
theorem NdQ.al {w : World} {Q : Nat → Prop} {d : Gr.Nd} {x : Nv} (h : NdQ w Q d x) (o : Obj) : NdQ (w.alloc o) Q d x := NdQ.frm ((Frm.refl No w).alloc o) (fun _ _ _ h => h) d x h
theorem NdQ.no {w w1 : World} {Q : Nat → Prop} {d : Gr.Nd} {x : Nv} (h : NdQ w Q d x) (hf : Frm No w w1) : NdQ w1 Q d x := NdQ.frm hf (fun _ _ _ h => h) d x h
theorem wrote_end {b : Nat} {w w1 w2 : World} {v v2 : Value} {l l' : List UInt8} {r : Value} (hf : Frm No w w1) (h : Wrote b w1 v l v2 w2) (e : l = l') : WroteP b w v l' r (.returned r) w2 := ⟨rfl, v2, e ▸ Wrote.behind hf h⟩
/-- a function that prints a node -/
def Prt (f : FuncId) (d : Gr.Nd) (L : List UInt8) : Prop := ∀ (w : World) (b : Nat) (v : Value) (l : List UInt8) (x : Nv) (Q : Nat → Prop), Wri w b v l → NdQ w Q d x → (∀ k, Q k → k < b) → l.length + L.length ≤ 140737488355328 →
  Calls Tryd.prog f #[.pointer (some ⟨b, 0, none⟩), nvA x] w (WroteP b w v (l ++ L) (.tuple #[]))
def PutOK (d : Gr.Nd) : Prop := Prt 14 d (Gr.pr Gr.AB d).put
set_option maxHeartbeats 2000000 in
theorem around_any {d : Gr.Nd} (hd : PutOK d) (a c : UInt8) (w : World) (b : Nat) (v : Value) (l : List UInt8) (x : Nv) (Q : Nat → Prop) (hW : Wri w b v l) (hN : NdQ w Q d x) (hQ : ∀ k, Q k → k < b) (hL : l.length + (Gr.Pr.wrap Gr.AB a c (Gr.pr Gr.AB d).put).length ≤ 140737488355328) :
    Calls Tryd.prog 67 #[.pointer (some ⟨b, 0, none⟩), nvA x, .int .u8 (a.toNat : Int), .int .u8 (c.toNat : Int)] w (WroteP b w v (l ++ Gr.Pr.wrap Gr.AB a c (Gr.pr Gr.AB d).put) (.tuple #[])) := by
  obtain ⟨L, hLe⟩ : ∃ L, (Gr.pr Gr.AB d).put = L := ⟨_, rfl⟩
  have hwr : Gr.Pr.wrap Gr.AB a c L = [a] ++ (L ++ [c]) := rfl
  have HD := hid (fun w v l hW hN hl => hd w b v l x Q hW hN hQ hl)
  rw [hLe] at HD hL ⊢
  rw [hwr] at hL ⊢
  have HL : Hid (l.length + (1 + L.length + 1) ≤ 140737488355328) := hid (by simp at hL; omega)
  have HW := hid hW
  have HN := hid (hN.al (.cells #[.int .i64 (x.k : Int), .string ⟨x.s.toArray⟩, .slice x.ao x.n x.c] 41))
  have HQ := hid hQ
  clear hd hL hLe hwr hW hN hQ
  unfold nvA at HD ⊢
  go_enter Tryd.func67, Tryd.ntmps67
  go_wp2_with fail
  refine (wbyte_any b v l a _ (HW.out.al _) (by have := HL.out; omega)).mono ?_
  rintro e w1 ⟨rfl, v1, h1⟩
  have b0 := Wrote.box HW.out h1 0
  have b1 := Wrote.box HW.out h1 1
  have b2 := Wrote.box HW.out h1 2
  have HN1 := hid (h1.tree (HW.out.al _) HQ.out HN.out)
  have H1 := hid h1
  clear h1
  go_wp2_with fail
  refine (HD.out w1 v1 _ H1.out.at_ HN1.out (by have := HL.out; rw [List.length_append]; simp; omega)).mono ?_
  rintro e w2 ⟨rfl, v2, h2⟩
  have H2 := hid h2
  clear h2
  go_wp2_with fail
  refine (wbyte_any b v2 _ c _ H2.out.at_ (by have := HL.out; rw [List.length_append, List.length_append]; simp; omega)).mono ?_
  rintro e w3 ⟨rfl, v3, h3⟩
  go_wp2_with fail
  go_end0
  exact wrote_end ((Frm.refl No w).alloc _) (H1.out.trans (H2.out.trans h3)) (by simp)
theorem pr_k (d : Gr.Nd) : (Gr.pr Gr.AB d).k = d.k := by
  cases d
  rfl
set_option maxHeartbeats 2000000 in
theorem item_any {d : Gr.Nd} (hd : PutOK d) : Prt 42 d (Gr.Pr.item Gr.AB (Gr.pr Gr.AB d)) := by
  intro w b v l x Q hW hN hQ hL
  have hk : x.k = d.k := by
    cases d
    exact hN.1
  have HA := hid (fun (W : World) (a c : UInt8) (hf : Frm No w W) hl => around_any hd a c W b v l x Q (hW.no hf) (hN.no hf) hQ hl)
  have HD := hid (fun (W : World) (hf : Frm No w W) hl => hd W b v l x Q (hW.no hf) (hN.no hf) hQ hl)
  generalize hp : Gr.pr Gr.AB d = p at HA HD hL ⊢
  have hpk : p.k = x.k := by rw [← hp, pr_k, hk]
  obtain ⟨k, s, ao, n, c⟩ := x
  obtain rfl : p.k = k := hpk
  obtain ⟨pk, L, K⟩ := p
  clear hd hW hN hQ hp hk
  unfold nvA at HA HD ⊢
  dsimp only at HA HD hL ⊢
  have HL := hid hL
  clear hL
  by_cases h3 : pk = 3
  · subst h3
    have HE : Hid (Gr.Pr.item Gr.AB ⟨3, L, K⟩ = Gr.Pr.wrap Gr.AB 40 41 L) := hid (if_pos (by show 3 = 3 ∨ 3 = 4; decide))
    go_enter Tryd.func42, Tryd.ntmps42
    go_wp2_with fail
    refine (HA.out _ 40 41 ((Frm.refl No w).alloc _) (by rw [HE.out] at HL; exact HL.out)).mono ?_
    rintro e w1 ⟨rfl, v1, h1⟩
    go_wp2_with fail
    go_end0
    exact wrote_end ((Frm.refl No w).alloc _) h1 (by rw [HE.out])
  · have z3 : ((pk : Int) == 3) = false := by rw [beq_eq_false_iff_ne]; omega
    by_cases h4 : pk = 4
    · subst h4
      have HE : Hid (Gr.Pr.item Gr.AB ⟨4, L, K⟩ = Gr.Pr.wrap Gr.AB 40 41 L) := hid (if_pos (by show 4 = 3 ∨ 4 = 4; decide))
      go_enter Tryd.func42, Tryd.ntmps42
      go_wp2_with fail
      refine (HA.out _ 40 41 ((Frm.refl No w).alloc _) (by rw [HE.out] at HL; exact HL.out)).mono ?_
      rintro e w1 ⟨rfl, v1, h1⟩
      go_wp2_with fail
      go_end0
      exact wrote_end ((Frm.refl No w).alloc _) h1 (by rw [HE.out])
    · have z4 : ((pk : Int) == 4) = false := by rw [beq_eq_false_iff_ne]; omega
      have HE : Hid (Gr.Pr.item Gr.AB ⟨pk, L, K⟩ = L) := hid (if_neg (by show ¬ (pk = 3 ∨ pk = 4); omega))
      clear h3 h4
      go_enter Tryd.func42, Tryd.ntmps42
      go_wp2_with fail
      refine (HD.out _ ((Frm.refl No w).alloc _) (by rw [HE.out] at HL; exact HL.out)).mono ?_
      rintro e w1 ⟨rfl, v1, h1⟩
      go_wp2_with fail
      go_end0
      exact wrote_end ((Frm.refl No w).alloc _) h1 (by rw [HE.out])
set_option maxHeartbeats 2000000 in
theorem row_any {d : Gr.Nd} (hd : PutOK d) : Prt 43 d (Gr.Pr.row Gr.AB (Gr.pr Gr.AB d)) := by
  intro w b v l x Q hW hN hQ hL
  have hk : x.k = d.k := by
    cases d
    exact hN.1
  have HA := hid (fun (W : World) (a c : UInt8) (hf : Frm No w W) hl => around_any hd a c W b v l x Q (hW.no hf) (hN.no hf) hQ hl)
  have HD := hid (fun (W : World) (hf : Frm No w W) hl => hd W b v l x Q (hW.no hf) (hN.no hf) hQ hl)
  generalize hp : Gr.pr Gr.AB d = p at HA HD hL ⊢
  have hpk : p.k = x.k := by rw [← hp, pr_k, hk]
  obtain ⟨k, s, ao, n, c⟩ := x
  obtain rfl : p.k = k := hpk
  obtain ⟨pk, L, K⟩ := p
  clear hd hW hN hQ hp hk
  unfold nvA at HA HD ⊢
  dsimp only at HA HD hL ⊢
  have HL := hid hL
  clear hL
  by_cases h4 : pk = 4
  · subst h4
    have HE : Hid (Gr.Pr.row Gr.AB ⟨4, L, K⟩ = Gr.Pr.wrap Gr.AB 40 41 L) := hid (if_pos (by show 4 = 4; decide))
    go_enter Tryd.func43, Tryd.ntmps43
    go_wp2_with fail
    refine (HA.out _ 40 41 ((Frm.refl No w).alloc _) (by rw [HE.out] at HL; exact HL.out)).mono ?_
    rintro e w1 ⟨rfl, v1, h1⟩
    go_wp2_with fail
    go_end0
    exact wrote_end ((Frm.refl No w).alloc _) h1 (by rw [HE.out])
  · have z4 : ((pk : Int) == 4) = false := by rw [beq_eq_false_iff_ne]; omega
    have HE : Hid (Gr.Pr.row Gr.AB ⟨pk, L, K⟩ = L) := hid (if_neg (by show ¬ (pk = 4); omega))
    clear h4
    go_enter Tryd.func43, Tryd.ntmps43
    go_wp2_with fail
    refine (HD.out _ ((Frm.refl No w).alloc _) (by rw [HE.out] at HL; exact HL.out)).mono ?_
    rintro e w1 ⟨rfl, v1, h1⟩
    go_wp2_with fail
    go_end0
    exact wrote_end ((Frm.refl No w).alloc _) h1 (by rw [HE.out])
end Go.Proofs.YtebocnpbiiejmaaDoor

namespace Go.Proofs.YtebocnpbiiejmaaDoor
open Go.RowKit
/-- a node of one kid -/
theorem kid_at {w : World} {Q : Nat → Prop} {k : Nat} {s : List UInt8} {d : Gr.Nd} {x : Nv} (h : NdQ w Q (.mk k s [d]) x) :
    ∃ (g c : Nat) (y : Nv), x = ⟨k, s, some ⟨g, 0, none⟩, 1, c⟩ ∧ NdQ w Q d y ∧ ∀ o j, j < 3 → (w.alloc o).cell? ⟨g, j, none⟩ = (nvC y)[j]? := by
  obtain ⟨h1, h2, hq, xs, ho, y, ys, rfl, hy, hys⟩ := h
  have hys : ys = [] := hys
  subst hys
  obtain ⟨k', s', ao, n, c⟩ := x
  obtain rfl : k' = k := h1
  obtain rfl : s' = s := h2
  obtain ⟨g, cap, e, hg, hgw, hc, hcell, hz⟩ := own_at nv_shp ho (i := 0) (by simp)
  have e : Value.slice ao n c = .slice (some ⟨g, 0, none⟩) 1 cap := e
  injection e with e1 e2 e3
  subst e1
  subst e2
  subst e3
  refine ⟨g, c, y, rfl, hy, fun o j hj => ?_⟩
  have h3 := hcell j hj
  rw [Nat.zero_mul, Nat.zero_add] at h3
  exact (((Frm.refl No w).alloc o).cell (p := ⟨g, j, none⟩) hgw (fun h => h)).trans h3
theorem one_kid {k : Nat} {s : List UInt8} {l : List Gr.Nd} (hp : Gr.proper (.mk k s l) = true) (hk : k = 5 ∨ k = 6 ∨ k = 7) : ∃ d, l = [d] ∧ Gr.proper d = true := by
  rw [proper_mk, Bool.and_eq_true] at hp
  have h1 := hp.1
  unfold Gr.okNode at h1
  rw [if_neg (by omega), if_neg (by omega), if_neg (by omega), if_neg (by omega), if_pos hk, Bool.and_eq_true] at h1
  have h2 := of_decide_eq_true h1.1
  match l, h2 with
  | [d], _ =>
    refine ⟨d, rfl, ?_⟩
    have h3 := hp.2
    simpa using h3
set_option maxHeartbeats 4000000 in
theorem atom_any {d : Gr.Nd} (hp : Gr.proper d = true) (hd : PutOK d) (hk : ∀ k ∈ d.l, PutOK k) : Prt 45 d (Gr.Pr.atom Gr.AB (Gr.pr Gr.AB d)) := by
  intro w b v l x Q hW hN hQ hL
  obtain ⟨k, s, ks⟩ := d
  have hxk : x.k = k := hN.1
  have HL := hid hL
  clear hL
  have HA := hid (fun (W : World) (a c : UInt8) (hf : Frm No w W) hl => around_any hd a c W b v l x Q (hW.no hf) (hN.no hf) hQ hl)
  have HD := hid (fun (W : World) (hf : Frm No w W) hl => hd W b v l x Q (hW.no hf) (hN.no hf) hQ hl)
  by_cases h1 : k = 1
  · subst h1
    obtain ⟨k, s', ao, n, c⟩ := x
    obtain rfl : k = 1 := hxk
    have HE : Hid (Gr.Pr.atom Gr.AB (Gr.pr Gr.AB (.mk 1 s ks)) = (Gr.pr Gr.AB (.mk 1 s ks)).put) := hid (if_pos (by show 1 = 1 ∨ 1 = 2; omega))
    clear hW hN hQ hd hk hp HA
    unfold nvA at HD ⊢
    go_enter Tryd.func45, Tryd.ntmps45
    go_wp2_with fail
    refine (HD.out _ ((Frm.refl No w).alloc _) (by rw [HE.out] at HL; exact HL.out)).mono ?_
    rintro e w1 ⟨rfl, v1, h1⟩
    go_wp2_with fail
    go_end0
    exact wrote_end ((Frm.refl No w).alloc _) h1 (by rw [HE.out])
  by_cases h2 : k = 2
  · subst h2
    obtain ⟨k, s', ao, n, c⟩ := x
    obtain rfl : k = 2 := hxk
    have HE : Hid (Gr.Pr.atom Gr.AB (Gr.pr Gr.AB (.mk 2 s ks)) = (Gr.pr Gr.AB (.mk 2 s ks)).put) := hid (if_pos (by show 2 = 1 ∨ 2 = 2; omega))
    clear hW hN hQ hd hk hp HA
    unfold nvA at HD ⊢
    go_enter Tryd.func45, Tryd.ntmps45
    go_wp2_with fail
    refine (HD.out _ ((Frm.refl No w).alloc _) (by rw [HE.out] at HL; exact HL.out)).mono ?_
    rintro e w1 ⟨rfl, v1, h1⟩
    go_wp2_with fail
    go_end0
    exact wrote_end ((Frm.refl No w).alloc _) h1 (by rw [HE.out])
  by_cases h5 : k = 5
  · subst h5
    obtain ⟨d, rfl, hpd⟩ := one_kid hp (by omega)
    obtain ⟨g, c, y, rfl, hy, hc⟩ := kid_at hN
    have HB := hid (fun (W : World) (hf : Frm No w W) hl => around_any (hk d (by simp [Gr.Nd.l])) 91 93 W b v l y Q (hW.no hf) (hy.no hf) hQ hl)
    have HE : Hid (Gr.Pr.atom Gr.AB (Gr.pr Gr.AB (.mk 5 s [d])) = Gr.Pr.wrap Gr.AB 91 93 (Gr.pr Gr.AB d).put) := hid rfl
    have c0 := fun o => hc o 0 (by decide)
    have c1 := fun o => hc o 1 (by decide)
    have c2 := fun o => hc o 2 (by decide)
    simp only [nvC, List.getElem?_cons_zero, List.getElem?_cons_succ] at c0 c1 c2
    clear hW hN hQ hd hk hp HA HD hy hc hpd
    unfold nvA at HB ⊢
    dsimp only at HB ⊢
    go_enter Tryd.func45, Tryd.ntmps45
    go_wp2_with fail
    refine (HB.out _ ((Frm.refl No w).alloc _) (by rw [HE.out] at HL; exact HL.out)).mono ?_
    rintro e w1 ⟨rfl, v1, h1⟩
    go_wp2_with fail
    go_end0
    exact wrote_end ((Frm.refl No w).alloc _) h1 (by rw [HE.out])
  by_cases h6 : k = 6
  · subst h6
    obtain ⟨d, rfl, hpd⟩ := one_kid hp (by omega)
    obtain ⟨g, c, y, rfl, hy, hc⟩ := kid_at hN
    have HB := hid (fun (W : World) (hf : Frm No w W) hl => around_any (hk d (by simp [Gr.Nd.l])) 123 125 W b v l y Q (hW.no hf) (hy.no hf) hQ hl)
    have HE : Hid (Gr.Pr.atom Gr.AB (Gr.pr Gr.AB (.mk 6 s [d])) = Gr.Pr.wrap Gr.AB 123 125 (Gr.pr Gr.AB d).put) := hid rfl
    have c0 := fun o => hc o 0 (by decide)
    have c1 := fun o => hc o 1 (by decide)
    have c2 := fun o => hc o 2 (by decide)
    simp only [nvC, List.getElem?_cons_zero, List.getElem?_cons_succ] at c0 c1 c2
    clear hW hN hQ hd hk hp HA HD hy hc hpd
    unfold nvA at HB ⊢
    dsimp only at HB ⊢
    go_enter Tryd.func45, Tryd.ntmps45
    go_wp2_with fail
    refine (HB.out _ ((Frm.refl No w).alloc _) (by rw [HE.out] at HL; exact HL.out)).mono ?_
    rintro e w1 ⟨rfl, v1, h1⟩
    go_wp2_with fail
    go_end0
    exact wrote_end ((Frm.refl No w).alloc _) h1 (by rw [HE.out])
  have HE : Hid (Gr.Pr.atom Gr.AB (Gr.pr Gr.AB (.mk k s ks)) = Gr.Pr.wrap Gr.AB 40 41 (Gr.pr Gr.AB (.mk k s ks)).put) := hid (by
    unfold Gr.Pr.atom
    rw [if_neg (by show ¬ (k = 1 ∨ k = 2); omega), if_neg (by show ¬ k = 5; omega), if_neg (by show ¬ k = 6; omega)])
  have z1 : ((k : Int) == 1) = false := by rw [beq_eq_false_iff_ne]; omega
  have z2 : ((k : Int) == 2) = false := by rw [beq_eq_false_iff_ne]; omega
  have z5 : ((k : Int) == 5) = false := by rw [beq_eq_false_iff_ne]; omega
  have z6 : ((k : Int) == 6) = false := by rw [beq_eq_false_iff_ne]; omega
  obtain ⟨k, s', ao, n, c⟩ := x
  obtain rfl : k = _ := hxk
  clear hW hN hQ hd hk hp HD h1 h2 h5 h6
  unfold nvA at HA ⊢
  dsimp only at HA z1 z2 z5 z6 ⊢
  go_enter Tryd.func45, Tryd.ntmps45
  go_wp2_with fail
  refine (HA.out _ 40 41 ((Frm.refl No w).alloc _) (by rw [HE.out] at HL; exact HL.out)).mono ?_
  rintro e w1 ⟨rfl, v1, h1⟩
  go_wp2_with fail
  go_end0
  exact wrote_end ((Frm.refl No w).alloc _) h1 (by rw [HE.out])
set_option maxHeartbeats 4000000 in
/-- a node with a sign behind it, or between brackets with it -/
theorem again_any {d : Gr.Nd} (hp : Gr.proper d = true) (hd : PutOK d) (hk : ∀ k ∈ d.l, PutOK k) (a m z : UInt8) (w : World) (b : Nat) (v : Value) (l : List UInt8) (x : Nv) (Q : Nat → Prop) (hW : Wri w b v l) (hN : NdQ w Q d x) (hQ : ∀ k, Q k → k < b) (hL : l.length + (Gr.Pr.again Gr.AB a m z (Gr.pr Gr.AB d)).length ≤ 140737488355328) :
    Calls Tryd.prog 44 #[.pointer (some ⟨b, 0, none⟩), nvA x, .string ⟨#[a, m, z]⟩] w (WroteP b w v (l ++ Gr.Pr.again Gr.AB a m z (Gr.pr Gr.AB d)) (.tuple #[])) := by
  obtain ⟨k, s, ks⟩ := d
  have hxk : x.k = k := hN.1
  have HL := hid hL
  clear hL
  have HA := hid (fun (W : World) (hf : Frm No w W) hl => around_any hd a z W b v l x Q (hW.no hf) (hN.no hf) hQ hl)
  have HT := hid (fun (W : World) (hf : Frm No w W) hl => atom_any hp hd hk W b v l x Q (hW.no hf) (hN.no hf) hQ hl)
  obtain ⟨k, s', ao, n, c⟩ := x
  obtain rfl : k = _ := hxk
  clear hW hN hQ hd hk hp
  unfold nvA at HA HT ⊢
  dsimp only at HA HT HL ⊢
  by_cases h1 : k = 1
  · subst h1
    have HE : Hid (Gr.Pr.again Gr.AB a m z (Gr.pr Gr.AB (.mk 1 s ks)) = Gr.Pr.atom Gr.AB (Gr.pr Gr.AB (.mk 1 s ks)) ++ [m]) := hid (if_pos (by show 1 = 1 ∨ 1 = 2 ∨ 1 = 5 ∨ 1 = 6; omega))
    clear HA
    have HL2 : Hid (l.length + (Gr.Pr.atom Gr.AB (Gr.pr Gr.AB (.mk 1 s ks))).length + 1 ≤ 140737488355328) := hid (by have h := HL.out; rw [HE.out, List.length_append] at h; simp at h; omega)
    generalize Gr.Pr.atom Gr.AB (Gr.pr Gr.AB (.mk 1 s ks)) = T at HT HE HL2
    go_enter Tryd.func44, Tryd.ntmps44
    go_wp2_with fail
    refine (HT.out _ ((Frm.refl No w).alloc _) (by have := HL2.out; omega)).mono ?_
    rintro e w1 ⟨rfl, v1, h1⟩
    have H1 := hid h1
    clear h1
    have HC := hid (fun (W : World) (hf : Frm No w1 W) => wbyte_any b v1 _ m W (H1.out.at_.no hf) (by have := HL2.out; rw [List.length_append]; omega))
    go_wp2_with fail
    go_region_with (first | (go_at_call 41; refine (HC.out _ (by repeat (first | with_reducible exact Frm.refl _ _ | with_reducible refine Frm.drew ?_ | with_reducible refine Frm.alloc ?_ _))).mono ?_; rintro e w2 ⟨rfl, v2, h2⟩))
    all_goals
      go_wp2_with fail
      go_end0
      exact wrote_end ((Frm.refl No w).alloc _) (H1.out.trans (Wrote.behind (Frm.drew (Frm.refl No w1)) h2)) (by rw [HE.out]; simp)
  · have z1 : ((k : Int) == 1) = false := by rw [beq_eq_false_iff_ne]; omega
    by_cases h2 : k = 2
    · subst h2
      have HE : Hid (Gr.Pr.again Gr.AB a m z (Gr.pr Gr.AB (.mk 2 s ks)) = Gr.Pr.atom Gr.AB (Gr.pr Gr.AB (.mk 2 s ks)) ++ [m]) := hid (if_pos (by show 2 = 1 ∨ 2 = 2 ∨ 2 = 5 ∨ 2 = 6; omega))
      clear HA
      have HL2 : Hid (l.length + (Gr.Pr.atom Gr.AB (Gr.pr Gr.AB (.mk 2 s ks))).length + 1 ≤ 140737488355328) := hid (by have h := HL.out; rw [HE.out, List.length_append] at h; simp at h; omega)
      generalize Gr.Pr.atom Gr.AB (Gr.pr Gr.AB (.mk 2 s ks)) = T at HT HE HL2
      go_enter Tryd.func44, Tryd.ntmps44
      go_wp2_with fail
      refine (HT.out _ ((Frm.refl No w).alloc _) (by have := HL2.out; omega)).mono ?_
      rintro e w1 ⟨rfl, v1, h1⟩
      have H1 := hid h1
      clear h1
      have HC := hid (fun (W : World) (hf : Frm No w1 W) => wbyte_any b v1 _ m W (H1.out.at_.no hf) (by have := HL2.out; rw [List.length_append]; omega))
      go_wp2_with fail
      go_region_with (first | (go_at_call 41; refine (HC.out _ (by repeat (first | with_reducible exact Frm.refl _ _ | with_reducible refine Frm.drew ?_ | with_reducible refine Frm.alloc ?_ _))).mono ?_; rintro e w2 ⟨rfl, v2, h2⟩))
      all_goals
        go_wp2_with fail
        go_end0
        exact wrote_end ((Frm.refl No w).alloc _) (H1.out.trans (Wrote.behind (Frm.drew (Frm.refl No w1)) h2)) (by rw [HE.out]; simp)
    · have z2 : ((k : Int) == 2) = false := by rw [beq_eq_false_iff_ne]; omega
      by_cases h5 : k = 5
      · subst h5
        have HE : Hid (Gr.Pr.again Gr.AB a m z (Gr.pr Gr.AB (.mk 5 s ks)) = Gr.Pr.atom Gr.AB (Gr.pr Gr.AB (.mk 5 s ks)) ++ [m]) := hid (if_pos (by show 5 = 1 ∨ 5 = 2 ∨ 5 = 5 ∨ 5 = 6; omega))
        clear HA
        have HL2 : Hid (l.length + (Gr.Pr.atom Gr.AB (Gr.pr Gr.AB (.mk 5 s ks))).length + 1 ≤ 140737488355328) := hid (by have h := HL.out; rw [HE.out, List.length_append] at h; simp at h; omega)
        generalize Gr.Pr.atom Gr.AB (Gr.pr Gr.AB (.mk 5 s ks)) = T at HT HE HL2
        go_enter Tryd.func44, Tryd.ntmps44
        go_wp2_with fail
        refine (HT.out _ ((Frm.refl No w).alloc _) (by have := HL2.out; omega)).mono ?_
        rintro e w1 ⟨rfl, v1, h1⟩
        have H1 := hid h1
        clear h1
        have HC := hid (fun (W : World) (hf : Frm No w1 W) => wbyte_any b v1 _ m W (H1.out.at_.no hf) (by have := HL2.out; rw [List.length_append]; omega))
        go_wp2_with fail
        go_region_with (first | (go_at_call 41; refine (HC.out _ (by repeat (first | with_reducible exact Frm.refl _ _ | with_reducible refine Frm.drew ?_ | with_reducible refine Frm.alloc ?_ _))).mono ?_; rintro e w2 ⟨rfl, v2, h2⟩))
        all_goals
          go_wp2_with fail
          go_end0
          exact wrote_end ((Frm.refl No w).alloc _) (H1.out.trans (Wrote.behind (Frm.drew (Frm.refl No w1)) h2)) (by rw [HE.out]; simp)
      · have z5 : ((k : Int) == 5) = false := by rw [beq_eq_false_iff_ne]; omega
        by_cases h6 : k = 6
        · subst h6
          have HE : Hid (Gr.Pr.again Gr.AB a m z (Gr.pr Gr.AB (.mk 6 s ks)) = Gr.Pr.atom Gr.AB (Gr.pr Gr.AB (.mk 6 s ks)) ++ [m]) := hid (if_pos (by show 6 = 1 ∨ 6 = 2 ∨ 6 = 5 ∨ 6 = 6; omega))
          clear HA
          have HL2 : Hid (l.length + (Gr.Pr.atom Gr.AB (Gr.pr Gr.AB (.mk 6 s ks))).length + 1 ≤ 140737488355328) := hid (by have h := HL.out; rw [HE.out, List.length_append] at h; simp at h; omega)
          generalize Gr.Pr.atom Gr.AB (Gr.pr Gr.AB (.mk 6 s ks)) = T at HT HE HL2
          go_enter Tryd.func44, Tryd.ntmps44
          go_wp2_with fail
          refine (HT.out _ ((Frm.refl No w).alloc _) (by have := HL2.out; omega)).mono ?_
          rintro e w1 ⟨rfl, v1, h1⟩
          have H1 := hid h1
          clear h1
          have HC := hid (fun (W : World) (hf : Frm No w1 W) => wbyte_any b v1 _ m W (H1.out.at_.no hf) (by have := HL2.out; rw [List.length_append]; omega))
          go_wp2_with fail
          go_region_with (first | (go_at_call 41; refine (HC.out _ (by repeat (first | with_reducible exact Frm.refl _ _ | with_reducible refine Frm.drew ?_ | with_reducible refine Frm.alloc ?_ _))).mono ?_; rintro e w2 ⟨rfl, v2, h2⟩))
          all_goals
            go_wp2_with fail
            go_end0
            exact wrote_end ((Frm.refl No w).alloc _) (H1.out.trans (Wrote.behind (Frm.drew (Frm.refl No w1)) h2)) (by rw [HE.out]; simp)
        · have z6 : ((k : Int) == 6) = false := by rw [beq_eq_false_iff_ne]; omega
          have HE : Hid (Gr.Pr.again Gr.AB a m z (Gr.pr Gr.AB (.mk k s ks)) = Gr.Pr.wrap Gr.AB a z (Gr.pr Gr.AB (.mk k s ks)).put) := hid (if_neg (by show ¬ (k = 1 ∨ k = 2 ∨ k = 5 ∨ k = 6); omega))
          clear HT h1 h2 h5 h6
          have HR := hid (fun (W : World) (hf : Frm No w W) => HA.out W hf (by rw [HE.out] at HL; exact HL.out))
          clear HA
          go_enter Tryd.func44, Tryd.ntmps44
          go_wp2_with fail
          go_region_with (first | (go_at_call 67; refine (HR.out _ (by repeat (first | with_reducible exact Frm.refl _ _ | with_reducible refine Frm.drew ?_ | with_reducible refine Frm.alloc ?_ _))).mono ?_; rintro e w2 ⟨rfl, v2, h2⟩))
          all_goals
            go_wp2_with fail
            go_end0
            exact wrote_end (Frm.drew ((Frm.refl No w).alloc _)) h2 (by rw [HE.out])
end Go.Proofs.YtebocnpbiiejmaaDoor
