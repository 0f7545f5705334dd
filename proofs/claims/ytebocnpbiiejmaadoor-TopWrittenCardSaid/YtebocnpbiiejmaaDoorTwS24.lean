/- Can a node be in a text: the walk of proper, and of Proper. Can a node be in a text: the walk of proper. Printed by a program (tws3.py). Can a grammar be a text: Proper, of one that can. -/
import Derived.Test.YtebocnpbiiejmaaDoorTwS1
import Derived.Test.YtebocnpbiiejmaaDoorTwP7
namespace Go.Proofs.YtebocnpbiiejmaaDoor
open Go.RowKit
/-- a node's value reads as a tree -/
def ProperOK (d : Gr.Nd) : Prop := ∀ (w : World) (Q : Nat → Prop) (x : Nv), NdQ w Q d x →
  Calls Tryd.prog 38 #[nvA x] w fun e w' => e = .returned (.bool (Gr.proper d)) ∧ Frm No w w'
theorem NdRs.at_ {w : World} {Q : Nat → Prop} : ∀ {l : List Gr.Nd} {xs : List Nv}, NdRs w Q l xs → ∀ i (hi : i < l.length) (hx : i < xs.length), NdQ w Q l[i] xs[i] := by
  intro l
  induction l with
  | nil => intro xs _ i hi; cases hi
  | cons d l ih =>
    intro xs h i hi hx
    obtain ⟨x, ys, rfl, h1, h2⟩ := h
    cases i with
    | zero => exact h1
    | succ i => exact ih h2 i (by simpa using hi) (by simpa using hx)
theorem own_le {w : World} {base : Nat} {e : TypeId} {size : Nat} {v : Value} {n : Nat} {xs : List Value} (h : w.ownsRow base e size v n xs) : n ≤ 9223372036854775807 := by
  rcases h.2 with ⟨_, h2⟩ | ⟨g, cap, cur, _, _, _, h1, h2, _⟩
  · omega
  · unfold maxLen at h2; omega
set_option maxHeartbeats 2000000 in
/-- the closure: no such node -/
theorem notproper_any {d : Gr.Nd} (hd : ProperOK d) (w : World) (Q : Nat → Prop) (x : Nv) (hx : NdQ w Q d x) :
    Calls Tryd.prog 64 #[nvA x] w fun e w' => e = .returned (.bool (!Gr.proper d)) ∧ Frm No w w' := by
  have HD := hid (fun W (hW : Frm No w W) => hd W Q x (NdQ.frm hW (fun _ _ _ h => h) d x hx))
  generalize Gr.proper d = p at HD ⊢
  unfold nvA at HD ⊢
  clear hx hd
  go_enter Tryd.func64, Tryd.ntmps64
  go_wp2_with (go_at_call 38; refine (HD.out _ ((Frm.refl No w).alloc _)).mono ?_; rintro e w1 ⟨rfl, hF1⟩)
  go_ret
  exact ⟨rfl, ((Frm.refl No w).alloc _).thenNo hF1⟩
set_option maxRecDepth 100000 in
set_option maxHeartbeats 4000000 in
theorem if_nodes (l : List Gr.Nd) (xs : List Nv) (v : Value) (Q : Nat → Prop) (w : World) (ho : w.ownsRow 0 41 3 v xs.length (rows nvC xs)) (hk : NdRs w Q l xs) (hl : ∀ d ∈ l, ProperOK d) :
    Calls Tryd.prog 75 #[v, .func (.func 64) #[] #[]] w fun e w' => ∃ i : Int, e = .returned (.int .i64 i) ∧ decide (0 ≤ i) = l.any (fun d => !Gr.proper d) ∧ Frm No w w' := by
  have hlen := NdRs.len hk
  have h63 := own_le ho
  have HQ := hid (fun i (hi : i < l.length) (hx : i < xs.length) (w1 : World) (hw : Frm No w w1) => notproper_any (hl l[i] (List.getElem_mem hi)) w1 Q xs[i] (NdQ.frm hw (fun _ _ _ h => h) _ _ (NdRs.at_ hk i hi hx)))
  have hv := rdl_own nv_shp ho
  have HLEN := hid hlen
  clear hl hk ho hlen
  obtain ⟨ao, c, rfl⟩ := hv.shape
  go_enter Tryd.func75, Tryd.ntmps75
  go_wp2_with fail
  go_loopw [5, 8] (fun _ i wr => ∃ k : Nat, k ≤ xs.length ∧ i = .int .i64 (k : Int) ∧ (l.take k).any (fun d => !Gr.proper d) = false ∧ Frm No w wr)
    (fun _ i _ => xs.length - (intOf i).toNat)
  case atStart => exact ⟨0, by omega, rfl, rfl, Frm.refl _ _⟩
  case round =>
    obtain ⟨k, hk, rfl, hb, hf⟩ := hrel
    have HB := hid hb
    have HF := hid hf
    clear hb
    by_cases hkl : k < xs.length
    · have hkz : (k : Int) < (xs.length : Int) := by omega
      have hkd : k < l.length := by have := HLEN.out; omega
      obtain ⟨b, o, rfl, hc⟩ := hv.at_ (by omega)
      have z := hc k hkl
      have HS : Hid ((l.take (k + 1)).any (fun d => !Gr.proper d) = !Gr.proper l[k]) := hid (by
        rw [List.take_succ_eq_append_getElem hkd, List.any_append, HB.out]
        simp)
      have HM : Hid ((!Gr.proper l[k]) = true → l.any (fun d => !Gr.proper d) = true) := hid (fun e => List.any_eq_true.2 ⟨l[k], List.getElem_mem hkd, e⟩)
      have HX := hid (HQ.out k hkd hkl wr hf)
      generalize (!Gr.proper l[k]) = q at HS HM HX
      obtain ⟨x, hxk⟩ : ∃ x, xs[k] = x := ⟨_, rfl⟩
      rw [hxk] at z HX
      have hbw : b < w.heap.size := World.block_lt_of_cell? (u := .int .i64 (x.k : Int)) w ⟨b, o + (k * 3 + 0), none⟩ (by rw [z 0 (by omega)]; rfl)
      have r0 : wr.cell? ⟨b, o + k * 3, none⟩ = (nvC x)[0]? := (hf.cell hbw (fun h => h)).trans (z 0 (by omega))
      have r1 : wr.cell? ⟨b, o + k * 3 + 1, none⟩ = (nvC x)[1]? := (hf.cell hbw (fun h => h)).trans (z 1 (by omega))
      have r2 : wr.cell? ⟨b, o + k * 3 + 2, none⟩ = (nvC x)[2]? := (hf.cell hbw (fun h => h)).trans (z 2 (by omega))
      simp only [nvC, List.getElem?_cons_zero, List.getElem?_cons_succ] at r0 r1 r2
      unfold nvA at HX
      clear hc hv hf z hxk
      cases q
      · go_wp2_with (go_at_call 64; refine HX.out.mono ?_; rintro e w1 ⟨rfl, hf1⟩)
        exact ⟨⟨k + 1, by omega, by go_num, HS.out, HF.out.thenNo hf1⟩, by simp [intOf]; omega⟩
      · go_wp2_with (go_at_call 64; refine HX.out.mono ?_; rintro e w1 ⟨rfl, hf1⟩)
        go_ret
        exact ⟨_, rfl, by rw [HM.out trivial]; simp, HF.out.thenNo hf1⟩
    · obtain rfl : k = xs.length := by omega
      rw [HLEN.out, List.take_length] at HB
      have hpz : ¬ (xs.length : Int) < (xs.length : Int) := by omega
      clear hf
      go_wp2_with fail
      go_ret
      exact ⟨_, rfl, by rw [HB.out]; rfl, HF.out⟩
theorem cf_nodes (l : List Gr.Nd) (xs : List Nv) (v : Value) (Q : Nat → Prop) (w : World) (ho : w.ownsRow 0 41 3 v xs.length (rows nvC xs)) (hk : NdRs w Q l xs) (hl : ∀ d ∈ l, ProperOK d) :
    Calls Tryd.prog 63 #[v, .func (.func 64) #[] #[]] w fun e w' => e = .returned (.bool (l.any (fun d => !Gr.proper d))) ∧ Frm No w w' := by
  have HI := hid (if_nodes l xs v Q w ho hk hl)
  obtain ⟨ao, c, rfl⟩ := ownsRow_shape ho
  clear hl hk ho
  go_enter Tryd.func63, Tryd.ntmps63
  go_wp2_with (go_at_call 75; refine HI.out.mono ?_; rintro e w1 ⟨i, rfl, hi, hf⟩)
  go_ret
  exact ⟨by rw [← hi]; rfl, hf⟩
end Go.Proofs.YtebocnpbiiejmaaDoor

namespace Go.Proofs.YtebocnpbiiejmaaDoor
open Go.RowKit
theorem proper_mk (k : Nat) (s : List UInt8) (l : List Gr.Nd) : Gr.proper (.mk k s l) = (Gr.okNode k s l.length && !(l.any (fun d => !Gr.proper d))) := by
  show (Gr.okNode k s l.length && Gr.propers l) = _
  rw [Gr.propers_eq]
  congr 1
  induction l with
  | nil => rfl
  | cons a l ih => rw [List.all_cons, List.any_cons, ih]; cases Gr.proper a <;> simp
set_option maxHeartbeats 4000000 in
theorem proper_ref (s : List UInt8) (n : Nat) (q G : Bool) (ao : Option Addr) (c : Nat) (w : World) (hG : G = (Gr.okNode 1 s n && !q)) (hq0 : n = 0 → q = false)
    (HC : Hid (∀ W, Frm No w W → Calls Tryd.prog 63 #[.slice ao n c, .func (.func 64) #[] #[]] W fun e w' => e = .returned (.bool q) ∧ Frm No W w')) :
    Calls Tryd.prog 38 #[.agg #[.int .i64 1, .string ⟨s.toArray⟩, .slice ao n c]] w fun e w' => e = .returned (.bool G) ∧ Frm No w w' := by
  have HG := hid hG
  have HQ := hid hq0
  clear hG hq0
  have HD := hid (fun W => good_any s W)
  have E : Hid (Gr.okNode 1 s n = (Gr.goodName s && decide (n = 0))) := hid rfl
  generalize Gr.goodName s = g at HD E
  cases g with
  | false =>
    go_enter Tryd.func38, Tryd.ntmps38
    go_wp2_with fail
    refine (HD.out _).mono ?_
    rintro e w1 ⟨rfl, hF1⟩
    have hFF : Frm No w w1 := Frm.thenNo (by repeat (first | assumption | exact Frm.refl _ _ | refine Frm.drew ?_ | refine Frm.alloc ?_ _)) hF1
    go_wp2_with fail
    obtain rfl : G = false := by rw [HG.out]; rw [E.out]; rfl
    go_ret
    exact ⟨rfl, hFF⟩
  | true =>
    by_cases hn : n = 0
    · subst hn
      go_enter Tryd.func38, Tryd.ntmps38
      go_wp2_with fail
      refine (HD.out _).mono ?_
      rintro e w1 ⟨rfl, hF1⟩
      have hFF : Frm No w w1 := Frm.thenNo (by repeat (first | assumption | exact Frm.refl _ _ | refine Frm.drew ?_ | refine Frm.alloc ?_ _)) hF1
      have b2 : w1.cell? ⟨w.heap.size, 2, none⟩ = some (.slice ao 0 c) := hF1.box 2
      go_wp2_with fail
      obtain rfl : G = true := by rw [HG.out]; rw [E.out, HQ.out (by simp)]; rfl
      go_ret
      exact ⟨rfl, hFF⟩
    · have hz : ((n : Int) == 0) = false := by rw [beq_eq_false_iff_ne]; omega
      have HN := hid hn
      clear hn
      go_enter Tryd.func38, Tryd.ntmps38
      go_wp2_with fail
      refine (HD.out _).mono ?_
      rintro e w1 ⟨rfl, hF1⟩
      have hFF : Frm No w w1 := Frm.thenNo (by repeat (first | assumption | exact Frm.refl _ _ | refine Frm.drew ?_ | refine Frm.alloc ?_ _)) hF1
      have b2 : w1.cell? ⟨w.heap.size, 2, none⟩ = some (.slice ao n c) := hF1.box 2
      go_wp2_with fail
      obtain rfl : G = false := by rw [HG.out]; rw [E.out, _root_.decide_eq_false HN.out]; rfl
      go_ret
      exact ⟨rfl, hFF⟩
set_option maxHeartbeats 4000000 in
theorem proper_lit (s : List UInt8) (n : Nat) (q G : Bool) (ao : Option Addr) (c : Nat) (w : World) (hG : G = (Gr.okNode 2 s n && !q)) (hq0 : n = 0 → q = false)
    (HC : Hid (∀ W, Frm No w W → Calls Tryd.prog 63 #[.slice ao n c, .func (.func 64) #[] #[]] W fun e w' => e = .returned (.bool q) ∧ Frm No W w')) :
    Calls Tryd.prog 38 #[.agg #[.int .i64 2, .string ⟨s.toArray⟩, .slice ao n c]] w fun e w' => e = .returned (.bool G) ∧ Frm No w w' := by
  have HG := hid hG
  have HQ := hid hq0
  clear hG hq0
  cases s with
  | nil =>
    go_enter Tryd.func38, Tryd.ntmps38
    go_wp2_with fail
    obtain rfl : G = false := by rw [HG.out]; rfl
    go_ret
    exact ⟨rfl, (by repeat (first | assumption | exact Frm.refl _ _ | refine Frm.drew ?_ | refine Frm.alloc ?_ _))⟩
  | cons b r =>
    by_cases hl : (b :: r).length ≤ 16
    · have hl' : (r.length : Int) + 1 ≤ 16 := by rw [List.length_cons] at hl; omega
      have HL := hid hl
      clear hl
      by_cases hn : n = 0
      · subst hn
        go_enter Tryd.func38, Tryd.ntmps38
        go_wp2_with fail
        obtain rfl : G = true := by rw [HG.out]; rw [HQ.out (by simp)]; show (decide (b :: r ≠ []) && decide ((b :: r).length ≤ 16) && decide (0 = 0) && !false) = true; rw [_root_.decide_eq_true HL.out]; rfl
        go_ret
        exact ⟨rfl, (by repeat (first | assumption | exact Frm.refl _ _ | refine Frm.drew ?_ | refine Frm.alloc ?_ _))⟩
      · have hz : ((n : Int) == 0) = false := by rw [beq_eq_false_iff_ne]; omega
        have HN := hid hn
        clear hn
        go_enter Tryd.func38, Tryd.ntmps38
        go_wp2_with fail
        obtain rfl : G = false := by rw [HG.out]; show (decide (b :: r ≠ []) && decide ((b :: r).length ≤ 16) && decide (n = 0) && !q) = false; rw [_root_.decide_eq_false HN.out, Bool.and_false, Bool.false_and]
        go_ret
        exact ⟨rfl, (by repeat (first | assumption | exact Frm.refl _ _ | refine Frm.drew ?_ | refine Frm.alloc ?_ _))⟩
    · have hl' : ¬ (r.length : Int) + 1 ≤ 16 := by rw [List.length_cons] at hl; omega
      have HL := hid hl
      clear hl
      go_enter Tryd.func38, Tryd.ntmps38
      go_wp2_with fail
      obtain rfl : G = false := by rw [HG.out]; show (decide (b :: r ≠ []) && decide ((b :: r).length ≤ 16) && decide (n = 0) && !q) = false; rw [_root_.decide_eq_false HL.out, Bool.and_false, Bool.false_and, Bool.false_and]
      go_ret
      exact ⟨rfl, (by repeat (first | assumption | exact Frm.refl _ _ | refine Frm.drew ?_ | refine Frm.alloc ?_ _))⟩
set_option maxHeartbeats 4000000 in
theorem proper_seq (s : List UInt8) (n : Nat) (q G : Bool) (ao : Option Addr) (c : Nat) (w : World) (hG : G = (Gr.okNode 3 s n && !q)) (hq0 : n = 0 → q = false)
    (HC : Hid (∀ W, Frm No w W → Calls Tryd.prog 63 #[.slice ao n c, .func (.func 64) #[] #[]] W fun e w' => e = .returned (.bool q) ∧ Frm No W w')) :
    Calls Tryd.prog 38 #[.agg #[.int .i64 3, .string ⟨s.toArray⟩, .slice ao n c]] w fun e w' => e = .returned (.bool G) ∧ Frm No w w' := by
  have HG := hid hG
  have HQ := hid hq0
  clear hG hq0
  have E : Hid (Gr.okNode 3 s n = (decide (n ≠ 1) && decide (s = []))) := hid rfl
  by_cases hn : n ≠ 1
  · have hz : ((n : Int) != 1) = true := by rw [bne_iff_ne]; omega
    have E1 : Hid (Gr.okNode 3 s n = decide (s = [])) := hid (by rw [E.out, _root_.decide_eq_true hn, Bool.true_and])
    clear hn
    cases s with
    | nil =>
      go_enter Tryd.func38, Tryd.ntmps38
      go_wp2_with fail
      refine (HC.out _ (by repeat (first | assumption | exact Frm.refl _ _ | refine Frm.drew ?_ | refine Frm.alloc ?_ _))).mono ?_
      rintro e w1 ⟨rfl, hF1⟩
      have hFF : Frm No w w1 := Frm.thenNo (by repeat (first | assumption | exact Frm.refl _ _ | refine Frm.drew ?_ | refine Frm.alloc ?_ _)) hF1
      cases q
      · go_wp2_with fail
        obtain rfl : G = true := by rw [HG.out]; rw [E1.out]; rfl
        go_ret
        exact ⟨rfl, hFF⟩
      · go_wp2_with fail
        obtain rfl : G = false := by rw [HG.out]; rw [E1.out]; rfl
        go_ret
        exact ⟨rfl, hFF⟩
    | cons b r =>
      go_enter Tryd.func38, Tryd.ntmps38
      go_wp2_with fail
      obtain rfl : G = false := by rw [HG.out]; rw [E1.out]; rfl
      go_ret
      exact ⟨rfl, (by repeat (first | assumption | exact Frm.refl _ _ | refine Frm.drew ?_ | refine Frm.alloc ?_ _))⟩
  · have hn1 : n = 1 := by omega
    have E0 : Hid (Gr.okNode 3 s n = false) := hid (by rw [E.out, _root_.decide_eq_false hn, Bool.false_and])
    subst hn1
    clear hn
    go_enter Tryd.func38, Tryd.ntmps38
    go_wp2_with fail
    obtain rfl : G = false := by rw [HG.out]; rw [E0.out]; rfl
    go_ret
    exact ⟨rfl, (by repeat (first | assumption | exact Frm.refl _ _ | refine Frm.drew ?_ | refine Frm.alloc ?_ _))⟩
set_option maxHeartbeats 4000000 in
theorem proper_alt (s : List UInt8) (n : Nat) (q G : Bool) (ao : Option Addr) (c : Nat) (w : World) (hG : G = (Gr.okNode 4 s n && !q)) (hq0 : n = 0 → q = false)
    (HC : Hid (∀ W, Frm No w W → Calls Tryd.prog 63 #[.slice ao n c, .func (.func 64) #[] #[]] W fun e w' => e = .returned (.bool q) ∧ Frm No W w')) :
    Calls Tryd.prog 38 #[.agg #[.int .i64 4, .string ⟨s.toArray⟩, .slice ao n c]] w fun e w' => e = .returned (.bool G) ∧ Frm No w w' := by
  have HG := hid hG
  have HQ := hid hq0
  clear hG hq0
  have E : Hid (Gr.okNode 4 s n = (decide (1 < n) && decide (s = []))) := hid rfl
  by_cases hn : 1 < n
  · have hz : (1 : Int) < (n : Int) := by omega
    have E1 : Hid (Gr.okNode 4 s n = decide (s = [])) := hid (by rw [E.out, _root_.decide_eq_true hn, Bool.true_and])
    clear hn
    cases s with
    | nil =>
      go_enter Tryd.func38, Tryd.ntmps38
      go_wp2_with fail
      refine (HC.out _ (by repeat (first | assumption | exact Frm.refl _ _ | refine Frm.drew ?_ | refine Frm.alloc ?_ _))).mono ?_
      rintro e w1 ⟨rfl, hF1⟩
      have hFF : Frm No w w1 := Frm.thenNo (by repeat (first | assumption | exact Frm.refl _ _ | refine Frm.drew ?_ | refine Frm.alloc ?_ _)) hF1
      cases q
      · go_wp2_with fail
        obtain rfl : G = true := by rw [HG.out]; rw [E1.out]; rfl
        go_ret
        exact ⟨rfl, hFF⟩
      · go_wp2_with fail
        obtain rfl : G = false := by rw [HG.out]; rw [E1.out]; rfl
        go_ret
        exact ⟨rfl, hFF⟩
    | cons b r =>
      go_enter Tryd.func38, Tryd.ntmps38
      go_wp2_with fail
      obtain rfl : G = false := by rw [HG.out]; rw [E1.out]; rfl
      go_ret
      exact ⟨rfl, (by repeat (first | assumption | exact Frm.refl _ _ | refine Frm.drew ?_ | refine Frm.alloc ?_ _))⟩
  · have hz : ¬ (1 : Int) < (n : Int) := by omega
    have E0 : Hid (Gr.okNode 4 s n = false) := hid (by rw [E.out, _root_.decide_eq_false hn, Bool.false_and])
    clear hn
    go_enter Tryd.func38, Tryd.ntmps38
    go_wp2_with fail
    obtain rfl : G = false := by rw [HG.out]; rw [E0.out]; rfl
    go_ret
    exact ⟨rfl, (by repeat (first | assumption | exact Frm.refl _ _ | refine Frm.drew ?_ | refine Frm.alloc ?_ _))⟩
set_option maxHeartbeats 4000000 in
theorem proper_opt (s : List UInt8) (n : Nat) (q G : Bool) (ao : Option Addr) (c : Nat) (w : World) (hG : G = (Gr.okNode 5 s n && !q)) (hq0 : n = 0 → q = false)
    (HC : Hid (∀ W, Frm No w W → Calls Tryd.prog 63 #[.slice ao n c, .func (.func 64) #[] #[]] W fun e w' => e = .returned (.bool q) ∧ Frm No W w')) :
    Calls Tryd.prog 38 #[.agg #[.int .i64 5, .string ⟨s.toArray⟩, .slice ao n c]] w fun e w' => e = .returned (.bool G) ∧ Frm No w w' := by
  have HG := hid hG
  have HQ := hid hq0
  clear hG hq0
  have E : Hid (Gr.okNode 5 s n = (decide (n = 1) && decide (s = []))) := hid rfl
  by_cases hn : n = 1
  · have hz : ((n : Int) == 1) = true := by rw [hn]; rfl
    have E1 : Hid (Gr.okNode 5 s n = decide (s = [])) := hid (by rw [E.out, _root_.decide_eq_true hn, Bool.true_and])
    clear hn
    cases s with
    | nil =>
      go_enter Tryd.func38, Tryd.ntmps38
      go_wp2_with fail
      refine (HC.out _ (by repeat (first | assumption | exact Frm.refl _ _ | refine Frm.drew ?_ | refine Frm.alloc ?_ _))).mono ?_
      rintro e w1 ⟨rfl, hF1⟩
      have hFF : Frm No w w1 := Frm.thenNo (by repeat (first | assumption | exact Frm.refl _ _ | refine Frm.drew ?_ | refine Frm.alloc ?_ _)) hF1
      cases q
      · go_wp2_with fail
        obtain rfl : G = true := by rw [HG.out]; rw [E1.out]; rfl
        go_ret
        exact ⟨rfl, hFF⟩
      · go_wp2_with fail
        obtain rfl : G = false := by rw [HG.out]; rw [E1.out]; rfl
        go_ret
        exact ⟨rfl, hFF⟩
    | cons b r =>
      go_enter Tryd.func38, Tryd.ntmps38
      go_wp2_with fail
      obtain rfl : G = false := by rw [HG.out]; rw [E1.out]; rfl
      go_ret
      exact ⟨rfl, (by repeat (first | assumption | exact Frm.refl _ _ | refine Frm.drew ?_ | refine Frm.alloc ?_ _))⟩
  · have hz : ((n : Int) == 1) = false := by rw [beq_eq_false_iff_ne]; omega
    have E0 : Hid (Gr.okNode 5 s n = false) := hid (by rw [E.out, _root_.decide_eq_false hn, Bool.false_and])
    clear hn
    go_enter Tryd.func38, Tryd.ntmps38
    go_wp2_with fail
    obtain rfl : G = false := by rw [HG.out]; rw [E0.out]; rfl
    go_ret
    exact ⟨rfl, (by repeat (first | assumption | exact Frm.refl _ _ | refine Frm.drew ?_ | refine Frm.alloc ?_ _))⟩
set_option maxHeartbeats 4000000 in
theorem proper_star (s : List UInt8) (n : Nat) (q G : Bool) (ao : Option Addr) (c : Nat) (w : World) (hG : G = (Gr.okNode 6 s n && !q)) (hq0 : n = 0 → q = false)
    (HC : Hid (∀ W, Frm No w W → Calls Tryd.prog 63 #[.slice ao n c, .func (.func 64) #[] #[]] W fun e w' => e = .returned (.bool q) ∧ Frm No W w')) :
    Calls Tryd.prog 38 #[.agg #[.int .i64 6, .string ⟨s.toArray⟩, .slice ao n c]] w fun e w' => e = .returned (.bool G) ∧ Frm No w w' := by
  have HG := hid hG
  have HQ := hid hq0
  clear hG hq0
  have E : Hid (Gr.okNode 6 s n = (decide (n = 1) && decide (s = []))) := hid rfl
  by_cases hn : n = 1
  · have hz : ((n : Int) == 1) = true := by rw [hn]; rfl
    have E1 : Hid (Gr.okNode 6 s n = decide (s = [])) := hid (by rw [E.out, _root_.decide_eq_true hn, Bool.true_and])
    clear hn
    cases s with
    | nil =>
      go_enter Tryd.func38, Tryd.ntmps38
      go_wp2_with fail
      refine (HC.out _ (by repeat (first | assumption | exact Frm.refl _ _ | refine Frm.drew ?_ | refine Frm.alloc ?_ _))).mono ?_
      rintro e w1 ⟨rfl, hF1⟩
      have hFF : Frm No w w1 := Frm.thenNo (by repeat (first | assumption | exact Frm.refl _ _ | refine Frm.drew ?_ | refine Frm.alloc ?_ _)) hF1
      cases q
      · go_wp2_with fail
        obtain rfl : G = true := by rw [HG.out]; rw [E1.out]; rfl
        go_ret
        exact ⟨rfl, hFF⟩
      · go_wp2_with fail
        obtain rfl : G = false := by rw [HG.out]; rw [E1.out]; rfl
        go_ret
        exact ⟨rfl, hFF⟩
    | cons b r =>
      go_enter Tryd.func38, Tryd.ntmps38
      go_wp2_with fail
      obtain rfl : G = false := by rw [HG.out]; rw [E1.out]; rfl
      go_ret
      exact ⟨rfl, (by repeat (first | assumption | exact Frm.refl _ _ | refine Frm.drew ?_ | refine Frm.alloc ?_ _))⟩
  · have hz : ((n : Int) == 1) = false := by rw [beq_eq_false_iff_ne]; omega
    have E0 : Hid (Gr.okNode 6 s n = false) := hid (by rw [E.out, _root_.decide_eq_false hn, Bool.false_and])
    clear hn
    go_enter Tryd.func38, Tryd.ntmps38
    go_wp2_with fail
    obtain rfl : G = false := by rw [HG.out]; rw [E0.out]; rfl
    go_ret
    exact ⟨rfl, (by repeat (first | assumption | exact Frm.refl _ _ | refine Frm.drew ?_ | refine Frm.alloc ?_ _))⟩
set_option maxHeartbeats 4000000 in
theorem proper_plus (s : List UInt8) (n : Nat) (q G : Bool) (ao : Option Addr) (c : Nat) (w : World) (hG : G = (Gr.okNode 7 s n && !q)) (hq0 : n = 0 → q = false)
    (HC : Hid (∀ W, Frm No w W → Calls Tryd.prog 63 #[.slice ao n c, .func (.func 64) #[] #[]] W fun e w' => e = .returned (.bool q) ∧ Frm No W w')) :
    Calls Tryd.prog 38 #[.agg #[.int .i64 7, .string ⟨s.toArray⟩, .slice ao n c]] w fun e w' => e = .returned (.bool G) ∧ Frm No w w' := by
  have HG := hid hG
  have HQ := hid hq0
  clear hG hq0
  have E : Hid (Gr.okNode 7 s n = (decide (n = 1) && decide (s = []))) := hid rfl
  by_cases hn : n = 1
  · have hz : ((n : Int) == 1) = true := by rw [hn]; rfl
    have E1 : Hid (Gr.okNode 7 s n = decide (s = [])) := hid (by rw [E.out, _root_.decide_eq_true hn, Bool.true_and])
    clear hn
    cases s with
    | nil =>
      go_enter Tryd.func38, Tryd.ntmps38
      go_wp2_with fail
      refine (HC.out _ (by repeat (first | assumption | exact Frm.refl _ _ | refine Frm.drew ?_ | refine Frm.alloc ?_ _))).mono ?_
      rintro e w1 ⟨rfl, hF1⟩
      have hFF : Frm No w w1 := Frm.thenNo (by repeat (first | assumption | exact Frm.refl _ _ | refine Frm.drew ?_ | refine Frm.alloc ?_ _)) hF1
      cases q
      · go_wp2_with fail
        obtain rfl : G = true := by rw [HG.out]; rw [E1.out]; rfl
        go_ret
        exact ⟨rfl, hFF⟩
      · go_wp2_with fail
        obtain rfl : G = false := by rw [HG.out]; rw [E1.out]; rfl
        go_ret
        exact ⟨rfl, hFF⟩
    | cons b r =>
      go_enter Tryd.func38, Tryd.ntmps38
      go_wp2_with fail
      obtain rfl : G = false := by rw [HG.out]; rw [E1.out]; rfl
      go_ret
      exact ⟨rfl, (by repeat (first | assumption | exact Frm.refl _ _ | refine Frm.drew ?_ | refine Frm.alloc ?_ _))⟩
  · have hz : ((n : Int) == 1) = false := by rw [beq_eq_false_iff_ne]; omega
    have E0 : Hid (Gr.okNode 7 s n = false) := hid (by rw [E.out, _root_.decide_eq_false hn, Bool.false_and])
    clear hn
    go_enter Tryd.func38, Tryd.ntmps38
    go_wp2_with fail
    obtain rfl : G = false := by rw [HG.out]; rw [E0.out]; rfl
    go_ret
    exact ⟨rfl, (by repeat (first | assumption | exact Frm.refl _ _ | refine Frm.drew ?_ | refine Frm.alloc ?_ _))⟩
set_option maxHeartbeats 4000000 in
theorem proper_none (k : Nat) (hk : k = 0 ∨ 7 < k) (s : List UInt8) (n : Nat) (q G : Bool) (ao : Option Addr) (c : Nat) (w : World) (hG : G = (Gr.okNode k s n && !q)) (hq0 : n = 0 → q = false)
    (_HC : Hid (∀ W, Frm No w W → Calls Tryd.prog 63 #[.slice ao n c, .func (.func 64) #[] #[]] W fun e w' => e = .returned (.bool q) ∧ Frm No W w')) :
    Calls Tryd.prog 38 #[.agg #[.int .i64 (k : Int), .string ⟨s.toArray⟩, .slice ao n c]] w fun e w' => e = .returned (.bool G) ∧ Frm No w w' := by
  have HG := hid hG
  have HQ := hid hq0
  clear hG hq0
  have z1 : ((k : Int) == 1) = false := by rw [beq_eq_false_iff_ne]; omega
  have z2 : ((k : Int) == 2) = false := by rw [beq_eq_false_iff_ne]; omega
  have z3 : ((k : Int) == 3) = false := by rw [beq_eq_false_iff_ne]; omega
  have z4 : ((k : Int) == 4) = false := by rw [beq_eq_false_iff_ne]; omega
  have z5 : ((k : Int) == 5) = false := by rw [beq_eq_false_iff_ne]; omega
  have z6 : ((k : Int) == 6) = false := by rw [beq_eq_false_iff_ne]; omega
  have z7 : ((k : Int) == 7) = false := by rw [beq_eq_false_iff_ne]; omega
  have E : Hid (Gr.okNode k s n = false) := hid (by
    unfold Gr.okNode
    rw [if_neg (by omega), if_neg (by omega), if_neg (by omega), if_neg (by omega), if_neg (by omega)]
    rfl)
  clear hk
  go_enter Tryd.func38, Tryd.ntmps38
  go_wp2_with fail
  obtain rfl : G = false := by rw [HG.out]; rw [E.out]; rfl
  go_ret
  exact ⟨rfl, (by repeat (first | assumption | exact Frm.refl _ _ | refine Frm.drew ?_ | refine Frm.alloc ?_ _))⟩
theorem proper_step (k : Nat) (s : List UInt8) (l : List Gr.Nd) (hl : ∀ d ∈ l, ProperOK d) : ProperOK (.mk k s l) := by
  rintro w Q x ⟨rfl, rfl, hq, xs, ho, hk⟩
  obtain ⟨k, s, ao, n, c⟩ := x
  have hn : n = xs.length := by
    obtain ⟨ao', c', e⟩ := ownsRow_shape ho
    injection e
  subst hn
  have hlen := NdRs.len hk
  have HC : Hid (∀ W, Frm No w W → Calls Tryd.prog 63 #[.slice ao xs.length c, .func (.func 64) #[] #[]] W fun e w' => e = .returned (.bool (l.any (fun d => !Gr.proper d))) ∧ Frm No W w') := hid fun W hW =>
    cf_nodes l xs (.slice ao xs.length c) Q W (hW.row ho (fun _ _ h => h)) (NdRs.frm hW (fun _ _ _ h => h) l xs hk) hl
  have hG : Gr.proper (.mk k s l) = (Gr.okNode k s xs.length && !(l.any (fun d => !Gr.proper d))) := by rw [proper_mk, hlen]
  have hq0 : xs.length = 0 → l.any (fun d => !Gr.proper d) = false := fun e => by
    have : l = [] := List.eq_nil_of_length_eq_zero (by omega)
    rw [this]
    rfl
  show Calls Tryd.prog 38 #[.agg #[.int .i64 (k : Int), .string ⟨s.toArray⟩, .slice ao xs.length c]] w _
  by_cases hk7 : k = 0 ∨ 7 < k
  · exact proper_none k hk7 s xs.length _ _ ao c w hG hq0 HC
  · have hk8 : k = 1 ∨ k = 2 ∨ k = 3 ∨ k = 4 ∨ k = 5 ∨ k = 6 ∨ k = 7 := by omega
    rcases hk8 with rfl | rfl | rfl | rfl | rfl | rfl | rfl
    · exact proper_ref s xs.length _ _ ao c w hG hq0 HC
    · exact proper_lit s xs.length _ _ ao c w hG hq0 HC
    · exact proper_seq s xs.length _ _ ao c w hG hq0 HC
    · exact proper_alt s xs.length _ _ ao c w hG hq0 HC
    · exact proper_opt s xs.length _ _ ao c w hG hq0 HC
    · exact proper_star s xs.length _ _ ao c w hG hq0 HC
    · exact proper_plus s xs.length _ _ ao c w hG hq0 HC
mutual
theorem proper_all : ∀ d : Gr.Nd, ProperOK d
  | .mk k s l => proper_step k s l (propers_all l)
theorem propers_all : ∀ l : List Gr.Nd, ∀ d ∈ l, ProperOK d
  | [], _, h => by cases h
  | a :: l, d, h => by
    rcases List.mem_cons.1 h with e | e
    · rw [e]; exact proper_all a
    · exact propers_all l d e
end
end Go.Proofs.YtebocnpbiiejmaaDoor

namespace Go.Proofs.YtebocnpbiiejmaaDoor
open Go.RowKit
def rvA (r : Rv) : Value := .agg #[.string ⟨r.nm.toArray⟩, .int .i64 (r.x.k : Int), .string ⟨r.x.s.toArray⟩, .slice r.x.ao r.x.n r.x.c]
theorem RlsQ.at_ {w : World} {Q : Nat → Prop} : ∀ {l : List (List UInt8 × Gr.Nd)} {rs : List Rv}, RlsQ w Q l rs → ∀ i (hi : i < l.length) (hx : i < rs.length), rs[i].nm = l[i].1 ∧ NdQ w Q l[i].2 rs[i].x := by
  intro l
  induction l with
  | nil => intro xs _ i hi; cases hi
  | cons d l ih =>
    intro xs h i hi hx
    obtain ⟨x, ys, rfl, h0, h1, h2⟩ := h
    cases i with
    | zero => exact ⟨h0, h1⟩
    | succ i => exact ih h2 i (by simpa using hi) (by simpa using hx)
set_option maxHeartbeats 2000000 in
theorem notgood_rule (r : Rv) (d : Gr.Nd) (w : World) (Q : Nat → Prop) (hn : Gr.goodName r.nm = true) (hd : Gr.proper d = true) (hx : NdQ w Q d r.x) :
    Calls Tryd.prog 37 #[rvA r] w fun e w' => e = .returned (.bool false) ∧ Frm No w w' := by
  have HD := hid (fun W (hW : Frm No w W) => proper_all d W Q r.x (NdQ.frm hW (fun _ _ _ h => h) d r.x hx))
  rw [hd] at HD
  have HN := hid (fun W => good_any r.nm W)
  rw [hn] at HN
  clear hn hd hx
  obtain ⟨nm, x⟩ := r
  unfold rvA
  unfold nvA at HD
  go_enter Tryd.func37, Tryd.ntmps37
  go_wp2_with fail
  refine (HN.out _).mono ?_
  rintro e w1 ⟨rfl, hF1⟩
  have b1 : w1.cell? ⟨w.heap.size, 1, none⟩ = some (.int .i64 (x.k : Int)) := hF1.box 1
  have b2 : w1.cell? ⟨w.heap.size, 2, none⟩ = some (.string ⟨x.s.toArray⟩) := hF1.box 2
  have b3 : w1.cell? ⟨w.heap.size, 3, none⟩ = some (.slice x.ao x.n x.c) := hF1.box 3
  have hFF := ((Frm.refl No w).alloc _).thenNo hF1
  go_wp2_with fail
  refine (HD.out _ hFF).mono ?_
  rintro e w2 ⟨rfl, hF2⟩
  go_wp2_with fail
  go_ret
  exact ⟨rfl, hFF.thenNo hF2⟩
set_option maxRecDepth 100000 in
set_option maxHeartbeats 4000000 in
theorem if_rules (l : List (List UInt8 × Gr.Nd)) (rs : List Rv) (v : Value) (Q : Nat → Prop) (w : World) (ho : w.ownsRow 0 43 4 v rs.length (rows rvC rs)) (hk : RlsQ w Q l rs) (hl : ∀ a ∈ l, Gr.goodName a.1 = true ∧ Gr.proper a.2 = true) :
    Calls Tryd.prog 62 #[v, .func (.func 37) #[] #[]] w fun e w' => e = .returned (.int .i64 (-1)) ∧ Frm No w w' := by
  have hlen := RlsQ.len hk
  have h63 := own_le ho
  have HQ := hid (fun i (hi : i < l.length) (hx : i < rs.length) (w1 : World) (hw : Frm No w w1) => notgood_rule rs[i] l[i].2 w1 Q (by rw [(RlsQ.at_ hk i hi hx).1]; exact (hl l[i] (List.getElem_mem hi)).1) (hl l[i] (List.getElem_mem hi)).2 (NdQ.frm hw (fun _ _ _ h => h) _ _ (RlsQ.at_ hk i hi hx).2))
  have hv := rdl_own rv_shp ho
  have HLEN := hid hlen
  clear hl hk ho hlen
  obtain ⟨ao, c, rfl⟩ := hv.shape
  go_enter Tryd.func62, Tryd.ntmps62
  go_wp2_with fail
  go_loopw [5, 8] (fun _ i wr => ∃ k : Nat, k ≤ rs.length ∧ i = .int .i64 (k : Int) ∧ Frm No w wr)
    (fun _ i _ => rs.length - (intOf i).toNat)
  case atStart => exact ⟨0, by omega, rfl, Frm.refl _ _⟩
  case round =>
    obtain ⟨k, hk, rfl, hf⟩ := hrel
    have HF := hid hf
    by_cases hkl : k < rs.length
    · have hkz : (k : Int) < (rs.length : Int) := by omega
      have hkd : k < l.length := by have := HLEN.out; omega
      obtain ⟨b, o, rfl, hc⟩ := hv.at_ (by omega)
      have z := hc k hkl
      have HX := hid (HQ.out k hkd hkl wr hf)
      obtain ⟨x, hxk⟩ : ∃ x, rs[k] = x := ⟨_, rfl⟩
      rw [hxk] at z HX
      have hbw : b < w.heap.size := World.block_lt_of_cell? (u := .string ⟨x.nm.toArray⟩) w ⟨b, o + (k * 4 + 0), none⟩ (by rw [z 0 (by omega)]; rfl)
      have r0 : wr.cell? ⟨b, o + k * 4, none⟩ = (rvC x)[0]? := (hf.cell hbw (fun h => h)).trans (z 0 (by omega))
      have r1 : wr.cell? ⟨b, o + k * 4 + 1, none⟩ = (rvC x)[1]? := (hf.cell hbw (fun h => h)).trans (z 1 (by omega))
      have r2 : wr.cell? ⟨b, o + k * 4 + 2, none⟩ = (rvC x)[2]? := (hf.cell hbw (fun h => h)).trans (z 2 (by omega))
      have r3 : wr.cell? ⟨b, o + k * 4 + 3, none⟩ = (rvC x)[3]? := (hf.cell hbw (fun h => h)).trans (z 3 (by omega))
      simp only [rvC, List.getElem?_cons_zero, List.getElem?_cons_succ] at r0 r1 r2 r3
      unfold rvA at HX
      clear hc hv hf z hxk
      go_wp2_with fail
      refine HX.out.mono ?_
      rintro e w1 ⟨rfl, hf1⟩
      go_wp2_with fail
      exact ⟨⟨k + 1, by omega, by go_num, HF.out.thenNo hf1⟩, by simp [intOf]; omega⟩
    · obtain rfl : k = rs.length := by omega
      have hpz : ¬ (rs.length : Int) < (rs.length : Int) := by omega
      clear hf
      go_wp2_with fail
      go_ret
      exact ⟨rfl, HF.out⟩
theorem cf_rules (l : List (List UInt8 × Gr.Nd)) (rs : List Rv) (v : Value) (Q : Nat → Prop) (w : World) (ho : w.ownsRow 0 43 4 v rs.length (rows rvC rs)) (hk : RlsQ w Q l rs) (hl : ∀ a ∈ l, Gr.goodName a.1 = true ∧ Gr.proper a.2 = true) :
    Calls Tryd.prog 36 #[v, .func (.func 37) #[] #[]] w fun e w' => e = .returned (.bool false) ∧ Frm No w w' := by
  have HI := hid (if_rules l rs v Q w ho hk hl)
  obtain ⟨ao, c, rfl⟩ := ownsRow_shape ho
  clear hl hk ho
  go_enter Tryd.func36, Tryd.ntmps36
  go_wp2_with (go_at_call 62; refine HI.out.mono ?_; rintro e w1 ⟨rfl, hf⟩)
  go_ret
  exact ⟨rfl, hf⟩
/-- a grammar that can be a text -/
theorem Proper_yes (gm : Gr.Gm) (B : Nat) (v : Value) (w : World) (hg : GmR w B gm v) (hn : Gr.goodName gm.1 = true) (h0 : gm.2 ≠ []) (hl : ∀ a ∈ gm.2, Gr.goodName a.1 = true ∧ Gr.proper a.2 = true) :
    Calls Tryd.prog 12 #[v] w fun e w' => e = .returned (.bool true) ∧ Frm No w w' := by
  obtain ⟨rs, ao, c, rfl, ho, hk⟩ := hg
  have ho0 := ownsRow_base ho (base' := 0) (fun _ _ => Nat.zero_le _)
  have HC := hid (fun W (hW : Frm No w W) => cf_rules gm.2 rs (.slice ao rs.length c) (Ge B) W (hW.row ho0 (fun _ _ h => h)) (RlsQ.frm hW (fun _ _ _ h => h) _ _ hk) hl)
  have HN := hid (fun W => good_any gm.1 W)
  rw [hn] at HN
  have hpos : (0 : Int) < (rs.length : Int) := by
    have h1 := RlsQ.len hk
    have h2 : 0 < gm.2.length := List.length_pos_iff.2 h0
    omega
  clear hl hk ho ho0 hn h0
  go_enter Tryd.func12, Tryd.ntmps12
  go_wp2_with fail
  refine (HN.out _).mono ?_
  rintro e w1 ⟨rfl, hF1⟩
  have b1 : w1.cell? ⟨w.heap.size, 1, none⟩ = some (.slice ao rs.length c) := hF1.box 1
  have hFF := ((Frm.refl No w).alloc _).thenNo hF1
  go_wp2_with fail
  refine (HC.out _ hFF).mono ?_
  rintro e w2 ⟨rfl, hF2⟩
  go_wp2_with fail
  go_ret
  exact ⟨rfl, hFF.thenNo hF2⟩
/-- what is returned where nothing was parsed -/
theorem Proper_no (w : World) :
    Calls Tryd.prog 12 #[.agg #[.string ⟨#[]⟩, .slice none 0 0]] w fun e w' => e = .returned (.bool false) ∧ Frm No w w' := by
  have HN := hid (fun W => good_any [] W)
  go_enter Tryd.func12, Tryd.ntmps12
  go_wp2_with fail
  refine (HN.out _).mono ?_
  rintro e w1 ⟨rfl, hF1⟩
  have b1 : w1.cell? ⟨w.heap.size, 1, none⟩ = some (.slice none 0 0) := hF1.box 1
  have hFF := ((Frm.refl No w).alloc _).thenNo hF1
  go_wp2_with fail
  go_ret
  exact ⟨rfl, hFF⟩
end Go.Proofs.YtebocnpbiiejmaaDoor
