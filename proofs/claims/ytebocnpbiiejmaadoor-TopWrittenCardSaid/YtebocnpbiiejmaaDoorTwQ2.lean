/- Parse: a text's grammar. -/
import Derived.Test.YtebocnpbiiejmaaDoorTwQ1
namespace Go.Proofs.YtebocnpbiiejmaaDoor
open Go.RowKit
theorem scan_any (s : List UInt8) (w : World) : Calls Tryd.prog 8 #[.string ⟨s.toArray⟩] w (Scanned w (Gr.scan s)) := by
  unfold Gr.scan
  by_cases h : 65536 < s.length
  · rw [if_pos h]; exact scan_long s w h
  · rw [if_neg h]; exact scan_short s w (by omega)
/-- what was scanned lies as the parser's tokens -/
theorem tks_of {s : List UInt8} {tl : List Tp} (hs : Gr.scan s = some (tl.map (·.1))) (hl : tl.length ≤ 65537) {w : World} {B : Nat} {v : Value} (ho : w.ownsRow B 38 4 v tl.length (rows tokV tl)) :
    ∃ g cap, v = .slice (some ⟨g, 0, none⟩) tl.length cap ∧ B ≤ g ∧ g < w.heap.size ∧ Tks w g cap tl ∧ 0 < tl.length := by
  have hs' : ∃ n, Gr.toks n s = some (tl.map (·.1)) := by
    unfold Gr.scan at hs
    split at hs
    · cases hs
    · exact ⟨_, hs⟩
  obtain ⟨n, hs'⟩ := hs'
  obtain ⟨cs, hcs, hc⟩ := Gr.toks_shape _ _ _ hs'
  have hlen : tl.length = cs.length + 1 := by
    have := congrArg List.length hcs
    simpa using this
  have h0 : 0 < tl.length := by omega
  have hat : ∀ i (hi : i < tl.length), (i < cs.length ∧ Gr.nzk tl[i].1) ∨ (i = cs.length ∧ tl[i].1 = ⟨4, []⟩) := by
    intro i hi
    have h1 : (tl.map (·.1))[i]? = some tl[i].1 := by rw [List.getElem?_map, List.getElem?_eq_getElem hi]; rfl
    rw [hcs] at h1
    rcases Nat.lt_or_ge i cs.length with h | h
    · refine Or.inl ⟨h, ?_⟩
      rw [List.getElem?_append_left h, List.getElem?_eq_getElem h] at h1
      rw [← Option.some.inj h1]
      exact (hc _ (List.getElem_mem h)).1
    · have e : i = cs.length := by omega
      refine Or.inr ⟨e, ?_⟩
      rw [List.getElem?_append_right h, show i - cs.length = 0 by omega] at h1
      exact (Option.some.inj h1).symm
  obtain ⟨ao, cap, rfl⟩ := ownsRow_shape ho
  rcases ho.2 with ⟨_, h2⟩ | ⟨g, cap', cur, e, hg, hh, _⟩
  · omega
  · injection e with e1 _ e2
    subst e1
    subst e2
    refine ⟨g, cap, rfl, hg, (ho.lt g rfl).2, ⟨fun i hi j hj => ?_, fun i hi => ?_, hl, fun i hi => ?_, fun i hi => ?_⟩, h0⟩
    · have hlen4 : i * 4 + j < tl.length * 4 := by omega
      rw [ho.cellAt (i * 4 + j) hlen4]
      rw [← rows_at tok_shp tl i j hi hj]
    · rcases hat i hi with ⟨h1, h2⟩ | ⟨h1, h2⟩
      · unfold Gr.nzk at h2; omega
      · rw [h2]; show 4 = 4 ↔ _; omega
    · rcases hat i hi with ⟨h1, h2⟩ | ⟨h1, h2⟩
      · unfold Gr.nzk at h2; omega
      · rw [h2]; show (4 : Nat) ≠ 0; omega
    · rcases hat i hi with ⟨h1, h2⟩ | ⟨h1, h2⟩
      · unfold Gr.nzk at h2; omega
      · rw [h2]; show (4 : Nat) ≤ 4; omega
/-- a text was parsed -/
def Parsed (w : World) (R : Option Gr.Gm) (e : Ending) (w' : World) : Prop :=
  Frm No w w' ∧ match R with
  | none => ∃ x y z : Int, z ≠ 0 ∧ e = .returned (.tuple #[.agg #[.string ⟨#[]⟩, .slice none 0 0], .agg #[.int .i64 x, .int .i64 y, .int .i64 z]])
  | some gm => ∃ v, e = .returned (.tuple #[v, .agg #[.int .i64 0, .int .i64 0, .int .i64 0]]) ∧ GmR w' w.heap.size gm v
theorem leave_ret {P : Program} {fn : Func} {tmps : Array Value} {R : Ending → World → Prop} {w : World} {v : Value} (h : (results fn tmps).run P w = .ok v w) (hR : R (.returned v) w) : bodyPostD P fn R Exit.ret { tmps := tmps, defers := [] } w := ⟨v, h, hR⟩
theorem frm_three {w W : World} {b : Nat} {u0 u1 u2 : Value} (hF : Frm No w W) (hb : w.heap.size ≤ b) : Frm No w (((W.setCell ⟨b, 0, none⟩ u0).setCell ⟨b, 1, none⟩ u1).setCell ⟨b, 2, none⟩ u2) := by
  have hno : ∀ {a : World} {j : Nat} {u : Value}, Frm No w a → Frm No w (a.setCell ⟨b, j, none⟩ u) := @fun a j u h => h.setCell (p := ⟨b, j, none⟩) (fun e => by have e : b < w.heap.size := e; omega) _
  exact hno (hno (hno hF))
set_option maxHeartbeats 4000000 in
set_option maxRecDepth 100000 in
theorem parse_any (s : List UInt8) (w : World) : Calls Tryd.prog 5 #[.string ⟨s.toArray⟩] w (Parsed w (Gr.parse s)) := by
  obtain ⟨R, hR⟩ : ∃ R, Gr.parse s = R := ⟨_, rfl⟩
  rw [hR]
  unfold Gr.parse at hR
  have HR := hid hR
  have HSC := hid (fun W => scan_any s W)
  have hmf : ∀ (fn : Fn) (first cap : Array Value) (w : World), (Instr.makeFunc fn first cap).run Tryd.prog w = .ok (.func fn first cap) w := fun _ _ _ _ => rfl
  clear hR
  obtain ⟨F, hF⟩ : ∃ F, w.heap.size = F := ⟨_, rfl⟩
  have hf1 : Frm No w ((w.alloc (.cells #[.string ⟨#[]⟩, .slice none 0 0] 25)).alloc (.cells #[.int .i64 0, .int .i64 0, .int .i64 0] 28)) := ((Frm.refl No w).alloc _).alloc _
  have hcF : ∀ j, ((w.alloc (.cells #[.string ⟨#[]⟩, .slice none 0 0] 25)).alloc (.cells #[.int .i64 0, .int .i64 0, .int .i64 0] 28)).cell? ⟨F, j, none⟩ = (#[.string ⟨#[]⟩, .slice none 0 0] : Array Value)[j]? := fun j => (((Frm.refl No _).alloc _).cell (p := ⟨F, j, none⟩) (by rw [World.size_alloc]; show F < _; omega) (fun h => h)).trans (World.cell?_alloc_at _ _ _ _ hF.symm)
  have hzF : ∀ j, ((w.alloc (.cells #[.string ⟨#[]⟩, .slice none 0 0] 25)).alloc (.cells #[.int .i64 0, .int .i64 0, .int .i64 0] 28)).frozen? ⟨F, j, none⟩ = false := fun j => (((Frm.refl No _).alloc _).frozen (p := ⟨F, j, none⟩) (by rw [World.size_alloc]; show F < _; omega) (fun h => h)).trans (World.frozen?_alloc_at _ _ _ _ hF.symm)
  have hcG : ∀ j, ((w.alloc (.cells #[.string ⟨#[]⟩, .slice none 0 0] 25)).alloc (.cells #[.int .i64 0, .int .i64 0, .int .i64 0] 28)).cell? ⟨F + 1, j, none⟩ = (#[.int .i64 0, .int .i64 0, .int .i64 0] : Array Value)[j]? := fun j => World.cell?_alloc_at _ _ _ _ (by rw [World.size_alloc, hF])
  have hzG : ∀ j, ((w.alloc (.cells #[.string ⟨#[]⟩, .slice none 0 0] 25)).alloc (.cells #[.int .i64 0, .int .i64 0, .int .i64 0] 28)).frozen? ⟨F + 1, j, none⟩ = false := fun j => World.frozen?_alloc_at _ _ _ _ (by rw [World.size_alloc, hF])
  have hs1 : ((w.alloc (.cells #[.string ⟨#[]⟩, .slice none 0 0] 25)).alloc (.cells #[.int .i64 0, .int .i64 0, .int .i64 0] 28)).heap.size = F + 2 := by rw [World.size_alloc, World.size_alloc, hF]
  go_enter_defers Tryd.func5, Tryd.ntmps5
  go_wp2_with fail
  try rw [hF]
  generalize (w.alloc (.cells #[.string ⟨#[]⟩, .slice none 0 0] 25)).alloc (.cells #[.int .i64 0, .int .i64 0, .int .i64 0] 28) = W0 at *
  have HF := hid hF
  clear hF
  refine (HSC.out W0).mono ?_
  rintro e w1 ⟨hF1, hsc⟩
  have cF := fun j => (hF1.cell (p := ⟨F, j, none⟩) (by show F < _; omega) (fun h => h)).trans (hcF j)
  have zF := fun j => (hF1.frozen (p := ⟨F, j, none⟩) (by show F < _; omega) (fun h => h)).trans (hzF j)
  have cG := fun j => (hF1.cell (p := ⟨F + 1, j, none⟩) (by show F + 1 < _; omega) (fun h => h)).trans (hcG j)
  have zG := fun j => (hF1.frozen (p := ⟨F + 1, j, none⟩) (by show F + 1 < _; omega) (fun h => h)).trans (hzG j)
  have HFW := hid (hf1.thenNo hF1)
  have HSZ := hid hF1.size
  clear hcF hzF hcG hzG hf1 hF1
  have cF0 := cF 0
  have cF1 := cF 1
  have cG0 := cG 0
  have cG1 := cG 1
  have cG2 := cG 2
  cases hs : Gr.scan s with
  | none =>
    rw [hs] at hsc
    obtain ⟨x, y, z, hz, rfl⟩ := hsc
    have HRN : Hid (R = none) := hid (by rw [← HR.out, hs])
    have hz0 : (z == 0) = false := by rw [beq_eq_false_iff_ne]; exact hz
    have HZ := hid hz
    clear cF cG hz hs HR HSC
    have hXc := three_cells (a := .int .i64 x) (b := .int .i64 y) (c := .int .i64 z) cG0 cG1 cG2
    have hXF : Frm (One (F + 1)) w1 (((w1.setCell ⟨F + 1, 0, none⟩ (.int .i64 x)).setCell ⟨F + 1, 1, none⟩ (.int .i64 y)).setCell ⟨F + 1, 2, none⟩ (.int .i64 z)) := frm3
    have hXn : Frm No w (((w1.setCell ⟨F + 1, 0, none⟩ (.int .i64 x)).setCell ⟨F + 1, 1, none⟩ (.int .i64 y)).setCell ⟨F + 1, 2, none⟩ (.int .i64 z)) := frm_three HFW.out (by have := HF.out; omega)
    have hXz : ∀ j, (((w1.setCell ⟨F + 1, 0, none⟩ (.int .i64 x)).setCell ⟨F + 1, 1, none⟩ (.int .i64 y)).setCell ⟨F + 1, 2, none⟩ (.int .i64 z)).frozen? ⟨F + 1, j, none⟩ = false := fun j => (World.frozen?_setCell _ _ _ _).trans ((World.frozen?_setCell _ _ _ _).trans ((World.frozen?_setCell _ _ _ _).trans (zG j)))
    go_upto_region 3 with fail
    have hb1 : F < w1.heap.size := by have := HSZ.out; omega
    have hb2 : F + 1 < w1.heap.size := by have := HSZ.out; omega
    generalize ((w1.setCell ⟨F + 1, 0, none⟩ (.int .i64 x)).setCell ⟨F + 1, 1, none⟩ (.int .i64 y)).setCell ⟨F + 1, 2, none⟩ (.int .i64 z) = X at *
    have hFF : ¬ F = F + 1 := by omega
    have x0 := (hXF.cell (p := ⟨F, 0, none⟩) hb1 hFF).trans cF0
    have x1 := (hXF.cell (p := ⟨F, 1, none⟩) hb1 hFF).trans cF1
    have y0 := hXc.1
    have y1 := hXc.2.1
    have y2 := hXc.2.2
    have xz := fun j => (hXF.frozen (p := ⟨F, j, none⟩) hb1 hFF).trans (zF j)
    have yz : ∀ j, X.frozen? ⟨F + 1, j, none⟩ = false := hXz
    clear hXF hXc cF0 cF1 cG0 cG1 cG2 zF zG hz0
    have h5 := five_cells (W := X) (a := F) (b := F + 1) (u0 := .string ⟨#[]⟩) (u1 := .slice none 0 0) (v0 := .int .i64 x) (v1 := .int .i64 y) (v2 := .int .i64 z) hFF x0 x1 y0 y1 y2
    have hno : ∀ {a : World} {k j : Nat} {u : Value}, F ≤ k → Frm No w a → Frm No w (a.setCell ⟨k, j, none⟩ u) := @fun a k j u hk h => h.setCell (p := ⟨k, j, none⟩) (fun e => by have e : k < w.heap.size := e; have := HF.out; omega) _
    have hY : Frm No w (((((X.setCell ⟨F, 0, none⟩ (.string ⟨#[]⟩)).setCell ⟨F, 1, none⟩ (.slice none 0 0)).setCell ⟨F + 1, 0, none⟩ (.int .i64 x)).setCell ⟨F + 1, 1, none⟩ (.int .i64 y)).setCell ⟨F + 1, 2, none⟩ (.int .i64 z)) := by
      repeat (first | exact hXn | refine hno (by omega) ?_)
    have HY := hid hY
    clear hY hXn
    go_region
    all_goals
      generalize ((((X.setCell ⟨F, 0, none⟩ (.string ⟨#[]⟩)).setCell ⟨F, 1, none⟩ (.slice none 0 0)).setCell ⟨F + 1, 0, none⟩ (.int .i64 x)).setCell ⟨F + 1, 1, none⟩ (.int .i64 y)).setCell ⟨F + 1, 2, none⟩ (.int .i64 z) = Y at *
      obtain ⟨k0, k1, k2, k3, k4⟩ := h5
      clear x0 x1 y0 y1 y2 xz yz
      go_wp2_with fail
      refine leave_ret (v := .tuple #[.agg #[.string ⟨#[]⟩, .slice none 0 0], .agg #[.int .i64 x, .int .i64 y, .int .i64 z]]) (by simp [results, Tryd.results5, go_sem, k0, k1, k2, k3, k4]) ⟨HY.out.drew, ?_⟩
      rw [HRN.out]
      exact ⟨x, y, z, HZ.out, rfl⟩
  | some ts =>
    rw [hs] at hsc
    obtain ⟨tl, v, hts, hl, rfl, hown⟩ := hsc
    have HRN : Hid (R = Gr.pGram (rest tl 0)) := hid (by rw [← HR.out, hs, ← hts]; rfl)
    obtain ⟨g, cap, rfl, hg1, hg2, hTk, h0⟩ := tks_of (by rw [hs, hts]) hl hown
    have hXF : Frm (One (F + 1)) w1 (((w1.setCell ⟨F + 1, 0, none⟩ (.int .i64 0)).setCell ⟨F + 1, 1, none⟩ (.int .i64 0)).setCell ⟨F + 1, 2, none⟩ (.int .i64 0)) := frm3
    have hXc := three_cells (a := .int .i64 0) (b := .int .i64 0) (c := .int .i64 0) cG0 cG1 cG2
    have hXn : Frm No w (((w1.setCell ⟨F + 1, 0, none⟩ (.int .i64 0)).setCell ⟨F + 1, 1, none⟩ (.int .i64 0)).setCell ⟨F + 1, 2, none⟩ (.int .i64 0)) := frm_three HFW.out (by have := HF.out; omega)
    have hXz : ∀ j, (((w1.setCell ⟨F + 1, 0, none⟩ (.int .i64 0)).setCell ⟨F + 1, 1, none⟩ (.int .i64 0)).setCell ⟨F + 1, 2, none⟩ (.int .i64 0)).frozen? ⟨F + 1, j, none⟩ = false := fun j => (World.frozen?_setCell _ _ _ _).trans ((World.frozen?_setCell _ _ _ _).trans ((World.frozen?_setCell _ _ _ _).trans (zG j)))
    obtain ⟨G, hG⟩ : ∃ G, w1.heap.size = G := ⟨_, rfl⟩
    have hXs : (((w1.setCell ⟨F + 1, 0, none⟩ (.int .i64 0)).setCell ⟨F + 1, 1, none⟩ (.int .i64 0)).setCell ⟨F + 1, 2, none⟩ (.int .i64 0)).heap.size = G := by rw [← hG]; simp [World.setCell]
    clear hs HR HSC
    go_upto_region 6 with fail
    try rw [hG]
    generalize ((w1.setCell ⟨F + 1, 0, none⟩ (.int .i64 0)).setCell ⟨F + 1, 1, none⟩ (.int .i64 0)).setCell ⟨F + 1, 2, none⟩ (.int .i64 0) = X at *
    have hb1 : F < w1.heap.size := by have := HSZ.out; omega
    have hb2 : F + 1 < w1.heap.size := by have := HSZ.out; omega
    have hFF : ¬ F = F + 1 := by omega
    have hTX := hTk.frm hXF (fun e => by have e : g = F + 1 := e; omega)
    have hYF : Frm No X (X.alloc (.cells #[.slice (some ⟨g, 0, none⟩) tl.length cap, .int .i64 0, .int .i64 0] 50)) := (Frm.refl No X).alloc _
    have hP : Par (X.alloc (.cells #[.slice (some ⟨g, 0, none⟩) tl.length cap, .int .i64 0, .int .i64 0] 50)) G g cap tl 0 0 := ⟨World.cell?_alloc_at _ _ _ _ hXs.symm, World.cell?_alloc_at _ _ _ _ hXs.symm, World.cell?_alloc_at _ _ _ _ hXs.symm, fun j => World.frozen?_alloc_at _ _ _ _ hXs.symm, hTX.frm hYF (fun h => h), h0, by omega, by omega⟩
    have yF := fun j => (hYF.cell (p := ⟨F, j, none⟩) (by show F < _; omega) (fun h => h)).trans ((hXF.cell (p := ⟨F, j, none⟩) hb1 hFF).trans (cF j))
    have yG0 := (hYF.cell (p := ⟨F + 1, 0, none⟩) (by show F + 1 < _; omega) (fun h => h)).trans hXc.1
    have yG1 := (hYF.cell (p := ⟨F + 1, 1, none⟩) (by show F + 1 < _; omega) (fun h => h)).trans hXc.2.1
    have yG2 := (hYF.cell (p := ⟨F + 1, 2, none⟩) (by show F + 1 < _; omega) (fun h => h)).trans hXc.2.2
    have yzF := fun j => (hYF.frozen (p := ⟨F, j, none⟩) (by show F < _; omega) (fun h => h)).trans ((hXF.frozen (p := ⟨F, j, none⟩) hb1 hFF).trans (zF j))
    have yzG := fun j => (hYF.frozen (p := ⟨F + 1, j, none⟩) (by show F + 1 < _; omega) (fun h => h)).trans (hXz j)
    have hYn := hXn.thenNo hYF
    have hYs : (X.alloc (.cells #[.slice (some ⟨g, 0, none⟩) tl.length cap, .int .i64 0, .int .i64 0] 50)).heap.size = G + 1 := by rw [World.size_alloc, hXs]
    have hFG : F + 2 ≤ G := by have := HSZ.out; omega
    generalize X.alloc (.cells #[.slice (some ⟨g, 0, none⟩) tl.length cap, .int .i64 0, .int .i64 0] 50) = Y at *
    clear cF cG zF zG cF0 cF1 cG0 cG1 cG2 hTk hXF hXc hXn hXs hTX hYF hb1 hb2 hG hown hXz hg1 hg2
    go_wp2_with fail
    refine (grammar_any G g cap tl 0 Y hP).mono ?_
    rintro e w7 ⟨hF7, h7⟩
    have k : ∀ i, i ≤ F + 1 → ¬ One G i := fun i hi e => by have e : i = G := e; omega
    have a0 := (hF7.cell (p := ⟨F, 0, none⟩) (by show F < _; omega) (k F (by omega))).trans (yF 0)
    have a1 := (hF7.cell (p := ⟨F, 1, none⟩) (by show F < _; omega) (k F (by omega))).trans (yF 1)
    have b0 := (hF7.cell (p := ⟨F + 1, 0, none⟩) (by show F + 1 < _; omega) (k _ (by show F + 1 ≤ F + 1; omega))).trans yG0
    have b1 := (hF7.cell (p := ⟨F + 1, 1, none⟩) (by show F + 1 < _; omega) (k _ (by show F + 1 ≤ F + 1; omega))).trans yG1
    have b2 := (hF7.cell (p := ⟨F + 1, 2, none⟩) (by show F + 1 < _; omega) (k _ (by show F + 1 ≤ F + 1; omega))).trans yG2
    have az := fun j => (hF7.frozen (p := ⟨F, j, none⟩) (by show F < _; omega) (k F (by omega))).trans (yzF j)
    have bz := fun j => (hF7.frozen (p := ⟨F + 1, j, none⟩) (by show F + 1 < _; omega) (k _ (by show F + 1 ≤ F + 1; omega))).trans (yzG j)
    have HN7 : Hid (Frm No w w7) := hid (hYn.trans hF7 (fun _ _ h => h) (fun i hi e => by have e : i = G := e; have := HF.out; omega))
    have HSY := hid hYs
    have HFG := hid hFG
    clear yF yG0 yG1 yG2 yzF yzG hYn k hYs hP
    cases hp : Gr.pGram (rest tl 0) with
    | none =>
      rw [hp] at h7
      obtain ⟨x, y, z, hz, rfl⟩ := h7
      have HRR : Hid (R = none) := hid (by rw [HRN.out, hp])
      clear hp HRN
      have HZ := hid hz
      clear hz
      go_wp2_with fail
      refine leaves_cons (f := 10) (args := #[.pointer (some ⟨F, 0, none⟩), .pointer (some ⟨F + 1, 0, none⟩)]) (by simp) (by simp [go_sem]) ?_
      refine catch_wrong F (F + 1) hFF x y z _ _ _ _ _ [] w7 a0 a1 b0 b1 b2 az bz _ (hid fun w8 hc => ?_)
      obtain ⟨hF8, k0, k1, q0, q1, q2⟩ := hc
      refine ⟨.tuple #[.agg #[.string ⟨#[]⟩, .slice none 0 0], .agg #[.int .i64 x, .int .i64 y, .int .i64 z]], by simp [results, Tryd.results5, go_sem, k0, k1, q0, q1, q2], HN7.out.trans hF8 (fun _ _ h => h) (fun i hi e => by have := HF.out; omega), ?_⟩
      rw [HRR.out]
      exact ⟨x, y, z, HZ.out, rfl⟩
    | some gm =>
      rw [hp] at h7
      obtain ⟨v, rfl, hG⟩ := h7
      have HRR : Hid (R = some gm) := hid (by rw [HRN.out, hp])
      clear hp HRN
      have HG := hid hG
      obtain ⟨rs, ao, c, rfl, -, -⟩ := hG
      have h5 := five_cells (W := w7) (a := F) (b := F + 1) (u0 := .string ⟨gm.1.toArray⟩) (u1 := .slice ao rs.length c) (v0 := .int .i64 0) (v1 := .int .i64 0) (v2 := .int .i64 0) hFF a0 a1 b0 b1 b2
      have hf8 : Frm (fun k => k = F ∨ k = F + 1) w7 (((((w7.setCell ⟨F, 0, none⟩ (.string ⟨gm.1.toArray⟩)).setCell ⟨F, 1, none⟩ (.slice ao rs.length c)).setCell ⟨F + 1, 0, none⟩ (.int .i64 0)).setCell ⟨F + 1, 1, none⟩ (.int .i64 0)).setCell ⟨F + 1, 2, none⟩ (.int .i64 0)) :=
        (((((Frm.refl _ w7).setCell (p := ⟨F, 0, none⟩) (fun _ => Or.inl rfl) _).setCell (p := ⟨F, 1, none⟩) (fun _ => Or.inl rfl) _).setCell (p := ⟨F + 1, 0, none⟩) (fun _ => Or.inr rfl) _).setCell (p := ⟨F + 1, 1, none⟩) (fun _ => Or.inr rfl) _).setCell (p := ⟨F + 1, 2, none⟩) (fun _ => Or.inr rfl) _
      have H8 := hid hf8
      clear hf8
      go_wp2_with fail
      generalize ((((w7.setCell ⟨F, 0, none⟩ (.string ⟨gm.1.toArray⟩)).setCell ⟨F, 1, none⟩ (.slice ao rs.length c)).setCell ⟨F + 1, 0, none⟩ (.int .i64 0)).setCell ⟨F + 1, 1, none⟩ (.int .i64 0)).setCell ⟨F + 1, 2, none⟩ (.int .i64 0) = w8 at *
      obtain ⟨k0, k1, q0, q1, q2⟩ := h5
      refine leaves_cons (f := 10) (args := #[.pointer (some ⟨F, 0, none⟩), .pointer (some ⟨F + 1, 0, none⟩)]) (by simp) (by simp [go_sem]) ?_
      refine (catch_idle F (F + 1) w8).mono ?_
      rintro e u' w9 ⟨rfl, rfl, rfl⟩
      refine ⟨.tuple #[.agg #[.string ⟨gm.1.toArray⟩, .slice ao rs.length c], .agg #[.int .i64 0, .int .i64 0, .int .i64 0]], by simp [results, Tryd.results5, go_sem, k0, k1, q0, q1, q2], HN7.out.trans H8.out (fun _ _ h => h) (fun i hi e => by have := HF.out; omega), ?_⟩
      rw [HRR.out]
      refine ⟨_, rfl, ?_⟩
      have h9 := HG.out.frm H8.out (fun i hi _ e => by have := HFG.out; have := HSY.out; omega)
      obtain ⟨rs', ao', c', e', ho, hk⟩ := h9
      injection e' with e'
      injection e' with e'
      injection e' with e1 e2
      injection e2 with e2 _
      refine ⟨rs', ao', c', by rw [e2], ownsRow_base ho (fun i hi => by have := (ho.lt i hi).1; have := HF.out; have := HFG.out; have := HSY.out; omega), RlsQ.mono (fun i hi _ => by have hi : Y.heap.size ≤ i := hi; show w.heap.size ≤ i; have := HF.out; have := HFG.out; have := HSY.out; omega) _ _ hk⟩
end Go.Proofs.YtebocnpbiiejmaaDoor
