/- Are two trees the same: the walk of SameNode, at a tree that lies in memory twice. Are two grammars the same: the walk of Same, at a grammar that lies in memory twice. -/
import Derived.Test.YtebocnpbiiejmaaDoorTwS24
namespace Go.Proofs.YtebocnpbiiejmaaDoor
open Go.RowKit
/-- a value that was put into a variable of its own -/
theorem box_new {w : World} {F : Nat} (hF : w.heap.size = F) (z : Array Value) (T : TypeId) :
    Frm No w (w.alloc (.cells z T)) ∧ (∀ j, (w.alloc (.cells z T)).cell? ⟨F, j, none⟩ = z[j]?) ∧ (∀ j, (w.alloc (.cells z T)).frozen? ⟨F, j, none⟩ = false) ∧ (w.alloc (.cells z T)).heap.size = F + 1 :=
  ⟨(Frm.refl No w).alloc _, fun _ => World.cell?_alloc_at _ _ _ _ hF.symm, fun _ => World.frozen?_alloc_at _ _ _ _ hF.symm, by rw [World.size_alloc, hF]⟩
/-- one tree, twice -/
def SameOK (d : Gr.Nd) : Prop := ∀ (w : World) (Q Q' : Nat → Prop) (x y : Nv), NdQ w Q d x → NdQ w Q' d y →
  Calls Tryd.prog 18 #[nvA x, nvA y] w fun e w' => e = .returned (.bool true) ∧ Frm No w w'
set_option maxRecDepth 100000 in
set_option maxHeartbeats 4000000 in
theorem eqf_nodes (l : List Gr.Nd) (xs ys : List Nv) (v u : Value) (Q Q' : Nat → Prop) (w : World) (ho : w.ownsRow 0 41 3 v xs.length (rows nvC xs)) (hk : NdRs w Q l xs) (ho' : w.ownsRow 0 41 3 u ys.length (rows nvC ys)) (hk' : NdRs w Q' l ys) (hl : ∀ d ∈ l, SameOK d) :
    Calls Tryd.prog 46 #[v, u, .func (.func 18) #[] #[]] w fun e w' => e = .returned (.bool true) ∧ Frm No w w' := by
  have hlen := NdRs.len hk
  have hlen' := NdRs.len hk'
  have h63 := own_le ho
  have HQ := hid (fun i (hi : i < l.length) (hx : i < xs.length) (hy : i < ys.length) (w1 : World) (hw : Frm No w w1) => hl l[i] (List.getElem_mem hi) w1 Q Q' xs[i] ys[i] (NdQ.frm hw (fun _ _ _ h => h) _ _ (NdRs.at_ hk i hi hx)) (NdQ.frm hw (fun _ _ _ h => h) _ _ (NdRs.at_ hk' i hi hy)))
  have hv := rdl_own nv_shp ho
  have hu := rdl_own nv_shp ho'
  have HLX := hid hlen
  have HLY := hid hlen'
  obtain ⟨n, hn⟩ : ∃ n, xs.length = n := ⟨_, rfl⟩
  have hny : ys.length = n := by omega
  have HN := hid hn
  have HNY := hid hny
  obtain ⟨ao, c, rfl⟩ := hv.shape
  obtain ⟨ao', c', rfl⟩ := hu.shape
  rw [hn] at h63
  simp only [hn, hny]
  clear hl hk ho hk' ho' hlen hlen' hn hny
  go_enter Tryd.func46, Tryd.ntmps46
  go_wp2_with fail
  go_loopw [17] (fun i wr => ∃ k : Nat, k ≤ n ∧ i = .int .i64 (k : Int) ∧ Frm No w wr)
    (fun i _ => n - (intOf i).toNat)
  case atStart => exact ⟨0, by omega, rfl, Frm.refl _ _⟩
  case round =>
    obtain ⟨k, hk, rfl, hf⟩ := hrel
    have HF := hid hf
    by_cases hkl : k < n
    · have hkz : (k : Int) < (n : Int) := by omega
      have hkx : k < xs.length := by have := HN.out; omega
      have hky : k < ys.length := by have := HNY.out; omega
      have hkd : k < l.length := by have := HLX.out; omega
      obtain ⟨b, o, rfl, hc⟩ := hv.at_ (by omega)
      obtain ⟨b', o', rfl, hc'⟩ := hu.at_ (by omega)
      have z := hc k hkx
      have z' := hc' k hky
      have HX := hid (fun w1 hw => HQ.out k hkd hkx hky w1 hw)
      obtain ⟨x, hxk⟩ : ∃ x, xs[k] = x := ⟨_, rfl⟩
      obtain ⟨y, hyk⟩ : ∃ y, ys[k] = y := ⟨_, rfl⟩
      rw [hxk] at z HX
      rw [hyk] at z' HX
      have hbw : b < w.heap.size := World.block_lt_of_cell? (u := .int .i64 (x.k : Int)) w ⟨b, o + (k * 3 + 0), none⟩ (by rw [z 0 (by omega)]; rfl)
      have hbw' : b' < w.heap.size := World.block_lt_of_cell? (u := .int .i64 (y.k : Int)) w ⟨b', o' + (k * 3 + 0), none⟩ (by rw [z' 0 (by omega)]; rfl)
      have r0 : wr.cell? ⟨b, o + k * 3, none⟩ = (nvC x)[0]? := (hf.cell hbw (fun h => h)).trans (z 0 (by omega))
      have r1 : wr.cell? ⟨b, o + k * 3 + 1, none⟩ = (nvC x)[1]? := (hf.cell hbw (fun h => h)).trans (z 1 (by omega))
      have r2 : wr.cell? ⟨b, o + k * 3 + 2, none⟩ = (nvC x)[2]? := (hf.cell hbw (fun h => h)).trans (z 2 (by omega))
      simp only [nvC, List.getElem?_cons_zero, List.getElem?_cons_succ] at r0 r1 r2
      obtain ⟨F, hF⟩ : ∃ F, wr.heap.size = F := ⟨_, rfl⟩
      have h5 := box_new hF #[.int .i64 (x.k : Int), .string ⟨x.s.toArray⟩, .slice x.ao x.n x.c] 41
      unfold nvA at HX
      clear hc hc' hv hu z hxk hyk
      have HZ := hid z'
      have HBW := hid hbw'
      clear z' hbw' hbw
      go_upto_region 6 with fail
      try rw [hF]
      generalize wr.alloc (.cells #[.int .i64 (x.k : Int), .string ⟨x.s.toArray⟩, .slice x.ao x.n x.c] 41) = W5 at *
      obtain ⟨hf5, c5, z5, s5⟩ := h5
      have hfw := hf.thenNo hf5
      have HF5 := hid hfw
      have q0 : W5.cell? ⟨b', o' + k * 3, none⟩ = (nvC y)[0]? := (hfw.cell HBW.out (fun h => h)).trans (HZ.out 0 (by omega))
      have q1 : W5.cell? ⟨b', o' + k * 3 + 1, none⟩ = (nvC y)[1]? := (hfw.cell HBW.out (fun h => h)).trans (HZ.out 1 (by omega))
      have q2 : W5.cell? ⟨b', o' + k * 3 + 2, none⟩ = (nvC y)[2]? := (hfw.cell HBW.out (fun h => h)).trans (HZ.out 2 (by omega))
      simp only [nvC, List.getElem?_cons_zero, List.getElem?_cons_succ] at q0 q1 q2
      have h6 := box_new s5 #[.int .i64 (y.k : Int), .string ⟨y.s.toArray⟩, .slice y.ao y.n y.c] 41
      clear r0 r1 r2 hf hf5 hfw
      have C5 := hid c5
      clear c5
      go_upto_region 7 with fail
      try rw [s5]
      generalize W5.alloc (.cells #[.int .i64 (y.k : Int), .string ⟨y.s.toArray⟩, .slice y.ao y.n y.c] 41) = W6 at *
      obtain ⟨hf6, c6, z6, s6⟩ := h6
      have hfw6 := HF5.out.thenNo hf6
      have HF6 := hid hfw6
      have d0 := (hf6.cell (p := ⟨F, 0, none⟩) (by show F < _; omega) (fun h => h)).trans (C5.out 0)
      have d1 := (hf6.cell (p := ⟨F, 1, none⟩) (by show F < _; omega) (fun h => h)).trans (C5.out 1)
      have d2 := (hf6.cell (p := ⟨F, 2, none⟩) (by show F < _; omega) (fun h => h)).trans (C5.out 2)
      have e0 := c6 0
      have e1 := c6 1
      have e2 := c6 2
      clear q0 q1 q2 hf6 c6 hfw6
      go_wp2_with fail
      refine (HX.out W6 HF6.out).mono ?_
      rintro e w7 ⟨rfl, hf7⟩
      go_wp2_with fail
      exact ⟨⟨k + 1, by omega, by go_num, HF6.out.thenNo hf7⟩, by simp [intOf]; omega⟩
    · obtain rfl : k = n := by omega
      have hpz : ¬ (k : Int) < (k : Int) := by omega
      clear hf
      go_wp2_with fail
      go_ret
      exact ⟨rfl, HF.out⟩
theorem same_step (k : Nat) (s : List UInt8) (l : List Gr.Nd) (hl : ∀ d ∈ l, SameOK d) : SameOK (.mk k s l) := by
  rintro w Q Q' x y ⟨rfl, rfl, hq, xs, ho, hk⟩ ⟨hyk, hys, hq', ys, ho', hk'⟩
  obtain ⟨k, s, ao, n, c⟩ := x
  obtain ⟨k', s', ao', n', c'⟩ := y
  obtain rfl : k' = k := hyk
  obtain rfl : s' = s := hys
  have HE := hid (fun W (hW : Frm No w W) => eqf_nodes l xs ys (.slice ao n c) (.slice ao' n' c') Q Q' W (hW.row ho (fun _ _ h => h)) (NdRs.frm hW (fun _ _ _ h => h) l xs hk) (hW.row ho' (fun _ _ h => h)) (NdRs.frm hW (fun _ _ _ h => h) l ys hk') hl)
  clear hl hk hk' ho ho' hq hq'
  unfold nvA
  go_enter Tryd.func18, Tryd.ntmps18
  go_wp2_with fail
  refine (HE.out _ (((Frm.refl No w).alloc _).alloc _)).mono ?_
  rintro e w1 ⟨rfl, hF1⟩
  go_wp2_with fail
  go_ret
  exact ⟨rfl, (((Frm.refl No w).alloc _).alloc _).thenNo hF1⟩
mutual
theorem same_all : ∀ d : Gr.Nd, SameOK d
  | .mk k s l => same_step k s l (sames_all l)
theorem sames_all : ∀ l : List Gr.Nd, ∀ d ∈ l, SameOK d
  | [], _, h => by cases h
  | a :: l, d, h => by
    rcases List.mem_cons.1 h with e | e
    · rw [e]; exact same_all a
    · exact sames_all l d e
end
end Go.Proofs.YtebocnpbiiejmaaDoor

namespace Go.Proofs.YtebocnpbiiejmaaDoor
open Go.RowKit
set_option maxHeartbeats 2000000 in
theorem same_rule (r q : Rv) (d : Gr.Nd) (w : World) (Q Q' : Nat → Prop) (hn : r.nm = q.nm) (hx : NdQ w Q d r.x) (hy : NdQ w Q' d q.x) :
    Calls Tryd.prog 17 #[rvA r, rvA q] w fun e w' => e = .returned (.bool true) ∧ Frm No w w' := by
  have HD := hid (fun W (hW : Frm No w W) => same_all d W Q Q' r.x q.x (NdQ.frm hW (fun _ _ _ h => h) d r.x hx) (NdQ.frm hW (fun _ _ _ h => h) d q.x hy))
  obtain ⟨nm, x⟩ := r
  obtain ⟨nm', y⟩ := q
  obtain rfl : nm = nm' := hn
  clear hx hy
  unfold rvA
  unfold nvA at HD
  go_enter Tryd.func17, Tryd.ntmps17
  go_wp2_with fail
  refine (HD.out _ (((Frm.refl No w).alloc _).alloc _)).mono ?_
  rintro e w1 ⟨rfl, hF1⟩
  go_wp2_with fail
  go_ret
  exact ⟨rfl, (((Frm.refl No w).alloc _).alloc _).thenNo hF1⟩
set_option maxRecDepth 100000 in
set_option maxHeartbeats 4000000 in
theorem eqf_rules (l : List (List UInt8 × Gr.Nd)) (xs ys : List Rv) (v u : Value) (Q Q' : Nat → Prop) (w : World) (ho : w.ownsRow 0 43 4 v xs.length (rows rvC xs)) (hk : RlsQ w Q l xs) (ho' : w.ownsRow 0 43 4 u ys.length (rows rvC ys)) (hk' : RlsQ w Q' l ys) :
    Calls Tryd.prog 16 #[v, u, .func (.func 17) #[] #[]] w fun e w' => e = .returned (.bool true) ∧ Frm No w w' := by
  have hlen := RlsQ.len hk
  have hlen' := RlsQ.len hk'
  have h63 := own_le ho
  have HQ := hid (fun i (hi : i < l.length) (hx : i < xs.length) (hy : i < ys.length) (w1 : World) (hw : Frm No w w1) => same_rule xs[i] ys[i] l[i].2 w1 Q Q' ((RlsQ.at_ hk i hi hx).1.trans (RlsQ.at_ hk' i hi hy).1.symm) (NdQ.frm hw (fun _ _ _ h => h) _ _ (RlsQ.at_ hk i hi hx).2) (NdQ.frm hw (fun _ _ _ h => h) _ _ (RlsQ.at_ hk' i hi hy).2))
  have hv := rdl_own rv_shp ho
  have hu := rdl_own rv_shp ho'
  have HLX := hid hlen
  have HLY := hid hlen'
  obtain ⟨n, hn⟩ : ∃ n, xs.length = n := ⟨_, rfl⟩
  have hny : ys.length = n := by omega
  have HN := hid hn
  have HNY := hid hny
  obtain ⟨ao, c, rfl⟩ := hv.shape
  obtain ⟨ao', c', rfl⟩ := hu.shape
  rw [hn] at h63
  simp only [hn, hny]
  clear hk ho hk' ho' hlen hlen' hn hny
  go_enter Tryd.func16, Tryd.ntmps16
  go_wp2_with fail
  go_loopw [17] (fun i wr => ∃ k : Nat, k ≤ n ∧ i = .int .i64 (k : Int) ∧ Frm No w wr)
    (fun i _ => n - (intOf i).toNat)
  case atStart => exact ⟨0, by omega, rfl, Frm.refl _ _⟩
  case round =>
    obtain ⟨k, hk, rfl, hf⟩ := hrel
    have HF := hid hf
    by_cases hkl : k < n
    · have hkz : (k : Int) < (n : Int) := by omega
      have hkx : k < xs.length := by have := HN.out; omega
      have hky : k < ys.length := by have := HNY.out; omega
      have hkd : k < l.length := by have := HLX.out; omega
      obtain ⟨b, o, rfl, hc⟩ := hv.at_ (by omega)
      obtain ⟨b', o', rfl, hc'⟩ := hu.at_ (by omega)
      have z := hc k hkx
      have z' := hc' k hky
      have HX := hid (fun w1 hw => HQ.out k hkd hkx hky w1 hw)
      obtain ⟨x, hxk⟩ : ∃ x, xs[k] = x := ⟨_, rfl⟩
      obtain ⟨y, hyk⟩ : ∃ y, ys[k] = y := ⟨_, rfl⟩
      rw [hxk] at z HX
      rw [hyk] at z' HX
      have hbw : b < w.heap.size := World.block_lt_of_cell? (u := .string ⟨x.nm.toArray⟩) w ⟨b, o + (k * 4 + 0), none⟩ (by rw [z 0 (by omega)]; rfl)
      have hbw' : b' < w.heap.size := World.block_lt_of_cell? (u := .string ⟨y.nm.toArray⟩) w ⟨b', o' + (k * 4 + 0), none⟩ (by rw [z' 0 (by omega)]; rfl)
      have r0 : wr.cell? ⟨b, o + k * 4, none⟩ = (rvC x)[0]? := (hf.cell hbw (fun h => h)).trans (z 0 (by omega))
      have r1 : wr.cell? ⟨b, o + k * 4 + 1, none⟩ = (rvC x)[1]? := (hf.cell hbw (fun h => h)).trans (z 1 (by omega))
      have r2 : wr.cell? ⟨b, o + k * 4 + 2, none⟩ = (rvC x)[2]? := (hf.cell hbw (fun h => h)).trans (z 2 (by omega))
      have r3 : wr.cell? ⟨b, o + k * 4 + 3, none⟩ = (rvC x)[3]? := (hf.cell hbw (fun h => h)).trans (z 3 (by omega))
      simp only [rvC, List.getElem?_cons_zero, List.getElem?_cons_succ] at r0 r1 r2 r3
      obtain ⟨F, hF⟩ : ∃ F, wr.heap.size = F := ⟨_, rfl⟩
      have h5 := box_new hF #[.string ⟨x.nm.toArray⟩, .int .i64 (x.x.k : Int), .string ⟨x.x.s.toArray⟩, .slice x.x.ao x.x.n x.x.c] 43
      unfold rvA at HX
      clear hc hc' hv hu z hxk hyk
      have HZ := hid z'
      have HBW := hid hbw'
      clear z' hbw' hbw
      go_upto_region 6 with fail
      try rw [hF]
      generalize wr.alloc (.cells #[.string ⟨x.nm.toArray⟩, .int .i64 (x.x.k : Int), .string ⟨x.x.s.toArray⟩, .slice x.x.ao x.x.n x.x.c] 43) = W5 at *
      obtain ⟨hf5, c5, z5, s5⟩ := h5
      have hfw := hf.thenNo hf5
      have HF5 := hid hfw
      have q0 : W5.cell? ⟨b', o' + k * 4, none⟩ = (rvC y)[0]? := (hfw.cell HBW.out (fun h => h)).trans (HZ.out 0 (by omega))
      have q1 : W5.cell? ⟨b', o' + k * 4 + 1, none⟩ = (rvC y)[1]? := (hfw.cell HBW.out (fun h => h)).trans (HZ.out 1 (by omega))
      have q2 : W5.cell? ⟨b', o' + k * 4 + 2, none⟩ = (rvC y)[2]? := (hfw.cell HBW.out (fun h => h)).trans (HZ.out 2 (by omega))
      have q3 : W5.cell? ⟨b', o' + k * 4 + 3, none⟩ = (rvC y)[3]? := (hfw.cell HBW.out (fun h => h)).trans (HZ.out 3 (by omega))
      simp only [rvC, List.getElem?_cons_zero, List.getElem?_cons_succ] at q0 q1 q2 q3
      have h6 := box_new s5 #[.string ⟨y.nm.toArray⟩, .int .i64 (y.x.k : Int), .string ⟨y.x.s.toArray⟩, .slice y.x.ao y.x.n y.x.c] 43
      clear r0 r1 r2 r3 hf hf5 hfw
      have C5 := hid c5
      clear c5
      go_upto_region 7 with fail
      try rw [s5]
      generalize W5.alloc (.cells #[.string ⟨y.nm.toArray⟩, .int .i64 (y.x.k : Int), .string ⟨y.x.s.toArray⟩, .slice y.x.ao y.x.n y.x.c] 43) = W6 at *
      obtain ⟨hf6, c6, z6, s6⟩ := h6
      have hfw6 := HF5.out.thenNo hf6
      have HF6 := hid hfw6
      have d0 := (hf6.cell (p := ⟨F, 0, none⟩) (by show F < _; omega) (fun h => h)).trans (C5.out 0)
      have d1 := (hf6.cell (p := ⟨F, 1, none⟩) (by show F < _; omega) (fun h => h)).trans (C5.out 1)
      have d2 := (hf6.cell (p := ⟨F, 2, none⟩) (by show F < _; omega) (fun h => h)).trans (C5.out 2)
      have e0 := c6 0
      have e1 := c6 1
      have e2 := c6 2
      have e3 := c6 3
      have d3 := (hf6.cell (p := ⟨F, 3, none⟩) (by show F < _; omega) (fun h => h)).trans (C5.out 3)
      clear q0 q1 q2 q3 hf6 c6 hfw6
      go_wp2_with fail
      refine (HX.out W6 HF6.out).mono ?_
      rintro e w7 ⟨rfl, hf7⟩
      go_wp2_with fail
      exact ⟨⟨k + 1, by omega, by go_num, HF6.out.thenNo hf7⟩, by simp [intOf]; omega⟩
    · obtain rfl : k = n := by omega
      have hpz : ¬ (k : Int) < (k : Int) := by omega
      clear hf
      go_wp2_with fail
      go_ret
      exact ⟨rfl, HF.out⟩
theorem Same_any (gm : Gr.Gm) (B B' : Nat) (v u : Value) (w : World) (hg : GmR w B gm v) (hg' : GmR w B' gm u) :
    Calls Tryd.prog 7 #[v, u] w fun e w' => e = .returned (.bool true) ∧ Frm No w w' := by
  obtain ⟨rs, ao, c, rfl, ho, hk⟩ := hg
  obtain ⟨rs', ao', c', rfl, ho', hk'⟩ := hg'
  have h0 := ownsRow_base ho (base' := 0) (fun _ _ => Nat.zero_le _)
  have h0' := ownsRow_base ho' (base' := 0) (fun _ _ => Nat.zero_le _)
  have HE := hid (fun W (hW : Frm No w W) => eqf_rules gm.2 rs rs' (.slice ao rs.length c) (.slice ao' rs'.length c') (Ge B) (Ge B') W (hW.row h0 (fun _ _ h => h)) (RlsQ.frm hW (fun _ _ _ h => h) _ _ hk) (hW.row h0' (fun _ _ h => h)) (RlsQ.frm hW (fun _ _ _ h => h) _ _ hk'))
  clear hk hk' ho ho' h0 h0'
  go_enter Tryd.func7, Tryd.ntmps7
  go_wp2_with fail
  refine (HE.out _ (((Frm.refl No w).alloc _).alloc _)).mono ?_
  rintro e w1 ⟨rfl, hF1⟩
  go_wp2_with fail
  go_ret
  exact ⟨rfl, (((Frm.refl No w).alloc _).alloc _).thenNo hF1⟩
end Go.Proofs.YtebocnpbiiejmaaDoor
