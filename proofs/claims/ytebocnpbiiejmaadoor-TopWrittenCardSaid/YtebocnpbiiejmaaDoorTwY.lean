/- A text in its form: the walk of TopWritten where nothing is parsed, or the form is too long. A text in its form: the walk of TopWritten. A text in its form: TopWritten, for every text. -/
import Derived.Test.YtebocnpbiiejmaaDoorTwX
import Derived.Test.YtebocnpbiiejmaaDoorGrBnd
namespace Go.Proofs.YtebocnpbiiejmaaDoor
open Go.RowKit
set_option maxRecDepth 100000 in
set_option maxHeartbeats 2000000 in
theorem top_far (s : List UInt8) (w : World) (hT : Tab w) (hs : 4000 < s.length) :
    Calls Tryd.prog 3 #[.string ⟨s.toArray⟩] w fun e w' => e = .returned (.bool true) ∧ Frm No w w' := by
  have HW := hid (writes_any w hT)
  have hs' : (4000 : Int) < (s.length : Int) := by omega
  clear hT hs
  go_enter Tryd.func3, Tryd.ntmps3
  go_wp2_with fail
  refine HW.out.mono ?_
  rintro e w1 ⟨rfl, hF1⟩
  go_wp2_with fail
  go_ret
  exact ⟨rfl, hF1⟩
set_option maxRecDepth 100000 in
set_option maxHeartbeats 4000000 in
theorem top_none (s : List UInt8) (w : World) (hT : Tab w) (hs : s.length ≤ 4000) (hp : Gr.parse s = none) :
    Calls Tryd.prog 3 #[.string ⟨s.toArray⟩] w fun e w' => e = .returned (.bool true) ∧ Frm No w w' := by
  have HW := hid (writes_any w hT)
  have hs' : ¬ (4000 : Int) < (s.length : Int) := by omega
  have HP := hid (fun W => parse_any s W)
  rw [hp] at HP
  have HX := hid (fun W => text_no W)
  clear hT hs hp
  go_enter Tryd.func3, Tryd.ntmps3
  go_wp2_with fail
  refine HW.out.mono ?_
  rintro e w1 ⟨rfl, hF1⟩
  go_wp2_with fail
  refine (HP.out w1).mono ?_
  rintro e w2 ⟨hF2, x, y, z, hz, rfl⟩
  have hF12 := hF1.thenNo hF2
  have hz0 : (z == 0) = false := by rw [beq_eq_false_iff_ne]; exact hz
  obtain ⟨F, hF⟩ : ∃ F, w2.heap.size = F := ⟨_, rfl⟩
  have h2 := two_new hF #[.string ⟨#[]⟩, .slice none 0 0] #[.int .i64 x, .int .i64 y, .int .i64 z] 25 28
  go_upto_region 6 with fail
  try rw [hF]
  generalize (w2.alloc (.cells #[.string ⟨#[]⟩, .slice none 0 0] 25)).alloc (.cells #[.int .i64 x, .int .i64 y, .int .i64 z] 28) = W2 at *
  obtain ⟨hF3, cF, cG, hs2⟩ := h2
  have a0 := cF 0
  have a1 := cF 1
  have hF13 := hF12.thenNo hF3
  clear hF cF
  go_wp2_with fail
  refine (HX.out W2).mono ?_
  rintro e w4 ⟨rfl, hF4⟩
  have g2 := (hF4.cell (p := ⟨F + 1, 2, none⟩) (by show F + 1 < _; omega) (fun h => h)).trans (cG 2)
  have hF14 := hF13.thenNo hF4
  clear cG a0 a1
  go_wp2_with fail
  go_ret
  exact ⟨rfl, hF14⟩
set_option maxRecDepth 100000 in
set_option maxHeartbeats 4000000 in
theorem top_long (s : List UInt8) (w : World) (gm : Gr.Gm) (hT : Tab w) (hs : s.length ≤ 4000) (hp : Gr.parse s = some gm) (hl : 65536 < (Gr.text gm).length) :
    Calls Tryd.prog 3 #[.string ⟨s.toArray⟩] w fun e w' => e = .returned (.bool true) ∧ Frm No w w' := by
  have HW := hid (writes_any w hT)
  have hs' : ¬ (4000 : Int) < (s.length : Int) := by omega
  have HP := hid (fun W => parse_any s W)
  have hW := Gr.parse_written hp
  have hsh := Gr.parse_short hp
  rw [hp] at HP
  have HX := hid (fun (W : World) (B : Nat) (v : Value) (hg : GmR W B gm v) => text_any gm B v W hg hW.nm hW.ne (fun a ha => by have h := hW.ok a ha; unfold Gr.okRule at h; rw [Bool.and_eq_true] at h; exact h) (by omega))
  have hlz : (65536 : Int) < ((Gr.text gm).length : Int) := by omega
  generalize Gr.text gm = t at *
  clear hT hs hp hW hsh hl
  go_enter Tryd.func3, Tryd.ntmps3
  go_wp2_with fail
  refine HW.out.mono ?_
  rintro e w1 ⟨rfl, hF1⟩
  go_wp2_with fail
  refine (HP.out w1).mono ?_
  rintro e w2 ⟨hF2, v, rfl, hG⟩
  have HG := hid hG
  obtain ⟨rs, ao, c, rfl, -, -⟩ := hG
  have hF12 := hF1.thenNo hF2
  obtain ⟨F, hF⟩ : ∃ F, w2.heap.size = F := ⟨_, rfl⟩
  have h2 := two_new hF #[.string ⟨gm.1.toArray⟩, .slice ao rs.length c] #[.int .i64 0, .int .i64 0, .int .i64 0] 25 28
  go_upto_region 6 with fail
  try rw [hF]
  generalize (w2.alloc (.cells #[.string ⟨gm.1.toArray⟩, .slice ao rs.length c] 25)).alloc (.cells #[.int .i64 0, .int .i64 0, .int .i64 0] 28) = W2 at *
  obtain ⟨hF3, cF, cG, hs2⟩ := h2
  have a0 := cF 0
  have a1 := cF 1
  have hF13 := hF12.thenNo hF3
  have HX2 := hid (HX.out W2 _ _ (HG.out.frm hF3 (fun _ _ _ h => h)))
  clear hF cF
  go_wp2_with fail
  refine HX2.out.mono ?_
  rintro e w4 ⟨rfl, hF4⟩
  have g2 := (hF4.cell (p := ⟨F + 1, 2, none⟩) (by show F + 1 < _; omega) (fun h => h)).trans (cG 2)
  have hF14 := hF13.thenNo hF4
  clear cG a0 a1
  go_wp2_with fail
  go_ret
  exact ⟨rfl, hF14⟩
end Go.Proofs.YtebocnpbiiejmaaDoor

namespace Go.Proofs.YtebocnpbiiejmaaDoor
open Go.RowKit
/-- names and literals among tokens -/
def lvT (l : List Tp) : List Tp := l.filter (fun p => decide (p.1.k < 3))
theorem lvT_map (l : List Tp) : (lvT l).map (·.1) = Gr.leaves (l.map (·.1)) := by
  unfold lvT Gr.leaves
  rw [List.filter_map]
  rfl
theorem lvT_take (l : List Tp) (k : Nat) (h : k < l.length) : lvT (l.take (k + 1)) = lvT (l.take k) ++ (if l[k].1.k < 3 then [l[k]] else []) := by
  unfold lvT
  rw [List.take_succ_eq_append_getElem h, List.filter_append]
  congr 1
  by_cases h3 : l[k].1.k < 3
  · rw [if_pos h3, List.filter_cons_of_pos (by simpa using h3)]
    rfl
  · rw [if_neg h3, List.filter_cons_of_neg (by simpa using h3)]
    rfl
theorem GmR.first {w : World} {B n c : Nat} {gm : Gr.Gm} {ao : Option Addr} {s : ByteArray} (h : GmR w B gm (.agg #[.string s, .slice ao n c])) (hne : gm.2 ≠ []) : ∃ q, ao = some ⟨q, 0, none⟩ ∧ w.cell? ⟨q, 0, none⟩ = some (.string ⟨(Gr.headOf gm.2).toArray⟩) ∧ 0 < n := by
  obtain ⟨rs, ao', c', e, ho, hk⟩ := h
  injection e with e
  injection e with e
  injection e with e1 e2
  injection e2 with e2 e3
  injection e2 with e4 e5 e6
  subst e4
  subst e6
  subst e5
  have hlen := RlsQ.len hk
  have h2 : 0 < gm.2.length := List.length_pos_iff.2 hne
  have hpos : 0 < rs.length := by omega
  obtain ⟨q, cap, e, _, _, _, hcell, _⟩ := own_at rv_shp ho hpos
  injection e with e1 e2 e3
  subst e1
  have h := hcell 0 (by decide)
  rw [Nat.zero_mul, Nat.add_zero] at h
  refine ⟨q, rfl, ?_, hpos⟩
  have hnm : rs[0].nm = Gr.headOf gm.2 := by
    rw [(RlsQ.at_ hk 0 h2 hpos).1]
    exact head_eq h2
  rw [← hnm]
  exact h
theorem rdl_tail {w : World} {p cap : Nat} {x : Tp} {xs : List Tp} (h : w.ownsRow 0 38 4 (.slice (some ⟨p, 0, none⟩) (xs.length + 1) cap) (xs.length + 1) (rows tokV (x :: xs))) (c : Nat) : RdL w (.slice (some ⟨p, 4, none⟩) xs.length c) 4 tokV xs := by
  cases xs with
  | nil => exact ⟨.inl ⟨rfl, _, _, rfl⟩⟩
  | cons y ys =>
    have h' : w.ownsRow 0 38 4 (.slice (some ⟨p, 0, none⟩) (x :: y :: ys).length cap) (x :: y :: ys).length (rows tokV (x :: y :: ys)) := h
    have hr := rdl_own tok_shp h'
    obtain ⟨b, o, e, hc⟩ := hr.at_ (by simp)
    injection e with e
    injection e with e1 e2
    subst e1
    subst e2
    refine ⟨.inr ⟨_, 4, c, rfl, fun i hi j hj => ?_⟩⟩
    have h1 := hc (i + 1) (by simp at hi ⊢; omega) j hj
    rw [show 4 + (i * 4 + j) = 0 + (i + 1) * 4 + j by omega]
    simpa using h1
theorem own_cap {w : World} {base : Nat} {e : TypeId} {size : Nat} {ao : Option Addr} {n c : Nat} {xs : List Value} (h : w.ownsRow base e size (.slice ao n c) n xs) : n ≤ c := by
  rcases h.2 with ⟨e, h2⟩ | ⟨g, cap, cur, e, _, _, h1, _⟩
  · omega
  · injection e with _ _ e3
    omega
theorem own_some {w : World} {base : Nat} {e : TypeId} {size : Nat} {ao : Option Addr} {n c : Nat} {xs : List Value} (h : w.ownsRow base e size (.slice ao n c) n xs) (hn : 0 < n) : ∃ p, ao = some ⟨p, 0, none⟩ := by
  rcases h.2 with ⟨e, h2⟩ | ⟨g, cap, cur, e, _, _, h1, _⟩
  · omega
  · injection e with e1 _ _
    exact ⟨g, e1⟩
/-- the same tokens, one by one, their places aside -/
def Same2 (W : World) (ax ay : Option Addr) (n : Nat) : Prop := ∀ i, i < n → ∃ (b o b' o' : Nat) (tk : Gr.Tk), ax = some ⟨b, o, none⟩ ∧ ay = some ⟨b', o', none⟩ ∧ W.cell? ⟨b, o + i * 4, none⟩ = some (.int .i64 (tk.k : Int)) ∧ W.cell? ⟨b, o + i * 4 + 1, none⟩ = some (.string ⟨tk.s.toArray⟩) ∧
  W.cell? ⟨b', o' + i * 4, none⟩ = some (.int .i64 (tk.k : Int)) ∧ W.cell? ⟨b', o' + i * 4 + 1, none⟩ = some (.string ⟨tk.s.toArray⟩)
theorem same2_of {W : World} {ax ay : Option Addr} {cx cy n : Nat} {xs ys : List Tp} (hx : RdL W (.slice ax xs.length cx) 4 tokV xs) (hy : RdL W (.slice ay ys.length cy) 4 tokV ys) (he : xs.map (·.1) = ys.map (·.1)) (hn : xs.length = n) : Same2 W ax ay n := by
  intro i hi
  have hl : xs.length = ys.length := by simpa using congrArg List.length he
  obtain ⟨b, o, rfl, hc⟩ := hx.at_ (by omega)
  obtain ⟨b', o', rfl, hc'⟩ := hy.at_ (by omega)
  have hix : i < xs.length := by omega
  have hiy : i < ys.length := by omega
  have e1 : xs[i].1 = ys[i].1 := by
    have h1 : (xs.map (·.1))[i]? = some xs[i].1 := by rw [List.getElem?_map, List.getElem?_eq_getElem hix]; rfl
    have h2 : (ys.map (·.1))[i]? = some ys[i].1 := by rw [List.getElem?_map, List.getElem?_eq_getElem hiy]; rfl
    rw [he, h2] at h1
    exact (Option.some.inj h1).symm
  refine ⟨b, o, b', o', xs[i].1, rfl, rfl, hc i hix 0 (by omega), hc i hix 1 (by omega), ?_, ?_⟩
  · rw [e1]; exact hc' i hiy 0 (by omega)
  · rw [e1]; exact hc' i hiy 1 (by omega)
theorem lvT_len (l : List Tp) : (lvT l).length ≤ l.length := List.length_filter_le _ _
theorem lvT_taken (l : List Tp) (k : Nat) : (lvT (l.take k)).length ≤ l.length := Nat.le_trans (lvT_len _) (by rw [List.length_take]; omega)
theorem push_frm0 {W wr w' : World} {N : Nat} {e : TypeId} {size n : Nat} {xs : List Value} {v : Value} (hN : W.heap.size = N) (hf : Frm No W wr) (ho : wr.ownsRow N e size v n xs) (hd : Frm (Own v) wr w') : Frm No W w' :=
  hf.trans hd (fun _ _ h => h) (fun k hk e => by have := (ho.lt k e).1; omega)
set_option maxRecDepth 100000 in
set_option maxHeartbeats 8000000 in
theorem top_some (s : List UInt8) (w : World) (gm : Gr.Gm) (hT : Tab w) (hs : s.length ≤ 4000) (hp : Gr.parse s = some gm) (hl : (Gr.text gm).length ≤ 65536) :
    Calls Tryd.prog 3 #[.string ⟨s.toArray⟩] w fun e w' => e = .returned (.bool true) ∧ Frm No w w' := by
  have HW := hid (writes_any w hT)
  have hs' : ¬ (4000 : Int) < (s.length : Int) := by omega
  have HP := hid (fun W => parse_any s W)
  have hW := Gr.parse_written hp
  obtain ⟨hb, la, lb, hsa, hsb, hlv⟩ := hW.back hl
  rw [hp] at HP
  have HX := hid (fun (W : World) (B : Nat) (v : Value) (hg : GmR W B gm v) => text_any gm B v W hg hW.nm hW.ne (fun a ha => by have h := hW.ok a ha; unfold Gr.okRule at h; rw [Bool.and_eq_true] at h; exact h) (by omega))
  have HP2 := hid (fun W => parse_any (Gr.text gm) W)
  rw [hb] at HP2
  have HSA := hid (fun W => scan_any s W)
  rw [hsa] at HSA
  have HSB := hid (fun W => scan_any (Gr.text gm) W)
  rw [hsb] at HSB
  have hlz : ¬ (65536 : Int) < ((Gr.text gm).length : Int) := by omega
  have HNE := hid hW.ne
  have HLV := hid hlv
  generalize Gr.text gm = t at *
  clear hT hs hp hW hl hb hsa hsb hlv
  go_enter Tryd.func3, Tryd.ntmps3
  go_wp2_with fail
  refine HW.out.mono ?_
  rintro e w1 ⟨rfl, hF1⟩
  go_wp2_with fail
  refine (HP.out w1).mono ?_
  rintro e w2 ⟨hF2, v, rfl, hG⟩
  have HG := hid hG
  obtain ⟨rs, ao, c, rfl, -, -⟩ := hG
  have hF12 := hF1.thenNo hF2
  obtain ⟨F, hF⟩ : ∃ F, w2.heap.size = F := ⟨_, rfl⟩
  have h2 := two_new hF #[.string ⟨gm.1.toArray⟩, .slice ao rs.length c] #[.int .i64 0, .int .i64 0, .int .i64 0] 25 28
  go_upto_region 6 with fail
  try rw [hF]
  generalize (w2.alloc (.cells #[.string ⟨gm.1.toArray⟩, .slice ao rs.length c] 25)).alloc (.cells #[.int .i64 0, .int .i64 0, .int .i64 0] 28) = W2 at *
  obtain ⟨hF3, cF, cG, hs2⟩ := h2
  have a0 := cF 0
  have a1 := cF 1
  have cF' := fun (j : Nat) => cF j
  have hF13 := hF12.thenNo hF3
  have HG2 := hid (HG.out.frm hF3 (fun _ _ _ h => h))
  have HX2 := hid (HX.out W2 _ _ HG2.out)
  have HGSZ := hid hs2
  clear hF cF hF1 hF2 hF12 hF3 HG HW HP
  go_wp2_with fail
  refine HX2.out.mono ?_
  rintro e w4 ⟨rfl, hF4⟩
  have g2 := (hF4.cell (p := ⟨F + 1, 2, none⟩) (by have := HGSZ.out; show F + 1 < _; omega) (fun h => h)).trans (cG 2)
  have hF14 := hF13.thenNo hF4
  clear cG a0 a1 HX2 hF13
  go_wp2_with fail
  refine (HP2.out w4).mono ?_
  rintro e w5 ⟨hF5, v', rfl, hG'⟩
  have HG' := hid hG'
  obtain ⟨rs', ao', c', rfl, -, -⟩ := hG'
  have hF25 := hF4.thenNo hF5
  have hF15 := hF14.thenNo hF5
  obtain ⟨K, hK⟩ : ∃ K, w5.heap.size = K := ⟨_, rfl⟩
  have h2 := two_new hK #[.string ⟨gm.1.toArray⟩, .slice ao' rs'.length c'] #[.int .i64 0, .int .i64 0, .int .i64 0] 25 28
  clear hF4 hF5 hF14 HP2 g2
  go_upto_region 12 with fail
  try rw [hK]
  generalize (w5.alloc (.cells #[.string ⟨gm.1.toArray⟩, .slice ao' rs'.length c'] 25)).alloc (.cells #[.int .i64 0, .int .i64 0, .int .i64 0] 28) = W5 at *
  obtain ⟨hF6, cK, cL, hs5⟩ := h2
  have k0 := cK 0
  have k1 := cK 1
  have hF26 := hF25.thenNo hF6
  have hF16 := hF15.thenNo hF6
  have HG3 := hid (HG2.out.frm hF26 (fun _ _ _ h => h))
  have HG4 := hid (HG'.out.frm hF6 (fun _ _ _ h => h))
  have HX2 := hid (HX.out W5 _ _ HG4.out)
  have f0 := (hF26.cell (p := ⟨F, 0, none⟩) (by have := HGSZ.out; show F < _; omega) (fun h => h)).trans (cF' 0)
  have f1 := (hF26.cell (p := ⟨F, 1, none⟩) (by have := HGSZ.out; show F < _; omega) (fun h => h)).trans (cF' 1)
  have HL := hid (cL 2)
  have HS5 := hid hs5
  clear hK cK cF' hF15 hF25 hF6 hF26 HG2 HG' HX cL
  go_wp2_with fail
  refine HX2.out.mono ?_
  rintro e w6 ⟨rfl, hF7⟩
  have hF17 := hF16.thenNo hF7
  have l2 := (hF7.cell (p := ⟨K + 1, 2, none⟩) (by have := HS5.out; show K + 1 < _; omega) (fun h => h)).trans HL.out
  have p0 := (hF7.cell (World.block_lt_of_cell? W5 _ f0) (fun h => h)).trans f0
  have p1 := (hF7.cell (World.block_lt_of_cell? W5 _ f1) (fun h => h)).trans f1
  have q0 := (hF7.cell (World.block_lt_of_cell? W5 _ k0) (fun h => h)).trans k0
  have q1 := (hF7.cell (World.block_lt_of_cell? W5 _ k1) (fun h => h)).trans k1
  have HG5 := hid (HG3.out.frm hF7 (fun _ _ _ h => h))
  have HSM := hid (Same_any gm _ _ _ _ w6 HG5.out (HG4.out.frm hF7 (fun _ _ _ h => h)))
  clear f0 f1 k0 k1 hF7 hF16 HG3 HG4 HX2 HL
  go_wp2_with fail
  refine HSM.out.mono ?_
  rintro e w7 ⟨rfl, hF8⟩
  have hF18 := hF17.thenNo hF8
  have r0 := (hF8.cell (World.block_lt_of_cell? w6 _ p0) (fun h => h)).trans p0
  have r1 := (hF8.cell (World.block_lt_of_cell? w6 _ p1) (fun h => h)).trans p1
  have HG6 := hid (HG5.out.frm hF8 (fun _ _ _ h => h))
  clear p0 p1 q0 q1 l2 hF8 hF17 HG5 HSM
  go_wp2_with fail
  refine (HSA.out w7).mono ?_
  rintro e w8 ⟨hF9, tla, va, hta, hla, rfl, hoa⟩
  have HOA := hid hoa
  obtain ⟨aoa, ca, rfl⟩ := ownsRow_shape hoa
  have hF19 := hF18.thenNo hF9
  have HR0 := hid ((hF9.cell (World.block_lt_of_cell? w7 _ r0) (fun h => h)).trans r0)
  have HR1 := hid ((hF9.cell (World.block_lt_of_cell? w7 _ r1) (fun h => h)).trans r1)
  have HG7 := hid (HG6.out.frm hF9 (fun _ _ _ h => h))
  clear r0 r1 hF9 hF18 HG6 HSA hoa
  go_wp2_with fail
  refine (HSB.out (w8.alloc (.cells #[.int .i64 0, .int .i64 0, .int .i64 0] 28))).mono ?_
  rintro e w9 ⟨hF10, tlb, vb, htb, hlb, rfl, hob⟩
  have hF11 : Frm No w8 w9 := ((Frm.refl No w8).alloc _).thenNo hF10
  obtain ⟨aob, cb, rfl⟩ := ownsRow_shape hob
  have hF12 : Frm No w8 (w9.alloc (.cells #[.int .i64 0, .int .i64 0, .int .i64 0] 28)) := hF11.alloc _
  have HFA := hid (hF19.thenNo hF12)
  have HOA0 := hid (hF12.row (ownsRow_base HOA.out (base' := 0) (fun _ _ => Nat.zero_le _)) (fun _ _ h => h))
  have HOB0 := hid ((ownsRow_base hob (base' := 0) (fun _ _ => Nat.zero_le _)).alloc (.cells #[.int .i64 0, .int .i64 0, .int .i64 0] 28))
  have HRA0 := hid ((hF12.cell (World.block_lt_of_cell? w8 _ HR0.out) (fun h => h)).trans HR0.out)
  have HRA1 := hid ((hF12.cell (World.block_lt_of_cell? w8 _ HR1.out) (fun h => h)).trans HR1.out)
  have HGA := hid (HG7.out.frm hF12 (fun _ _ _ h => h))
  clear hF10 hF11 hF12 hob HR0 HR1 HG7 HSB HOA hF19
  go_upto_region 18 with fail
  generalize w9.alloc (.cells #[.int .i64 0, .int .i64 0, .int .i64 0] 28) = WA at *
  have HOA := HOA0
  clear HOA0
  obtain ⟨i0, gi, gz0, gz1, gz2⟩ := info_parts info_tok
  obtain ⟨NA, hNA⟩ : ∃ N, WA.heap.size = N := ⟨_, rfl⟩
  have HN1 := hid hNA
  clear hNA
  go_wp2_with fail
  go_loopw [15, 95] (fun v i wr => ∃ k : Nat, k ≤ tla.length ∧ i = .int .i64 (k : Int) ∧ wr.ownsRow NA 38 4 v (lvT (tla.take k)).length (rows tokV (lvT (tla.take k))) ∧ Frm No WA wr)
    (fun _ i _ => tla.length - (intOf i).toNat)
  case atStart => exact ⟨0, by omega, rfl, World.ownsRow_nil _ _ _ _, Frm.refl _ _⟩
  case round =>
    obtain ⟨k, hk, rfl, hown, hf⟩ := hrel
    have HK := hid hown
    have HFR := hid hf
    obtain ⟨aov1, cv1, rfl⟩ := ownsRow_shape hown
    clear hown
    by_cases hkl : k < tla.length
    · have hkz : (k : Int) < (tla.length : Int) := by omega
      have hk6 : k < 65537 := by omega
      obtain ⟨b, o, hao, hc⟩ := (rdl_own tok_shp HOA.out).at_ (by omega)
      have z := hc k hkl
      have HT := hid (lvT_take tla k hkl)
      have HTL : Hid ((lvT (tla.take k)).length ≤ 65537) := hid (by have := lvT_taken tla k; omega)
      obtain ⟨tk, htk⟩ : ∃ x, tla[k] = x := ⟨_, rfl⟩
      rw [htk] at z HT
      subst hao
      have hbw : b < WA.heap.size := World.block_lt_of_cell? (u := .int .i64 (tk.1.k : Int)) WA ⟨b, o + (k * 4 + 0), none⟩ (by rw [z 0 (by omega)]; rfl)
      have r0 : wr.cell? ⟨b, o + k * 4, none⟩ = (tokV tk)[0]? := (hf.cell hbw (fun h => h)).trans (z 0 (by omega))
      have r1 : wr.cell? ⟨b, o + k * 4 + 1, none⟩ = (tokV tk)[1]? := (hf.cell hbw (fun h => h)).trans (z 1 (by omega))
      have r2 : wr.cell? ⟨b, o + k * 4 + 2, none⟩ = (tokV tk)[2]? := (hf.cell hbw (fun h => h)).trans (z 2 (by omega))
      have r3 : wr.cell? ⟨b, o + k * 4 + 3, none⟩ = (tokV tk)[3]? := (hf.cell hbw (fun h => h)).trans (z 3 (by omega))
      simp only [tokV, List.getElem?_cons_zero, List.getElem?_cons_succ] at r0 r1 r2 r3
      clear hc z htk hbw hf
      obtain ⟨⟨kk, ks⟩, kx, ky⟩ := tk
      dsimp only at r0 r1 r2 r3 HT
      by_cases h3 : kk < 3
      · have h3z : (kk : Int) < 3 := by omega
        have HT2 : Hid (lvT (tla.take (k + 1)) = lvT (tla.take k) ++ [(⟨kk, ks⟩, kx, ky)]) := hid (by rw [HT.out, if_pos h3])
        obtain ⟨F2, hF2⟩ : ∃ F2, wr.heap.size = F2 := ⟨_, rfl⟩
        have hbx := box_new hF2 #[.int .i64 (kk : Int), .string ⟨ks.toArray⟩, .int .i64 kx, .int .i64 ky] 38
        have HK7 := hid (HK.out.alloc (.cells #[.int .i64 (kk : Int), .string ⟨ks.toArray⟩, .int .i64 kx, .int .i64 ky] 38))
        clear h3 HT
        go_upto_region 22 with fail
        try rw [hF2]
        generalize wr.alloc (.cells #[.int .i64 (kk : Int), .string ⟨ks.toArray⟩, .int .i64 kx, .int .i64 ky] 38) = W7 at *
        obtain ⟨hf7, cc7, -, -⟩ := hbx
        have e0 := cc7 0
        have e1 := cc7 1
        have e2 := cc7 2
        have e3 := cc7 3
        have HFR7 := hid (HFR.out.thenNo hf7)
        have HBS : Hid (NA ≤ W7.heap.size) := hid (by have := HFR7.out.size; have := HN1.out; omega)
        clear hf7 cc7 hF2 r0 r1 r2 r3
        go_wp2_with (at_builtin; go_must (refine wpList_push _ rfl _ _ 34 rfl NA 38 i0 _ 4 40 Tryd.underlying34 gi gz0 gz1 gz2 rfl (.slice aov1 (lvT (tla.take k)).length cv1) (lvT (tla.take k)).length (rows tokV (lvT (tla.take k))) rfl HK7.out [.int .i64 (kk : Int), .string ⟨ks.toArray⟩, .int .i64 kx, .int .i64 ky] rfl rfl (tok_shp.one ((⟨kk, ks⟩, kx, ky) : Tp)) (by have := HTL.out; omega) (by have := HTL.out; omega) HBS.out ?_); intro v7 wg hown7 hd7 hv7 hs7)
        have HFN := hid (push_frm0 HN1.out HFR7.out HK7.out hd7)
        have hown8 : wg.ownsRow NA 38 4 v7 (lvT (tla.take (k + 1))).length (rows tokV (lvT (tla.take (k + 1)))) := by
          rw [HT2.out, rows_append, List.length_append]
          exact hown7
        exact ⟨⟨k + 1, by omega, by go_num, hown8, HFN.out⟩, by simp [intOf]; omega⟩
      · have h3z : ¬ (kk : Int) < 3 := by omega
        have HT2 : Hid (lvT (tla.take (k + 1)) = lvT (tla.take k)) := hid (by rw [HT.out, if_neg h3, List.append_nil])
        clear h3 HT
        go_wp2_with fail
        exact ⟨⟨k + 1, by omega, by go_num, by rw [HT2.out]; exact HK.out.alloc _, HFR.out.alloc _⟩, by simp [intOf]; omega⟩
    · obtain rfl : k = tla.length := by omega
      have hpz : ¬ (tla.length : Int) < (tla.length : Int) := by omega
      rw [List.take_length] at HK
      try simp only [List.take_length]
      generalize hxa : lvT tla = xa at *
      have hxm : xa.map (·.1) = Gr.leaves la := by rw [← hxa, lvT_map, hta]
      have hxl : xa.length ≤ 65537 := by rw [← hxa]; have := lvT_len tla; omega
      have HXM := hid hxm
      have HXA := hid HK.out
      have HFB := hid (HFA.out.thenNo HFR.out)
      have HOB := hid (HFR.out.row HOB0.out (fun _ _ h => h))
      have HRB0 := hid ((HFR.out.cell (World.block_lt_of_cell? WA _ HRA0.out) (fun h => h)).trans HRA0.out)
      have HRB1 := hid ((HFR.out.cell (World.block_lt_of_cell? WA _ HRA1.out) (fun h => h)).trans HRA1.out)
      have HGB := hid (HGA.out.frm HFR.out (fun _ _ _ h => h))
      clear hxa hxm HK HRA0 HRA1 HGA HFA HFR HOA hf
      obtain ⟨WB, hWB⟩ : ∃ W, W = wr := ⟨_, rfl⟩
      subst hWB
      obtain ⟨NB, hNB⟩ : ∃ N, WB.heap.size = N := ⟨_, rfl⟩
      have HN2 := hid hNB
      clear hNB
      go_wp2_with fail
      go_loopw [16, 109] (fun v i wr => ∃ k : Nat, k ≤ tlb.length ∧ i = .int .i64 (k : Int) ∧ wr.ownsRow NB 38 4 v (lvT (tlb.take k)).length (rows tokV (lvT (tlb.take k))) ∧ Frm No WB wr)
        (fun _ i _ => tlb.length - (intOf i).toNat)
      case atStart => exact ⟨0, by omega, rfl, World.ownsRow_nil _ _ _ _, Frm.refl _ _⟩
      case round =>
        obtain ⟨k, hk, rfl, hown, hf⟩ := hrel
        have HK := hid hown
        have HFR := hid hf
        obtain ⟨aov2, cv2, rfl⟩ := ownsRow_shape hown
        clear hown
        by_cases hkl : k < tlb.length
        · have hkz : (k : Int) < (tlb.length : Int) := by omega
          have hk6 : k < 65537 := by omega
          obtain ⟨b, o, hao, hc⟩ := (rdl_own tok_shp HOB.out).at_ (by omega)
          have z := hc k hkl
          have HT := hid (lvT_take tlb k hkl)
          have HTL : Hid ((lvT (tlb.take k)).length ≤ 65537) := hid (by have := lvT_taken tlb k; omega)
          obtain ⟨tk, htk⟩ : ∃ x, tlb[k] = x := ⟨_, rfl⟩
          rw [htk] at z HT
          subst hao
          have hbw : b < WB.heap.size := World.block_lt_of_cell? (u := .int .i64 (tk.1.k : Int)) WB ⟨b, o + (k * 4 + 0), none⟩ (by rw [z 0 (by omega)]; rfl)
          have r0 : wr.cell? ⟨b, o + k * 4, none⟩ = (tokV tk)[0]? := (hf.cell hbw (fun h => h)).trans (z 0 (by omega))
          have r1 : wr.cell? ⟨b, o + k * 4 + 1, none⟩ = (tokV tk)[1]? := (hf.cell hbw (fun h => h)).trans (z 1 (by omega))
          have r2 : wr.cell? ⟨b, o + k * 4 + 2, none⟩ = (tokV tk)[2]? := (hf.cell hbw (fun h => h)).trans (z 2 (by omega))
          have r3 : wr.cell? ⟨b, o + k * 4 + 3, none⟩ = (tokV tk)[3]? := (hf.cell hbw (fun h => h)).trans (z 3 (by omega))
          simp only [tokV, List.getElem?_cons_zero, List.getElem?_cons_succ] at r0 r1 r2 r3
          clear hc z htk hbw hf
          obtain ⟨⟨kk, ks⟩, kx, ky⟩ := tk
          dsimp only at r0 r1 r2 r3 HT
          by_cases h3 : kk < 3
          · have h3z : (kk : Int) < 3 := by omega
            have HT2 : Hid (lvT (tlb.take (k + 1)) = lvT (tlb.take k) ++ [(⟨kk, ks⟩, kx, ky)]) := hid (by rw [HT.out, if_pos h3])
            obtain ⟨F2, hF2⟩ : ∃ F2, wr.heap.size = F2 := ⟨_, rfl⟩
            have hbx := box_new hF2 #[.int .i64 (kk : Int), .string ⟨ks.toArray⟩, .int .i64 kx, .int .i64 ky] 38
            have HK7 := hid (HK.out.alloc (.cells #[.int .i64 (kk : Int), .string ⟨ks.toArray⟩, .int .i64 kx, .int .i64 ky] 38))
            clear h3 HT
            go_upto_region 28 with fail
            try rw [hF2]
            generalize wr.alloc (.cells #[.int .i64 (kk : Int), .string ⟨ks.toArray⟩, .int .i64 kx, .int .i64 ky] 38) = W7 at *
            obtain ⟨hf7, cc7, -, -⟩ := hbx
            have e0 := cc7 0
            have e1 := cc7 1
            have e2 := cc7 2
            have e3 := cc7 3
            have HFR7 := hid (HFR.out.thenNo hf7)
            have HBS : Hid (NB ≤ W7.heap.size) := hid (by have := HFR7.out.size; have := HN2.out; omega)
            clear hf7 cc7 hF2 r0 r1 r2 r3
            go_wp2_with (at_builtin; go_must (refine wpList_push _ rfl _ _ 34 rfl NB 38 i0 _ 4 40 Tryd.underlying34 gi gz0 gz1 gz2 rfl (.slice aov2 (lvT (tlb.take k)).length cv2) (lvT (tlb.take k)).length (rows tokV (lvT (tlb.take k))) rfl HK7.out [.int .i64 (kk : Int), .string ⟨ks.toArray⟩, .int .i64 kx, .int .i64 ky] rfl rfl (tok_shp.one ((⟨kk, ks⟩, kx, ky) : Tp)) (by have := HTL.out; omega) (by have := HTL.out; omega) HBS.out ?_); intro v7 wg hown7 hd7 hv7 hs7)
            have HFN := hid (push_frm0 HN2.out HFR7.out HK7.out hd7)
            have hown8 : wg.ownsRow NB 38 4 v7 (lvT (tlb.take (k + 1))).length (rows tokV (lvT (tlb.take (k + 1)))) := by
              rw [HT2.out, rows_append, List.length_append]
              exact hown7
            exact ⟨⟨k + 1, by omega, by go_num, hown8, HFN.out⟩, by simp [intOf]; omega⟩
          · have h3z : ¬ (kk : Int) < 3 := by omega
            have HT2 : Hid (lvT (tlb.take (k + 1)) = lvT (tlb.take k)) := hid (by rw [HT.out, if_neg h3, List.append_nil])
            clear h3 HT
            go_wp2_with fail
            exact ⟨⟨k + 1, by omega, by go_num, by rw [HT2.out]; exact HK.out.alloc _, HFR.out.alloc _⟩, by simp [intOf]; omega⟩
        · obtain rfl : k = tlb.length := by omega
          have hpz : ¬ (tlb.length : Int) < (tlb.length : Int) := by omega
          rw [List.take_length] at HK
          try simp only [List.take_length]
          generalize hyb : lvT tlb = yb at *
          have hym : yb.map (·.1) = Gr.leaves lb := by rw [← hyb, lvT_map, htb]
          have hyl : yb.length ≤ 65537 := by rw [← hyb]; have := lvT_len tlb; omega
          have HYM := hid hym
          have HYC := hid (ownsRow_base HK.out (base' := 0) (fun _ _ => Nat.zero_le _))
          have HFC := hid (HFB.out.thenNo HFR.out)
          have HXC := hid (HFR.out.row (ownsRow_base HXA.out (base' := 0) (fun _ _ => Nat.zero_le _)) (fun _ _ h => h))
          have c0 := (HFR.out.cell (World.block_lt_of_cell? WB _ HRB0.out) (fun h => h)).trans HRB0.out
          have c1 := (HFR.out.cell (World.block_lt_of_cell? WB _ HRB1.out) (fun h => h)).trans HRB1.out
          have HGC := hid (HGB.out.frm HFR.out (fun _ _ _ h => h))
          clear hyb hym HK HRB0 HRB1 HGB HFB HFR HOB hf HXA
          obtain ⟨WC, hWC⟩ : ∃ W, W = wr := ⟨_, rfl⟩
          subst hWC
          obtain ⟨q, rfl, hq0, hrp⟩ := HGC.out.first HNE.out
          have hrpz : (0 : Int) < (rs.length : Int) := by omega
          obtain ⟨n, hn⟩ : ∃ n, yb.length = n := ⟨_, rfl⟩
          have HNY := hid hn
          have hn6 : n ≤ 65537 := by omega
          have HCUT : Hid ((xa.length = n ∧ xa.map (·.1) = yb.map (·.1)) ∨ (gm.1 = Gr.headOf gm.2 ∧ ∃ (x : Tp) (xs : List Tp), xa = x :: xs ∧ xs.length = n ∧ xs.map (·.1) = yb.map (·.1))) := hid (by
            rcases HLV.out with h | ⟨h, tk, hh⟩
            · have e : xa.map (·.1) = yb.map (·.1) := by rw [HXM.out, HYM.out, h]
              refine Or.inl ⟨?_, e⟩
              have := congrArg List.length e
              simpa [hn] using this
            · have e : xa.map (·.1) = tk :: yb.map (·.1) := by rw [HXM.out, HYM.out, hh]
              refine Or.inr ⟨h, ?_⟩
              cases hxa : xa with
              | nil => rw [hxa] at e; cases e
              | cons x xs =>
                rw [hxa] at e
                have e2 : xs.map (·.1) = yb.map (·.1) := by
                  rw [List.map_cons] at e
                  injection e
                refine ⟨x, xs, rfl, ?_, e2⟩
                have := congrArg List.length e2
                simpa [hn] using this)
          simp only [hn]
          rw [hn] at HYC
          clear hn hyl
          go_upto_region 30 with fail
          rcases HCUT.out with ⟨hxn, hxe⟩ | ⟨hge, x, xs, rfl, hxn, hxe⟩
          · simp only [hxn]
            rw [hxn] at HXC
            have hne1 : ((n : Int) == (n : Int) + 1) = false := by rw [beq_eq_false_iff_ne]; omega
            clear HCUT
            have HXE := hid hxe
            have HXN := hid hxn
            clear hxe hxn
            have HS2 := hid (same2_of (n := n) (by rw [← HXN.out] at HXC; exact rdl_own tok_shp HXC.out) (by rw [← HNY.out] at HYC; exact rdl_own tok_shp HYC.out) HXE.out HXN.out)
            go_quiet (fail)
            generalize hWD : WC.drewN _ = WD
            have hfd : Frm No WC WD := by rw [← hWD]; exact (Frm.refl No WC).drewN _
            have HFD := hid hfd
            clear hWD hfd
            go_wp2_with fail
            go_loopw [21] (fun i wr => ∃ k : Nat, k ≤ n ∧ i = .int .i64 (k : Int) ∧ Frm No WC wr)
              (fun i _ => n - (intOf i).toNat)
            case atStart => exact ⟨0, by omega, rfl, HFD.out⟩
            case round =>
              obtain ⟨k, hk, rfl, hf⟩ := hrel
              have HF3 := hid hf
              by_cases hkl : k < n
              · have hkz : (k : Int) < (n : Int) := by omega
                have hk6 : k < 65537 := by omega
                obtain ⟨b, o, b', o', tk, eax, eay, x0, x1, y0, y1⟩ := HS2.out k hkl
                subst eay
                subst eax
                have r0 := (hf.cell (World.block_lt_of_cell? WC _ x0) (fun h => h)).trans x0
                have r1 := (hf.cell (World.block_lt_of_cell? WC _ x1) (fun h => h)).trans x1
                have s0 := (hf.cell (World.block_lt_of_cell? WC _ y0) (fun h => h)).trans y0
                have s1 := (hf.cell (World.block_lt_of_cell? WC _ y1) (fun h => h)).trans y1
                clear x0 x1 y0 y1 hf
                go_wp2_with fail
                go_quiet (fail)
                go_wp2_with fail
                exact ⟨⟨k + 1, by omega, by go_num, HF3.out.drewN _⟩, by simp [intOf]; omega⟩
              · obtain rfl : k = n := by omega
                have hpz : ¬ (k : Int) < (k : Int) := by omega
                clear hf
                go_wp2_with fail
                go_ret
                exact ⟨rfl, HFC.out.thenNo HF3.out⟩
          · have HXN := hid hxn
            have HXE := hid hxe
            simp only [List.length_cons, hxn]
            rw [List.length_cons, hxn] at HXC
            have heq1 : ((n + 1 : Nat) : Int) = (n : Int) + 1 := by omega
            rw [← hge] at hq0
            have hcap := own_cap HXC.out
            obtain ⟨p, rfl⟩ : ∃ p, aov1 = some ⟨p, 0, none⟩ := own_some HXC.out (by omega)
            have HTL := hid (fun c => rdl_tail (by rw [HXN.out]; exact HXC.out) c)
            clear HCUT hxn hxe
            go_quiet (fail)
            obtain ⟨ax, hax⟩ : ∃ ax, (if cv1 = 1 then some (⟨p, 0, none⟩ : Addr) else some ⟨p, 4, none⟩) = ax := ⟨_, rfl⟩
            have HS2 : Hid (Same2 WC ax aov2 n) := hid (by
              by_cases h1 : cv1 = 1
              · have hn0 : n = 0 := by omega
                rw [hn0]
                exact fun i hi => absurd hi (Nat.not_lt_zero _)
              · rw [if_neg h1] at hax
                rw [← hax]
                exact same2_of (n := n) (HTL.out cv1) (by rw [← HNY.out] at HYC; exact rdl_own tok_shp HYC.out) HXE.out HXN.out)
            go_upto_region 32 with fail
            try simp only [hax]
            clear hax
            generalize hWD : WC.drewN _ = WD
            have hfd : Frm No WC WD := by rw [← hWD]; exact (Frm.refl No WC).drewN _
            have HFD := hid hfd
            clear hWD hfd
            go_wp2_with fail
            go_loopw [21] (fun i wr => ∃ k : Nat, k ≤ n ∧ i = .int .i64 (k : Int) ∧ Frm No WC wr)
              (fun i _ => n - (intOf i).toNat)
            case atStart => exact ⟨0, by omega, rfl, HFD.out⟩
            case round =>
              obtain ⟨k, hk, rfl, hf⟩ := hrel
              have HF3 := hid hf
              by_cases hkl : k < n
              · have hkz : (k : Int) < (n : Int) := by omega
                have hk6 : k < 65537 := by omega
                obtain ⟨b, o, b', o', tk, eax, eay, x0, x1, y0, y1⟩ := HS2.out k hkl
                subst eay
                subst eax
                have r0 := (hf.cell (World.block_lt_of_cell? WC _ x0) (fun h => h)).trans x0
                have r1 := (hf.cell (World.block_lt_of_cell? WC _ x1) (fun h => h)).trans x1
                have s0 := (hf.cell (World.block_lt_of_cell? WC _ y0) (fun h => h)).trans y0
                have s1 := (hf.cell (World.block_lt_of_cell? WC _ y1) (fun h => h)).trans y1
                clear x0 x1 y0 y1 hf
                go_wp2_with fail
                go_quiet (fail)
                go_wp2_with fail
                exact ⟨⟨k + 1, by omega, by go_num, HF3.out.drewN _⟩, by simp [intOf]; omega⟩
              · obtain rfl : k = n := by omega
                have hpz : ¬ (k : Int) < (k : Int) := by omega
                clear hf
                go_wp2_with fail
                go_ret
                exact ⟨rfl, HFC.out.thenNo HF3.out⟩
end Go.Proofs.YtebocnpbiiejmaaDoor

namespace Go.Proofs.YtebocnpbiiejmaaDoor
open Go.RowKit
theorem top_law (s : List UInt8) (_hb : s.length ≤ 140737488351232) (w : World) (hT : Tab w) :
    Calls Tryd.prog 3 #[.string ⟨s.toArray⟩] w fun e w' => e = .returned (.bool true) ∧ Frm No w w' := by
  by_cases h4 : 4000 < s.length
  · exact top_far s w hT h4
  · cases hp : Gr.parse s with
    | none => exact top_none s w hT (by omega) hp
    | some gm =>
      by_cases hl : 65536 < (Gr.text gm).length
      · exact top_long s w gm hT (by omega) hp hl
      · exact top_some s w gm hT (by omega) hp (by omega)
end Go.Proofs.YtebocnpbiiejmaaDoor
