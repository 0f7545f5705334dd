/- One put into a list of members, of classes, of names. Printed by a program (rollins.py). -/
import Derived.Test.YtofcmghhmklmiaaGreatRollB1
import Derived.Deep.RegionLaw
import Derived.Shelf.RegionOpenPlain
namespace Go.Proofs.YtofcmghhmklmiaaGreat
open Go.RowKit
open Roll

set_option maxRecDepth 100000 in
set_option maxHeartbeats 1000000 in
theorem insert_mem (base : Nat) (v : Value) (l : List (Mem)) (i : Nat) (x : Mem) (vb : Nat) (w : World) (hrow : w.ownsRow base 45 3 v l.length (rows memV l)) (hbw : base ≤ w.heap.size) (hi : i ≤ l.length) (hn : l.length ≤ 100000)
    (hvb : w.heap[vb]? = some (.cells (memV x).toArray 45 (0, 0))) (hne : ∀ k, v.ownBlock = some k → vb ≠ k) :
    Calls Tryz.prog 56 #[v, .int .i64 (i : Int), .slice (some ⟨vb, 0, none⟩) 1 1] w fun e w' =>
      ∃ v', e = .returned v' ∧ w'.ownsRow base 45 3 v' (l.length + 1) (rows memV (l.take i ++ x :: l.drop i)) ∧ (v'.ownBlock = v.ownBlock ∨ ∃ k, v'.ownBlock = some k ∧ w.heap.size ≤ k) ∧ Frm (Own v) w w' := by
  obtain ⟨i0, gi, gz0, gz1, gz2⟩ := info_parts info_mem
  have hsz : (Tryz.prog.info? 45).map (·.size) = some 3 := by rw [gi]; simp [gz1]
  have hxl := memS.len x
  have hx1 := memS.one x
  have hvc : ∀ j u, (memV x)[j]? = some u → w.cell? ⟨vb, j, none⟩ = some u := fun j u hj => by
    have : w.cell? ⟨vb, j, none⟩ = (memV x).toArray[j]? := by simp [World.cell?, hvb]
    rw [this]
    simpa using hj
  by_cases he : i = l.length
  · subst he
    have hE : l.take l.length ++ x :: l.drop l.length = l ++ [x] := by rw [List.take_length, List.drop_length]
    rw [hE, rows_append]
    have hrx : rows memV [x] = memV x := by simp [rows]
    rw [hrx]
    have hsrc : Src Tryz.prog 3 24 (.slice (some ⟨vb, 0, none⟩) 1 1) 1 (memV x) w := Src.ofSlice w Tryz.underlying24 ⟨vb, 0, none⟩ 1 1 _ (by rw [hxl]) (fun j u hj => by rw [Addr.add_lit, Nat.zero_add]; exact hvc j u hj) hx1
    have hgo : ∃ ao c, v = .slice ao l.length c ∧ (ao = none → l.length = 0 ∧ c = 0) ∧ l.length ≤ c ∧ (∀ a, ao = some a → ∃ g, a = ⟨g, 0, none⟩) := by
      rcases hrow.2 with ⟨rfl, h0⟩ | ⟨g, cap, cur, rfl, hbg, hg, hnc, hcm, hcs, htake⟩
      · exact ⟨none, 0, by rw [h0], fun _ => ⟨h0, rfl⟩, by omega, fun a h => by cases h⟩
      · exact ⟨some ⟨g, 0, none⟩, cap, rfl, fun h => (by cases h), hnc, fun a h => by cases h; exact ⟨g, rfl⟩⟩
    obtain ⟨ao, c, rfl, hnil, hlc, hsome⟩ := hgo
    clear hvb hne hvc hxl hx1 hE hrx
    generalize memV x = cx at *
    generalize rows memV l = rl at *
    generalize l.length = n at *
    cases ao with
    | none =>
      obtain ⟨rfl, rfl⟩ := hnil rfl
      go_enter Tryz.func56, Tryz.ntmps56
      go_wp2_with (at_builtin; refine wpList_append_src _ rfl (.tmp 23) (.tmp 24) 24 24 rfl base 45 i0 _ 3 32 Tryz.underlying24 gi gz0 gz1 gz2 rfl _ 0 rl rfl hrow _ 1 cx rfl hsrc (by unfold maxLen; omega) (by omega) hbw ?_; intro v1 w1 hown hf hv)
      go_ret
      exact ⟨_, rfl, hown, hv.imp id (fun h => ⟨_, h, Nat.le_refl _⟩), hf⟩
    | some a =>
      obtain ⟨g, rfl⟩ := hsome a rfl
      clear hnil hsome
      go_enter Tryz.func56, Tryz.ntmps56
      go_wp2_with (at_builtin; refine wpList_append_src _ rfl (.tmp 23) (.tmp 24) 24 24 rfl base 45 i0 _ 3 32 Tryz.underlying24 gi gz0 gz1 gz2 rfl _ n rl rfl hrow _ 1 cx rfl hsrc (by unfold maxLen; omega) (by omega) hbw ?_; intro v1 w1 hown hf hv)
      all_goals
        go_ret
        exact ⟨_, rfl, hown, hv.imp id (fun h => ⟨_, h, Nat.le_refl _⟩), hf⟩
  have hil : i < l.length := by omega
  have hcell : ∀ (g : Nat) (W : World) (c : Array Value), W.heap[g]? = some (.cells c 45 (0, 0)) → ∀ j, W.cell? ⟨g, j, none⟩ = c[j]? := fun g W c h j => by simp [World.cell?, h]
  have hfz : ∀ (g : Nat) (W : World) (c : Array Value), W.heap[g]? = some (.cells c 45 (0, 0)) → ∀ j, W.frozen? ⟨g, j, none⟩ = false := fun g W c h j => by simp [World.frozen?, h]
  rcases hrow.2 with ⟨rfl, h0⟩ | ⟨g, cap, cur, rfl, hbg, hg, hnc, hcm, hcs, htake⟩
  · omega
  unfold maxLen at hcm
  have hvg : vb ≠ g := hne g rfl
  have hdl : (rows memV (l.drop i)).length = (l.length - i) * 3 := by rw [rows_length memS, List.length_drop]
  have hd1 := rows_one memS (l.drop i)
  have hdc : ∀ j u, (rows memV (l.drop i))[j]? = some u → w.cell? ⟨g, i * 3 + j, none⟩ = some u := fun j u hj => by
    have hjl := (List.getElem?_eq_some_iff.1 hj).1
    rw [hdl] at hjl
    rw [hcell g w cur hg, ← hj, ← rows_drop memS, ← htake, List.getElem?_drop, List.getElem?_take_of_lt (by omega), Array.getElem?_toList]
  have hgd : w.drew.heap[g]? = some (.cells cur 45 (0, 0)) := hg
  by_cases hroom : l.length + 1 ≤ cap
  · obtain ⟨cur1, hg1, hcs1, hfr1, hl1⟩ := row_set Tryz.prog (o := (i + 1) * 3) (vs := rows memV (l.drop i)) hgd (by rw [hdl]; omega) hd1
    obtain ⟨W1, hW1⟩ : ∃ W1, W1 = w.drew.setCells g ((i + 1) * 3) (rows memV (l.drop i)) := ⟨_, rfl⟩
    rw [← hW1] at hg1 hfr1
    obtain ⟨cur2, hg2, hcs2, hfr2, hl2⟩ := row_set Tryz.prog (o := i * 3) (vs := memV x) hg1 (by rw [hxl]; omega) hx1
    have hvl : vb < w.heap.size := (Array.getElem?_eq_some_iff.1 hvb).1
    have hv1 : ∀ j u, (memV x)[j]? = some u → W1.cell? ⟨vb, j, none⟩ = some u := fun j u hj => (hfr1.cell (p := ⟨vb, j, none⟩) hvl (fun e => hvg e)).trans (hvc j u hj)
    have hcp1 : ∀ ty dc sc, (Builtin.copy_ #[24, 24] ty #[.slice (some ⟨g, (i + 1) * 3, none⟩) (l.length - i) dc, .slice (some ⟨g, i * 3, none⟩) (l.length + 1 - i) sc]).run Tryz.prog w.drew = .ok (goInt ((l.length - i : Nat) : Int)) W1 := fun ty dc sc => by
      rw [hW1]
      have := run_copyK (P := Tryz.prog) w.drew 24 24 ty 45 3 g ((i + 1) * 3) (l.length - i) dc ⟨g, i * 3, none⟩ (l.length + 1 - i) sc (l.length - i) (rows memV (l.drop i)) Tryz.underlying24 hsz (by simp only [Nat.min_def]; split <;> omega) hdl
        (fun j u hj => by rw [Addr.add_lit]; exact hdc j u hj) (fun j hj => by rw [hcell g _ cur hgd, Array.getElem?_eq_getElem (by omega)]; rfl) (fun j hj => hfz g _ cur hgd _) hd1
      exact this
    have hcp2 : ∀ ty dc, (Builtin.copy_ #[24, 24] ty #[.slice (some ⟨g, i * 3, none⟩) (l.length + 1 - i) dc, .slice (some ⟨vb, 0, none⟩) 1 1]).run Tryz.prog W1 = .ok (goInt 1) (W1.setCells g (i * 3) (memV x)) := fun ty dc => by
      have := run_copyK (P := Tryz.prog) W1 24 24 ty 45 3 g (i * 3) (l.length + 1 - i) dc ⟨vb, 0, none⟩ 1 1 1 (memV x) Tryz.underlying24 hsz (by simp only [Nat.min_def]; split <;> omega) (by rw [hxl])
        (fun j u hj => by rw [Addr.add_lit, Nat.zero_add]; exact hv1 j u hj) (fun j hj => by rw [hcell g _ cur1 hg1, Array.getElem?_eq_getElem (by rw [hxl] at hj; omega)]; rfl) (fun j hj => hfz g _ cur1 hg1 _) hx1
      exact this
    obtain ⟨W2, hW2⟩ : ∃ W2, W2 = W1.setCells g (i * 3) (memV x) := ⟨_, rfl⟩
    rw [← hW2] at hg2 hfr2
    simp only [← hW2] at hcp2
    have hov : ∀ lb cb, (callFunc 86 #[.slice (some ⟨vb, 0, none⟩) 1 1, .slice (some ⟨g, (i + 1) * 3, none⟩) lb cb]).run Tryz.prog w = .ok (.value (.bool false)) w := fun lb cb => by
      rw [run_callFunc_extern Tryz.func86 (by kernel_rfl) (by kernel_rfl) (by kernel_rfl) (e := Extern.SlicesOverlaps.overlaps #[24, 24] #[4]) (by kernel_rfl),
        Lib.run_overlaps_apart w 24 4 45 Tryz.underlying24 3 Tryz.sizeOf45 ⟨vb, 0, none⟩ ⟨g, (i + 1) * 3, none⟩ 1 1 lb cb hvg 45 45 (memV x).toArray.size cur.size (by simp [World.shape?, hvb]) (by simp [World.shape?, hg]) (by rw [hcs]; omega) (hfz vb w _ hvb 0) (hfz vb w _ hvb _)]
      rfl
    have HTK : Hid (cur2.toList.take ((l.length + 1) * 3) = rows memV (l.take i ++ x :: l.drop i)) := hid (row_ins memS hi hroom (by rw [Array.length_toList, hcs]) htake hl1 hl2)
    have HG2 := hid hg2
    have HF : Hid (Frm (One g) w W2) := hid (((Frm.refl (One g) w).drew.then_ hfr1).then_ hfr2)
    have HCS : Hid (cur2.size = cap * 3) := hid (by rw [hcs2, hcs1, hcs])
    have HLL : Hid ((rows memV (l.take i ++ x :: l.drop i)).length = (l.length + 1) * 3) := hid (by
      rw [rows_length memS]
      simp only [List.length_append, List.length_cons, List.length_take, List.length_drop]
      congr 1
      omega)
    clear hW1 hW2 hg1 hg2 hcs1 hcs2 hfr1 hfr2 hl1 hl2 hv1 hvl hgd hdc hd1 hdl hcell hfz hvc hx1 hxl htake hcs hg hvb hrow hsz hne
    generalize rows memV (l.take i ++ x :: l.drop i) = RR at *
    clear he
    generalize l.length = n at *
    have hz1 : ¬ ((i : Int) = (n : Int)) := by omega
    have hz2 : ¬ ((cap : Int) < (n : Int) + 1) := by omega
    have hw1 : IntKind.i64.wrap ((i : Int) + 1) = (i : Int) + 1 := by rw [IntKind.wrap_i64]; omega
    have hb1 : (0 : Int) ≤ (i : Int) + 1 := by omega
    have htn : ((i : Int) + 1).toNat = i + 1 := by omega
    have hb2 : ¬ (cap = i + 1) := by omega
    have hb4 : ¬ (cap = i) := by omega
    have hb3 : (i : Int) ≤ (n : Int) + 1 := by omega
    have hb5 : (i : Int) + 1 ≤ (n : Int) + 1 := by omega
    have hic : i ≤ cap := by omega
    have hi1 : i + 1 ≤ cap := by omega
    go_enter Tryz.func56, Tryz.ntmps56
    go_wp2_with (simp only [hov])
    go_region_law (refine step_copyR rfl _ _ 24 24 rfl _ _ (by simp [Act.eval, Act.put]) (by simp [Act.eval, Act.put]) (hcp1 _ _ _) ?_)
    go_wp2_with (at_builtin; refine wpList_copyR _ rfl _ _ 24 24 rfl _ _ rfl rfl (hcp2 _ _) ?_)
    go_ret
    exact ⟨_, rfl, ⟨HLL.out, .inr ⟨g, cap, cur2, rfl, hbg, HG2.out, hroom, by unfold maxLen; omega, HCS.out, HTK.out⟩⟩, .inl rfl, HF.out.weak (fun k _ e => by have e : k = g := e; subst e; rfl)⟩
  · have hgw : g < w.heap.size := (Array.getElem?_eq_some_iff.1 hg).1
    have hvl : vb < w.heap.size := (Array.getElem?_eq_some_iff.1 hvb).1
    have hti : cur.toList.take (i * 3) = rows memV (l.take i) := by
      rw [← rows_take memS, ← htake, List.take_take, Nat.min_eq_left (by omega)]
    have hrl : (rows memV (l.take i)).length = i * 3 := by rw [rows_length memS, List.length_take, Nat.min_eq_left hi]
    have hold : (Builtin.firstCells i0.size i (.slice (some ⟨g, 0, none⟩) i cap)).run Tryz.prog w.drew = .ok (rows memV (l.take i)).toArray w.drew := by
      rw [gz1]
      exact run_firstCells_some w.drew 3 i ⟨g, 0, none⟩ i cap (rows memV (l.take i)) hrl (fun j u hj => by
        have hjl := (List.getElem?_eq_some_iff.1 hj).1
        rw [hrl] at hjl
        rw [Addr.add_lit, Nat.zero_add, hcell g _ cur hgd, ← hj, ← hti, List.getElem?_take_of_lt (by omega), Array.getElem?_toList])
    obtain ⟨G, hG⟩ : ∃ G, G = grownCap w (l.length + 1) cap 45 := ⟨_, rfl⟩
    obtain ⟨ROW, hROW⟩ : ∃ ROW : Array Value, ROW = (rows memV (l.take i)).toArray ++ Builtin.zeroCells (.agg #[.string ByteArray.empty, .int .i64 0, .int .i64 0] : Value).cells (l.length + 1 - i) ++ Builtin.zeroCells (.agg #[.string ByteArray.empty, .int .i64 0, .int .i64 0] : Value).cells (G - (l.length + 1)) := ⟨_, rfl⟩
    obtain ⟨W1, hW1⟩ : ∃ W1, W1 = w.drew.alloc (.cells ROW 45) := ⟨_, rfl⟩
    have hik : i + (l.length + 1 - i) = l.length + 1 := by omega
    have hrz : ∀ ty, (Builtin.append_ #[24, 3] ty #[.slice (some ⟨g, 0, none⟩) i cap, .int .i64 ((l.length : Int) + 1 - (i : Int))]).run Tryz.prog w = .ok (.slice (some ⟨w.heap.size, 0, none⟩) (l.length + 1) G) W1 := fun ty => by
      have h := Lib.run_append_grow_zeros (P := Tryz.prog) w 24 3 ty 45 i0 _ .i64 .i64 Tryz.underlying24 Tryz.underlying3 gi gz0 (some ⟨g, 0, none⟩) i cap (rows memV (l.take i)) hold (l.length + 1 - i) (by omega) (by omega) (by omega) (by omega) (by rw [gz2]; omega) (by rw [gz2, hik]; exact growslice_fits (by omega) (by omega))
      rw [hik, ← hG, ← hROW, ← hW1] at h
      have e : (l.length : Int) + 1 - (i : Int) = ((l.length + 1 - i : Nat) : Int) := by omega
      rw [e]
      exact h
    have hGn : l.length + 1 ≤ G := by rw [hG]; exact grownCap_ge w _ _ _
    have hG63 : G ≤ 9223372036854775807 := by
      have := grownCap_le_maxLen w (l.length + 1) cap 45 (by unfold maxLen; omega)
      rw [← hG] at this
      unfold maxLen at this
      omega
    have hRs : ROW.size = G * 3 := by
      rw [hROW]
      simp only [Array.size_append, List.size_toArray, hrl, size_zeroCells]
      have : (.agg #[.string ByteArray.empty, .int .i64 0, .int .i64 0] : Value).cells.size = 3 := rfl
      rw [this]
      omega
    have hRt : ROW.toList.take (i * 3) = rows memV (l.take i) := by
      rw [hROW]
      simp only [Array.toList_append, List.append_assoc]
      rw [List.take_append_of_le_length (by rw [hrl]; exact Nat.le_refl _), List.take_of_length_le (by rw [hrl]; exact Nat.le_refl _)]
    have hg1 : W1.heap[w.heap.size]? = some (.cells ROW 45 (0, 0)) := by rw [hW1]; exact heap_alloc_new w.drew _
    have hF1 : Frm No w W1 := by rw [hW1]; exact ((Frm.refl No w).drew).alloc _
    obtain ⟨cur1, hg2, hcs1, hfr1, hl1⟩ := row_set Tryz.prog (o := i * 3) (vs := memV x) hg1 (by rw [hxl]; omega) hx1
    obtain ⟨W2, hW2⟩ : ∃ W2, W2 = W1.setCells w.heap.size (i * 3) (memV x) := ⟨_, rfl⟩
    rw [← hW2] at hg2 hfr1
    have hg2d : W2.drew.heap[w.heap.size]? = some (.cells cur1 45 (0, 0)) := hg2
    obtain ⟨cur2, hg3, hcs2, hfr2, hl2⟩ := row_set Tryz.prog (o := (i + 1) * 3) (vs := rows memV (l.drop i)) hg2d (by rw [hdl]; omega) hd1
    obtain ⟨W3, hW3⟩ : ∃ W3, W3 = W2.drew.setCells w.heap.size ((i + 1) * 3) (rows memV (l.drop i)) := ⟨_, rfl⟩
    rw [← hW3] at hg3 hfr2
    have hv1 : ∀ j u, (memV x)[j]? = some u → W1.cell? ⟨vb, j, none⟩ = some u := fun j u hj => (hF1.cell (p := ⟨vb, j, none⟩) hvl (fun e => e)).trans (hvc j u hj)
    have hd2 : ∀ j u, (rows memV (l.drop i))[j]? = some u → W2.drew.cell? ⟨g, i * 3 + j, none⟩ = some u := fun j u hj => by
      have e1 := hfr1.cell (p := ⟨g, i * 3 + j, none⟩) (Nat.lt_of_lt_of_le hgw hF1.size) (fun e => by have e : g = w.heap.size := e; omega)
      have e2 := hF1.cell (p := ⟨g, i * 3 + j, none⟩) hgw (fun e => e)
      exact (e1.trans e2).trans (hdc j u hj)
    have hcp1 : ∀ ty dc, (Builtin.copy_ #[24, 24] ty #[.slice (some ⟨w.heap.size, i * 3, none⟩) (l.length + 1 - i) dc, .slice (some ⟨vb, 0, none⟩) 1 1]).run Tryz.prog W1 = .ok (goInt 1) W2 := fun ty dc => by
      have := run_copyK (P := Tryz.prog) W1 24 24 ty 45 3 w.heap.size (i * 3) (l.length + 1 - i) dc ⟨vb, 0, none⟩ 1 1 1 (memV x) Tryz.underlying24 hsz (by simp only [Nat.min_def]; split <;> omega) (by rw [hxl])
        (fun j u hj => by rw [Addr.add_lit, Nat.zero_add]; exact hv1 j u hj) (fun j hj => by rw [hcell _ _ ROW hg1, Array.getElem?_eq_getElem (by rw [hxl] at hj; omega)]; rfl) (fun j hj => hfz _ _ ROW hg1 _) hx1
      rw [← hW2] at this
      exact this
    have hcp2 : ∀ ty dc sc, (Builtin.copy_ #[24, 24] ty #[.slice (some ⟨w.heap.size, (i + 1) * 3, none⟩) (l.length - i) dc, .slice (some ⟨g, i * 3, none⟩) (l.length - i) sc]).run Tryz.prog W2.drew = .ok (goInt ((l.length - i : Nat) : Int)) W3 := fun ty dc sc => by
      have := run_copyK (P := Tryz.prog) W2.drew 24 24 ty 45 3 w.heap.size ((i + 1) * 3) (l.length - i) dc ⟨g, i * 3, none⟩ (l.length - i) sc (l.length - i) (rows memV (l.drop i)) Tryz.underlying24 hsz (by simp only [Nat.min_def]; split <;> omega) hdl
        (fun j u hj => by rw [Addr.add_lit]; exact hd2 j u hj) (fun j hj => by rw [hcell _ _ cur1 hg2d, Array.getElem?_eq_getElem (by omega)]; rfl) (fun j hj => hfz _ _ cur1 hg2d _) hd1
      rw [← hW3] at this
      exact this
    have HTK : Hid (cur2.toList.take ((l.length + 1) * 3) = rows memV (l.take i ++ x :: l.drop i)) := hid (row_insN memS hi hGn (by rw [Array.length_toList, hRs]) hRt hl1 hl2)
    have HG3 := hid hg3
    have HF : Hid (Frm No w W3) := hid (hF1.trans ((hfr1.drew).then_ hfr2) (fun _ _ h => h) (fun k hk e => by have e : k = w.heap.size := e; omega))
    have HCS : Hid (cur2.size = G * 3) := hid (by rw [hcs2, hcs1, hRs])
    have HLL : Hid ((rows memV (l.take i ++ x :: l.drop i)).length = (l.length + 1) * 3) := hid (by
      rw [rows_length memS]
      simp only [List.length_append, List.length_cons, List.length_take, List.length_drop]
      congr 1
      omega)
    have HB := hid hbw
    clear hW1 hW2 hW3 hg1 hg2 hg2d hg3 hcs1 hcs2 hfr1 hfr2 hl1 hl2 hv1 hvl hgd hdc hd1 hd2 hdl hcell hfz hvc hx1 hxl htake hcs hg hvb hrow hsz hne hF1 hRt hRs hROW hG hold hrl hti hik hgw hbw
    generalize rows memV (l.take i ++ x :: l.drop i) = RR at *
    clear he
    generalize l.length = n at *
    generalize hN : w.heap.size = N at *
    have hz1 : ¬ ((i : Int) = (n : Int)) := by omega
    have hz2 : (cap : Int) < (n : Int) + 1 := by omega
    have hw1 : IntKind.i64.wrap ((i : Int) + 1) = (i : Int) + 1 := by rw [IntKind.wrap_i64]; omega
    have hb1 : (0 : Int) ≤ (i : Int) + 1 := by omega
    have htn : ((i : Int) + 1).toNat = i + 1 := by omega
    have hb2 : ¬ (G = i + 1) := by omega
    have hb4 : ¬ (cap = i) := by omega
    have hb6 : ¬ (G = i) := by omega
    have hb3 : (i : Int) ≤ (n : Int) + 1 := by omega
    have hb5 : (i : Int) + 1 ≤ (n : Int) + 1 := by omega
    have hic : i ≤ cap := by omega
    have hin : i ≤ n := by omega
    go_enter Tryz.func56, Tryz.ntmps56
    go_wp2_with (first | (at_builtin; refine Lib.wpList_append_run _ rfl (.tmp 34) (.tmp 39) _ _ rfl _ _ rfl rfl _ _ (hrz _) ?_) | (at_builtin; refine wpList_copyR _ rfl _ _ 24 24 rfl _ _ rfl rfl (hcp1 _ _) ?_))
    go_region_law (refine step_copyR rfl _ _ 24 24 rfl _ _ (by simp [Act.eval, Act.put]) (by simp [Act.eval, Act.put]) (hcp2 _ _ _) ?_)
    go_wp2_with fail
    go_ret
    exact ⟨_, rfl, ⟨HLL.out, .inr ⟨N, G, cur2, rfl, HB.out, HG3.out, hGn, by unfold maxLen; omega, HCS.out, HTK.out⟩⟩, .inr ⟨N, rfl, Nat.le_refl _⟩, HF.out.any⟩
set_option maxRecDepth 100000 in
set_option maxHeartbeats 1000000 in
theorem insert_cls (base : Nat) (v : Value) (l : List (CV)) (i : Nat) (x : CV) (vb : Nat) (w : World) (hrow : w.ownsRow base 53 3 v l.length (rows clsV l)) (hbw : base ≤ w.heap.size) (hi : i ≤ l.length) (hn : l.length ≤ 100000)
    (hvb : w.heap[vb]? = some (.cells (clsV x).toArray 53 (0, 0))) (hne : ∀ k, v.ownBlock = some k → vb ≠ k) :
    Calls Tryz.prog 57 #[v, .int .i64 (i : Int), .slice (some ⟨vb, 0, none⟩) 1 1] w fun e w' =>
      ∃ v', e = .returned v' ∧ w'.ownsRow base 53 3 v' (l.length + 1) (rows clsV (l.take i ++ x :: l.drop i)) ∧ (v'.ownBlock = v.ownBlock ∨ ∃ k, v'.ownBlock = some k ∧ w.heap.size ≤ k) ∧ Frm (Own v) w w' := by
  obtain ⟨i0, gi, gz0, gz1, gz2⟩ := info_parts info_cls
  have hsz : (Tryz.prog.info? 53).map (·.size) = some 3 := by rw [gi]; simp [gz1]
  have hxl := clsS.len x
  have hx1 := clsS.one x
  have hvc : ∀ j u, (clsV x)[j]? = some u → w.cell? ⟨vb, j, none⟩ = some u := fun j u hj => by
    have : w.cell? ⟨vb, j, none⟩ = (clsV x).toArray[j]? := by simp [World.cell?, hvb]
    rw [this]
    simpa using hj
  by_cases he : i = l.length
  · subst he
    have hE : l.take l.length ++ x :: l.drop l.length = l ++ [x] := by rw [List.take_length, List.drop_length]
    rw [hE, rows_append]
    have hrx : rows clsV [x] = clsV x := by simp [rows]
    rw [hrx]
    have hsrc : Src Tryz.prog 3 25 (.slice (some ⟨vb, 0, none⟩) 1 1) 1 (clsV x) w := Src.ofSlice w Tryz.underlying25 ⟨vb, 0, none⟩ 1 1 _ (by rw [hxl]) (fun j u hj => by rw [Addr.add_lit, Nat.zero_add]; exact hvc j u hj) hx1
    have hgo : ∃ ao c, v = .slice ao l.length c ∧ (ao = none → l.length = 0 ∧ c = 0) ∧ l.length ≤ c ∧ (∀ a, ao = some a → ∃ g, a = ⟨g, 0, none⟩) := by
      rcases hrow.2 with ⟨rfl, h0⟩ | ⟨g, cap, cur, rfl, hbg, hg, hnc, hcm, hcs, htake⟩
      · exact ⟨none, 0, by rw [h0], fun _ => ⟨h0, rfl⟩, by omega, fun a h => by cases h⟩
      · exact ⟨some ⟨g, 0, none⟩, cap, rfl, fun h => (by cases h), hnc, fun a h => by cases h; exact ⟨g, rfl⟩⟩
    obtain ⟨ao, c, rfl, hnil, hlc, hsome⟩ := hgo
    clear hvb hne hvc hxl hx1 hE hrx
    generalize clsV x = cx at *
    generalize rows clsV l = rl at *
    generalize l.length = n at *
    cases ao with
    | none =>
      obtain ⟨rfl, rfl⟩ := hnil rfl
      go_enter Tryz.func57, Tryz.ntmps57
      go_wp2_with (at_builtin; refine wpList_append_src _ rfl (.tmp 23) (.tmp 24) 25 25 rfl base 53 i0 _ 3 56 Tryz.underlying25 gi gz0 gz1 gz2 rfl _ 0 rl rfl hrow _ 1 cx rfl hsrc (by unfold maxLen; omega) (by omega) hbw ?_; intro v1 w1 hown hf hv)
      go_ret
      exact ⟨_, rfl, hown, hv.imp id (fun h => ⟨_, h, Nat.le_refl _⟩), hf⟩
    | some a =>
      obtain ⟨g, rfl⟩ := hsome a rfl
      clear hnil hsome
      go_enter Tryz.func57, Tryz.ntmps57
      go_wp2_with (at_builtin; refine wpList_append_src _ rfl (.tmp 23) (.tmp 24) 25 25 rfl base 53 i0 _ 3 56 Tryz.underlying25 gi gz0 gz1 gz2 rfl _ n rl rfl hrow _ 1 cx rfl hsrc (by unfold maxLen; omega) (by omega) hbw ?_; intro v1 w1 hown hf hv)
      all_goals
        go_ret
        exact ⟨_, rfl, hown, hv.imp id (fun h => ⟨_, h, Nat.le_refl _⟩), hf⟩
  have hil : i < l.length := by omega
  have hcell : ∀ (g : Nat) (W : World) (c : Array Value), W.heap[g]? = some (.cells c 53 (0, 0)) → ∀ j, W.cell? ⟨g, j, none⟩ = c[j]? := fun g W c h j => by simp [World.cell?, h]
  have hfz : ∀ (g : Nat) (W : World) (c : Array Value), W.heap[g]? = some (.cells c 53 (0, 0)) → ∀ j, W.frozen? ⟨g, j, none⟩ = false := fun g W c h j => by simp [World.frozen?, h]
  rcases hrow.2 with ⟨rfl, h0⟩ | ⟨g, cap, cur, rfl, hbg, hg, hnc, hcm, hcs, htake⟩
  · omega
  unfold maxLen at hcm
  have hvg : vb ≠ g := hne g rfl
  have hdl : (rows clsV (l.drop i)).length = (l.length - i) * 3 := by rw [rows_length clsS, List.length_drop]
  have hd1 := rows_one clsS (l.drop i)
  have hdc : ∀ j u, (rows clsV (l.drop i))[j]? = some u → w.cell? ⟨g, i * 3 + j, none⟩ = some u := fun j u hj => by
    have hjl := (List.getElem?_eq_some_iff.1 hj).1
    rw [hdl] at hjl
    rw [hcell g w cur hg, ← hj, ← rows_drop clsS, ← htake, List.getElem?_drop, List.getElem?_take_of_lt (by omega), Array.getElem?_toList]
  have hgd : w.drew.heap[g]? = some (.cells cur 53 (0, 0)) := hg
  by_cases hroom : l.length + 1 ≤ cap
  · obtain ⟨cur1, hg1, hcs1, hfr1, hl1⟩ := row_set Tryz.prog (o := (i + 1) * 3) (vs := rows clsV (l.drop i)) hgd (by rw [hdl]; omega) hd1
    obtain ⟨W1, hW1⟩ : ∃ W1, W1 = w.drew.setCells g ((i + 1) * 3) (rows clsV (l.drop i)) := ⟨_, rfl⟩
    rw [← hW1] at hg1 hfr1
    obtain ⟨cur2, hg2, hcs2, hfr2, hl2⟩ := row_set Tryz.prog (o := i * 3) (vs := clsV x) hg1 (by rw [hxl]; omega) hx1
    have hvl : vb < w.heap.size := (Array.getElem?_eq_some_iff.1 hvb).1
    have hv1 : ∀ j u, (clsV x)[j]? = some u → W1.cell? ⟨vb, j, none⟩ = some u := fun j u hj => (hfr1.cell (p := ⟨vb, j, none⟩) hvl (fun e => hvg e)).trans (hvc j u hj)
    have hcp1 : ∀ ty dc sc, (Builtin.copy_ #[25, 25] ty #[.slice (some ⟨g, (i + 1) * 3, none⟩) (l.length - i) dc, .slice (some ⟨g, i * 3, none⟩) (l.length + 1 - i) sc]).run Tryz.prog w.drew = .ok (goInt ((l.length - i : Nat) : Int)) W1 := fun ty dc sc => by
      rw [hW1]
      have := run_copyK (P := Tryz.prog) w.drew 25 25 ty 53 3 g ((i + 1) * 3) (l.length - i) dc ⟨g, i * 3, none⟩ (l.length + 1 - i) sc (l.length - i) (rows clsV (l.drop i)) Tryz.underlying25 hsz (by simp only [Nat.min_def]; split <;> omega) hdl
        (fun j u hj => by rw [Addr.add_lit]; exact hdc j u hj) (fun j hj => by rw [hcell g _ cur hgd, Array.getElem?_eq_getElem (by omega)]; rfl) (fun j hj => hfz g _ cur hgd _) hd1
      exact this
    have hcp2 : ∀ ty dc, (Builtin.copy_ #[25, 25] ty #[.slice (some ⟨g, i * 3, none⟩) (l.length + 1 - i) dc, .slice (some ⟨vb, 0, none⟩) 1 1]).run Tryz.prog W1 = .ok (goInt 1) (W1.setCells g (i * 3) (clsV x)) := fun ty dc => by
      have := run_copyK (P := Tryz.prog) W1 25 25 ty 53 3 g (i * 3) (l.length + 1 - i) dc ⟨vb, 0, none⟩ 1 1 1 (clsV x) Tryz.underlying25 hsz (by simp only [Nat.min_def]; split <;> omega) (by rw [hxl])
        (fun j u hj => by rw [Addr.add_lit, Nat.zero_add]; exact hv1 j u hj) (fun j hj => by rw [hcell g _ cur1 hg1, Array.getElem?_eq_getElem (by rw [hxl] at hj; omega)]; rfl) (fun j hj => hfz g _ cur1 hg1 _) hx1
      exact this
    obtain ⟨W2, hW2⟩ : ∃ W2, W2 = W1.setCells g (i * 3) (clsV x) := ⟨_, rfl⟩
    rw [← hW2] at hg2 hfr2
    simp only [← hW2] at hcp2
    have hov : ∀ lb cb, (callFunc 88 #[.slice (some ⟨vb, 0, none⟩) 1 1, .slice (some ⟨g, (i + 1) * 3, none⟩) lb cb]).run Tryz.prog w = .ok (.value (.bool false)) w := fun lb cb => by
      rw [run_callFunc_extern Tryz.func88 (by kernel_rfl) (by kernel_rfl) (by kernel_rfl) (e := Extern.SlicesOverlaps.overlaps #[25, 25] #[4]) (by kernel_rfl),
        Lib.run_overlaps_apart w 25 4 53 Tryz.underlying25 3 Tryz.sizeOf53 ⟨vb, 0, none⟩ ⟨g, (i + 1) * 3, none⟩ 1 1 lb cb hvg 53 53 (clsV x).toArray.size cur.size (by simp [World.shape?, hvb]) (by simp [World.shape?, hg]) (by rw [hcs]; omega) (hfz vb w _ hvb 0) (hfz vb w _ hvb _)]
      rfl
    have HTK : Hid (cur2.toList.take ((l.length + 1) * 3) = rows clsV (l.take i ++ x :: l.drop i)) := hid (row_ins clsS hi hroom (by rw [Array.length_toList, hcs]) htake hl1 hl2)
    have HG2 := hid hg2
    have HF : Hid (Frm (One g) w W2) := hid (((Frm.refl (One g) w).drew.then_ hfr1).then_ hfr2)
    have HCS : Hid (cur2.size = cap * 3) := hid (by rw [hcs2, hcs1, hcs])
    have HLL : Hid ((rows clsV (l.take i ++ x :: l.drop i)).length = (l.length + 1) * 3) := hid (by
      rw [rows_length clsS]
      simp only [List.length_append, List.length_cons, List.length_take, List.length_drop]
      congr 1
      omega)
    clear hW1 hW2 hg1 hg2 hcs1 hcs2 hfr1 hfr2 hl1 hl2 hv1 hvl hgd hdc hd1 hdl hcell hfz hvc hx1 hxl htake hcs hg hvb hrow hsz hne
    generalize rows clsV (l.take i ++ x :: l.drop i) = RR at *
    clear he
    generalize l.length = n at *
    have hz1 : ¬ ((i : Int) = (n : Int)) := by omega
    have hz2 : ¬ ((cap : Int) < (n : Int) + 1) := by omega
    have hw1 : IntKind.i64.wrap ((i : Int) + 1) = (i : Int) + 1 := by rw [IntKind.wrap_i64]; omega
    have hb1 : (0 : Int) ≤ (i : Int) + 1 := by omega
    have htn : ((i : Int) + 1).toNat = i + 1 := by omega
    have hb2 : ¬ (cap = i + 1) := by omega
    have hb4 : ¬ (cap = i) := by omega
    have hb3 : (i : Int) ≤ (n : Int) + 1 := by omega
    have hb5 : (i : Int) + 1 ≤ (n : Int) + 1 := by omega
    have hic : i ≤ cap := by omega
    have hi1 : i + 1 ≤ cap := by omega
    go_enter Tryz.func57, Tryz.ntmps57
    go_wp2_with (simp only [hov])
    go_region_law (refine step_copyR rfl _ _ 25 25 rfl _ _ (by simp [Act.eval, Act.put]) (by simp [Act.eval, Act.put]) (hcp1 _ _ _) ?_)
    go_wp2_with (at_builtin; refine wpList_copyR _ rfl _ _ 25 25 rfl _ _ rfl rfl (hcp2 _ _) ?_)
    go_ret
    exact ⟨_, rfl, ⟨HLL.out, .inr ⟨g, cap, cur2, rfl, hbg, HG2.out, hroom, by unfold maxLen; omega, HCS.out, HTK.out⟩⟩, .inl rfl, HF.out.weak (fun k _ e => by have e : k = g := e; subst e; rfl)⟩
  · have hgw : g < w.heap.size := (Array.getElem?_eq_some_iff.1 hg).1
    have hvl : vb < w.heap.size := (Array.getElem?_eq_some_iff.1 hvb).1
    have hti : cur.toList.take (i * 3) = rows clsV (l.take i) := by
      rw [← rows_take clsS, ← htake, List.take_take, Nat.min_eq_left (by omega)]
    have hrl : (rows clsV (l.take i)).length = i * 3 := by rw [rows_length clsS, List.length_take, Nat.min_eq_left hi]
    have hold : (Builtin.firstCells i0.size i (.slice (some ⟨g, 0, none⟩) i cap)).run Tryz.prog w.drew = .ok (rows clsV (l.take i)).toArray w.drew := by
      rw [gz1]
      exact run_firstCells_some w.drew 3 i ⟨g, 0, none⟩ i cap (rows clsV (l.take i)) hrl (fun j u hj => by
        have hjl := (List.getElem?_eq_some_iff.1 hj).1
        rw [hrl] at hjl
        rw [Addr.add_lit, Nat.zero_add, hcell g _ cur hgd, ← hj, ← hti, List.getElem?_take_of_lt (by omega), Array.getElem?_toList])
    obtain ⟨G, hG⟩ : ∃ G, G = grownCap w (l.length + 1) cap 53 := ⟨_, rfl⟩
    obtain ⟨ROW, hROW⟩ : ∃ ROW : Array Value, ROW = (rows clsV (l.take i)).toArray ++ Builtin.zeroCells (.agg #[.string ByteArray.empty, .string ByteArray.empty, .slice none 0 0] : Value).cells (l.length + 1 - i) ++ Builtin.zeroCells (.agg #[.string ByteArray.empty, .string ByteArray.empty, .slice none 0 0] : Value).cells (G - (l.length + 1)) := ⟨_, rfl⟩
    obtain ⟨W1, hW1⟩ : ∃ W1, W1 = w.drew.alloc (.cells ROW 53) := ⟨_, rfl⟩
    have hik : i + (l.length + 1 - i) = l.length + 1 := by omega
    have hrz : ∀ ty, (Builtin.append_ #[25, 3] ty #[.slice (some ⟨g, 0, none⟩) i cap, .int .i64 ((l.length : Int) + 1 - (i : Int))]).run Tryz.prog w = .ok (.slice (some ⟨w.heap.size, 0, none⟩) (l.length + 1) G) W1 := fun ty => by
      have h := Lib.run_append_grow_zeros (P := Tryz.prog) w 25 3 ty 53 i0 _ .i64 .i64 Tryz.underlying25 Tryz.underlying3 gi gz0 (some ⟨g, 0, none⟩) i cap (rows clsV (l.take i)) hold (l.length + 1 - i) (by omega) (by omega) (by omega) (by omega) (by rw [gz2]; omega) (by rw [gz2, hik]; exact growslice_fits (by omega) (by omega))
      rw [hik, ← hG, ← hROW, ← hW1] at h
      have e : (l.length : Int) + 1 - (i : Int) = ((l.length + 1 - i : Nat) : Int) := by omega
      rw [e]
      exact h
    have hGn : l.length + 1 ≤ G := by rw [hG]; exact grownCap_ge w _ _ _
    have hG63 : G ≤ 9223372036854775807 := by
      have := grownCap_le_maxLen w (l.length + 1) cap 53 (by unfold maxLen; omega)
      rw [← hG] at this
      unfold maxLen at this
      omega
    have hRs : ROW.size = G * 3 := by
      rw [hROW]
      simp only [Array.size_append, List.size_toArray, hrl, size_zeroCells]
      have : (.agg #[.string ByteArray.empty, .string ByteArray.empty, .slice none 0 0] : Value).cells.size = 3 := rfl
      rw [this]
      omega
    have hRt : ROW.toList.take (i * 3) = rows clsV (l.take i) := by
      rw [hROW]
      simp only [Array.toList_append, List.append_assoc]
      rw [List.take_append_of_le_length (by rw [hrl]; exact Nat.le_refl _), List.take_of_length_le (by rw [hrl]; exact Nat.le_refl _)]
    have hg1 : W1.heap[w.heap.size]? = some (.cells ROW 53 (0, 0)) := by rw [hW1]; exact heap_alloc_new w.drew _
    have hF1 : Frm No w W1 := by rw [hW1]; exact ((Frm.refl No w).drew).alloc _
    obtain ⟨cur1, hg2, hcs1, hfr1, hl1⟩ := row_set Tryz.prog (o := i * 3) (vs := clsV x) hg1 (by rw [hxl]; omega) hx1
    obtain ⟨W2, hW2⟩ : ∃ W2, W2 = W1.setCells w.heap.size (i * 3) (clsV x) := ⟨_, rfl⟩
    rw [← hW2] at hg2 hfr1
    have hg2d : W2.drew.heap[w.heap.size]? = some (.cells cur1 53 (0, 0)) := hg2
    obtain ⟨cur2, hg3, hcs2, hfr2, hl2⟩ := row_set Tryz.prog (o := (i + 1) * 3) (vs := rows clsV (l.drop i)) hg2d (by rw [hdl]; omega) hd1
    obtain ⟨W3, hW3⟩ : ∃ W3, W3 = W2.drew.setCells w.heap.size ((i + 1) * 3) (rows clsV (l.drop i)) := ⟨_, rfl⟩
    rw [← hW3] at hg3 hfr2
    have hv1 : ∀ j u, (clsV x)[j]? = some u → W1.cell? ⟨vb, j, none⟩ = some u := fun j u hj => (hF1.cell (p := ⟨vb, j, none⟩) hvl (fun e => e)).trans (hvc j u hj)
    have hd2 : ∀ j u, (rows clsV (l.drop i))[j]? = some u → W2.drew.cell? ⟨g, i * 3 + j, none⟩ = some u := fun j u hj => by
      have e1 := hfr1.cell (p := ⟨g, i * 3 + j, none⟩) (Nat.lt_of_lt_of_le hgw hF1.size) (fun e => by have e : g = w.heap.size := e; omega)
      have e2 := hF1.cell (p := ⟨g, i * 3 + j, none⟩) hgw (fun e => e)
      exact (e1.trans e2).trans (hdc j u hj)
    have hcp1 : ∀ ty dc, (Builtin.copy_ #[25, 25] ty #[.slice (some ⟨w.heap.size, i * 3, none⟩) (l.length + 1 - i) dc, .slice (some ⟨vb, 0, none⟩) 1 1]).run Tryz.prog W1 = .ok (goInt 1) W2 := fun ty dc => by
      have := run_copyK (P := Tryz.prog) W1 25 25 ty 53 3 w.heap.size (i * 3) (l.length + 1 - i) dc ⟨vb, 0, none⟩ 1 1 1 (clsV x) Tryz.underlying25 hsz (by simp only [Nat.min_def]; split <;> omega) (by rw [hxl])
        (fun j u hj => by rw [Addr.add_lit, Nat.zero_add]; exact hv1 j u hj) (fun j hj => by rw [hcell _ _ ROW hg1, Array.getElem?_eq_getElem (by rw [hxl] at hj; omega)]; rfl) (fun j hj => hfz _ _ ROW hg1 _) hx1
      rw [← hW2] at this
      exact this
    have hcp2 : ∀ ty dc sc, (Builtin.copy_ #[25, 25] ty #[.slice (some ⟨w.heap.size, (i + 1) * 3, none⟩) (l.length - i) dc, .slice (some ⟨g, i * 3, none⟩) (l.length - i) sc]).run Tryz.prog W2.drew = .ok (goInt ((l.length - i : Nat) : Int)) W3 := fun ty dc sc => by
      have := run_copyK (P := Tryz.prog) W2.drew 25 25 ty 53 3 w.heap.size ((i + 1) * 3) (l.length - i) dc ⟨g, i * 3, none⟩ (l.length - i) sc (l.length - i) (rows clsV (l.drop i)) Tryz.underlying25 hsz (by simp only [Nat.min_def]; split <;> omega) hdl
        (fun j u hj => by rw [Addr.add_lit]; exact hd2 j u hj) (fun j hj => by rw [hcell _ _ cur1 hg2d, Array.getElem?_eq_getElem (by omega)]; rfl) (fun j hj => hfz _ _ cur1 hg2d _) hd1
      rw [← hW3] at this
      exact this
    have HTK : Hid (cur2.toList.take ((l.length + 1) * 3) = rows clsV (l.take i ++ x :: l.drop i)) := hid (row_insN clsS hi hGn (by rw [Array.length_toList, hRs]) hRt hl1 hl2)
    have HG3 := hid hg3
    have HF : Hid (Frm No w W3) := hid (hF1.trans ((hfr1.drew).then_ hfr2) (fun _ _ h => h) (fun k hk e => by have e : k = w.heap.size := e; omega))
    have HCS : Hid (cur2.size = G * 3) := hid (by rw [hcs2, hcs1, hRs])
    have HLL : Hid ((rows clsV (l.take i ++ x :: l.drop i)).length = (l.length + 1) * 3) := hid (by
      rw [rows_length clsS]
      simp only [List.length_append, List.length_cons, List.length_take, List.length_drop]
      congr 1
      omega)
    have HB := hid hbw
    clear hW1 hW2 hW3 hg1 hg2 hg2d hg3 hcs1 hcs2 hfr1 hfr2 hl1 hl2 hv1 hvl hgd hdc hd1 hd2 hdl hcell hfz hvc hx1 hxl htake hcs hg hvb hrow hsz hne hF1 hRt hRs hROW hG hold hrl hti hik hgw hbw
    generalize rows clsV (l.take i ++ x :: l.drop i) = RR at *
    clear he
    generalize l.length = n at *
    generalize hN : w.heap.size = N at *
    have hz1 : ¬ ((i : Int) = (n : Int)) := by omega
    have hz2 : (cap : Int) < (n : Int) + 1 := by omega
    have hw1 : IntKind.i64.wrap ((i : Int) + 1) = (i : Int) + 1 := by rw [IntKind.wrap_i64]; omega
    have hb1 : (0 : Int) ≤ (i : Int) + 1 := by omega
    have htn : ((i : Int) + 1).toNat = i + 1 := by omega
    have hb2 : ¬ (G = i + 1) := by omega
    have hb4 : ¬ (cap = i) := by omega
    have hb6 : ¬ (G = i) := by omega
    have hb3 : (i : Int) ≤ (n : Int) + 1 := by omega
    have hb5 : (i : Int) + 1 ≤ (n : Int) + 1 := by omega
    have hic : i ≤ cap := by omega
    have hin : i ≤ n := by omega
    go_enter Tryz.func57, Tryz.ntmps57
    go_wp2_with (first | (at_builtin; refine Lib.wpList_append_run _ rfl (.tmp 34) (.tmp 39) _ _ rfl _ _ rfl rfl _ _ (hrz _) ?_) | (at_builtin; refine wpList_copyR _ rfl _ _ 25 25 rfl _ _ rfl rfl (hcp1 _ _) ?_))
    go_region_law (refine step_copyR rfl _ _ 25 25 rfl _ _ (by simp [Act.eval, Act.put]) (by simp [Act.eval, Act.put]) (hcp2 _ _ _) ?_)
    go_wp2_with fail
    go_ret
    exact ⟨_, rfl, ⟨HLL.out, .inr ⟨N, G, cur2, rfl, HB.out, HG3.out, hGn, by unfold maxLen; omega, HCS.out, HTK.out⟩⟩, .inr ⟨N, rfl, Nat.le_refl _⟩, HF.out.any⟩
set_option maxRecDepth 100000 in
set_option maxHeartbeats 1000000 in
theorem insert_str (base : Nat) (v : Value) (l : List (B)) (i : Nat) (x : B) (vb : Nat) (w : World) (hrow : w.ownsRow base 9 1 v l.length (rows strV l)) (hbw : base ≤ w.heap.size) (hi : i ≤ l.length) (hn : l.length ≤ 100000)
    (hvb : w.heap[vb]? = some (.cells (strV x).toArray 9 (0, 0))) (hne : ∀ k, v.ownBlock = some k → vb ≠ k) :
    Calls Tryz.prog 64 #[v, .int .i64 (i : Int), .slice (some ⟨vb, 0, none⟩) 1 1] w fun e w' =>
      ∃ v', e = .returned v' ∧ w'.ownsRow base 9 1 v' (l.length + 1) (rows strV (l.take i ++ x :: l.drop i)) ∧ (v'.ownBlock = v.ownBlock ∨ ∃ k, v'.ownBlock = some k ∧ w.heap.size ≤ k) ∧ Frm (Own v) w w' := by
  obtain ⟨i0, gi, gz0, gz1, gz2⟩ := info_parts info_str
  have hsz : (Tryz.prog.info? 9).map (·.size) = some 1 := by rw [gi]; simp [gz1]
  have hxl := strS.len x
  have hx1 := strS.one x
  have hvc : ∀ j u, (strV x)[j]? = some u → w.cell? ⟨vb, j, none⟩ = some u := fun j u hj => by
    have : w.cell? ⟨vb, j, none⟩ = (strV x).toArray[j]? := by simp [World.cell?, hvb]
    rw [this]
    simpa using hj
  by_cases he : i = l.length
  · subst he
    have hE : l.take l.length ++ x :: l.drop l.length = l ++ [x] := by rw [List.take_length, List.drop_length]
    rw [hE, rows_append]
    have hrx : rows strV [x] = strV x := by simp [rows]
    rw [hrx]
    have hsrc : Src Tryz.prog 1 51 (.slice (some ⟨vb, 0, none⟩) 1 1) 1 (strV x) w := Src.ofSlice w Tryz.underlying51 ⟨vb, 0, none⟩ 1 1 _ (by rw [hxl]) (fun j u hj => by rw [Addr.add_lit, Nat.zero_add]; exact hvc j u hj) hx1
    have hgo : ∃ ao c, v = .slice ao l.length c ∧ (ao = none → l.length = 0 ∧ c = 0) ∧ l.length ≤ c ∧ (∀ a, ao = some a → ∃ g, a = ⟨g, 0, none⟩) := by
      rcases hrow.2 with ⟨rfl, h0⟩ | ⟨g, cap, cur, rfl, hbg, hg, hnc, hcm, hcs, htake⟩
      · exact ⟨none, 0, by rw [h0], fun _ => ⟨h0, rfl⟩, by omega, fun a h => by cases h⟩
      · exact ⟨some ⟨g, 0, none⟩, cap, rfl, fun h => (by cases h), hnc, fun a h => by cases h; exact ⟨g, rfl⟩⟩
    obtain ⟨ao, c, rfl, hnil, hlc, hsome⟩ := hgo
    clear hvb hne hvc hxl hx1 hE hrx
    generalize strV x = cx at *
    generalize rows strV l = rl at *
    generalize l.length = n at *
    cases ao with
    | none =>
      obtain ⟨rfl, rfl⟩ := hnil rfl
      go_enter Tryz.func64, Tryz.ntmps64
      go_wp2_with (at_builtin; refine wpList_append_src _ rfl (.tmp 23) (.tmp 24) 51 51 rfl base 9 i0 _ 1 16 Tryz.underlying51 gi gz0 gz1 gz2 rfl _ 0 rl rfl hrow _ 1 cx rfl hsrc (by unfold maxLen; omega) (by omega) hbw ?_; intro v1 w1 hown hf hv)
      go_ret
      exact ⟨_, rfl, hown, hv.imp id (fun h => ⟨_, h, Nat.le_refl _⟩), hf⟩
    | some a =>
      obtain ⟨g, rfl⟩ := hsome a rfl
      clear hnil hsome
      go_enter Tryz.func64, Tryz.ntmps64
      go_wp2_with (at_builtin; refine wpList_append_src _ rfl (.tmp 23) (.tmp 24) 51 51 rfl base 9 i0 _ 1 16 Tryz.underlying51 gi gz0 gz1 gz2 rfl _ n rl rfl hrow _ 1 cx rfl hsrc (by unfold maxLen; omega) (by omega) hbw ?_; intro v1 w1 hown hf hv)
      all_goals
        go_ret
        exact ⟨_, rfl, hown, hv.imp id (fun h => ⟨_, h, Nat.le_refl _⟩), hf⟩
  have hil : i < l.length := by omega
  have hcell : ∀ (g : Nat) (W : World) (c : Array Value), W.heap[g]? = some (.cells c 9 (0, 0)) → ∀ j, W.cell? ⟨g, j, none⟩ = c[j]? := fun g W c h j => by simp [World.cell?, h]
  have hfz : ∀ (g : Nat) (W : World) (c : Array Value), W.heap[g]? = some (.cells c 9 (0, 0)) → ∀ j, W.frozen? ⟨g, j, none⟩ = false := fun g W c h j => by simp [World.frozen?, h]
  rcases hrow.2 with ⟨rfl, h0⟩ | ⟨g, cap, cur, rfl, hbg, hg, hnc, hcm, hcs, htake⟩
  · omega
  unfold maxLen at hcm
  have hvg : vb ≠ g := hne g rfl
  have hdl : (rows strV (l.drop i)).length = (l.length - i) * 1 := by rw [rows_length strS, List.length_drop]
  have hd1 := rows_one strS (l.drop i)
  have hdc : ∀ j u, (rows strV (l.drop i))[j]? = some u → w.cell? ⟨g, i * 1 + j, none⟩ = some u := fun j u hj => by
    have hjl := (List.getElem?_eq_some_iff.1 hj).1
    rw [hdl] at hjl
    rw [hcell g w cur hg, ← hj, ← rows_drop strS, ← htake, List.getElem?_drop, List.getElem?_take_of_lt (by omega), Array.getElem?_toList]
  have hgd : w.drew.heap[g]? = some (.cells cur 9 (0, 0)) := hg
  by_cases hroom : l.length + 1 ≤ cap
  · obtain ⟨cur1, hg1, hcs1, hfr1, hl1⟩ := row_set Tryz.prog (o := (i + 1) * 1) (vs := rows strV (l.drop i)) hgd (by rw [hdl]; omega) hd1
    obtain ⟨W1, hW1⟩ : ∃ W1, W1 = w.drew.setCells g ((i + 1) * 1) (rows strV (l.drop i)) := ⟨_, rfl⟩
    rw [← hW1] at hg1 hfr1
    obtain ⟨cur2, hg2, hcs2, hfr2, hl2⟩ := row_set Tryz.prog (o := i * 1) (vs := strV x) hg1 (by rw [hxl]; omega) hx1
    have hvl : vb < w.heap.size := (Array.getElem?_eq_some_iff.1 hvb).1
    have hv1 : ∀ j u, (strV x)[j]? = some u → W1.cell? ⟨vb, j, none⟩ = some u := fun j u hj => (hfr1.cell (p := ⟨vb, j, none⟩) hvl (fun e => hvg e)).trans (hvc j u hj)
    have hcp1 : ∀ ty dc sc, (Builtin.copy_ #[51, 51] ty #[.slice (some ⟨g, i + 1, none⟩) (l.length - i) dc, .slice (some ⟨g, i, none⟩) (l.length + 1 - i) sc]).run Tryz.prog w.drew = .ok (goInt ((l.length - i : Nat) : Int)) W1 := fun ty dc sc => by
      rw [hW1]
      have := run_copyK (P := Tryz.prog) w.drew 51 51 ty 9 1 g ((i + 1) * 1) (l.length - i) dc ⟨g, i * 1, none⟩ (l.length + 1 - i) sc (l.length - i) (rows strV (l.drop i)) Tryz.underlying51 hsz (by simp only [Nat.min_def]; split <;> omega) hdl
        (fun j u hj => by rw [Addr.add_lit]; exact hdc j u hj) (fun j hj => by rw [hcell g _ cur hgd, Array.getElem?_eq_getElem (by omega)]; rfl) (fun j hj => hfz g _ cur hgd _) hd1
      simp only [Nat.mul_one] at this ⊢
      exact this
    have hcp2 : ∀ ty dc, (Builtin.copy_ #[51, 51] ty #[.slice (some ⟨g, i, none⟩) (l.length + 1 - i) dc, .slice (some ⟨vb, 0, none⟩) 1 1]).run Tryz.prog W1 = .ok (goInt 1) (W1.setCells g (i * 1) (strV x)) := fun ty dc => by
      have := run_copyK (P := Tryz.prog) W1 51 51 ty 9 1 g (i * 1) (l.length + 1 - i) dc ⟨vb, 0, none⟩ 1 1 1 (strV x) Tryz.underlying51 hsz (by simp only [Nat.min_def]; split <;> omega) (by rw [hxl])
        (fun j u hj => by rw [Addr.add_lit, Nat.zero_add]; exact hv1 j u hj) (fun j hj => by rw [hcell g _ cur1 hg1, Array.getElem?_eq_getElem (by rw [hxl] at hj; omega)]; rfl) (fun j hj => hfz g _ cur1 hg1 _) hx1
      simp only [Nat.mul_one] at this ⊢
      exact this
    obtain ⟨W2, hW2⟩ : ∃ W2, W2 = W1.setCells g (i * 1) (strV x) := ⟨_, rfl⟩
    rw [← hW2] at hg2 hfr2
    simp only [← hW2] at hcp2
    have hov : ∀ lb cb, (callFunc 93 #[.slice (some ⟨vb, 0, none⟩) 1 1, .slice (some ⟨g, i + 1, none⟩) lb cb]).run Tryz.prog w = .ok (.value (.bool false)) w := fun lb cb => by
      rw [run_callFunc_extern Tryz.func93 (by kernel_rfl) (by kernel_rfl) (by kernel_rfl) (e := Extern.SlicesOverlaps.overlaps #[51, 51] #[4]) (by kernel_rfl),
        Lib.run_overlaps_apart w 51 4 9 Tryz.underlying51 1 Tryz.sizeOf9 ⟨vb, 0, none⟩ ⟨g, i + 1, none⟩ 1 1 lb cb hvg 9 9 (strV x).toArray.size cur.size (by simp [World.shape?, hvb]) (by simp [World.shape?, hg]) (by rw [hcs]; omega) (hfz vb w _ hvb 0) (hfz vb w _ hvb _)]
      rfl
    have HTK : Hid (cur2.toList.take ((l.length + 1) * 1) = rows strV (l.take i ++ x :: l.drop i)) := hid (row_ins strS hi hroom (by rw [Array.length_toList, hcs]) htake hl1 hl2)
    have HG2 := hid hg2
    have HF : Hid (Frm (One g) w W2) := hid (((Frm.refl (One g) w).drew.then_ hfr1).then_ hfr2)
    have HCS : Hid (cur2.size = cap * 1) := hid (by rw [hcs2, hcs1, hcs])
    have HLL : Hid ((rows strV (l.take i ++ x :: l.drop i)).length = (l.length + 1) * 1) := hid (by
      rw [rows_length strS]
      simp only [List.length_append, List.length_cons, List.length_take, List.length_drop]
      congr 1
      omega)
    clear hW1 hW2 hg1 hg2 hcs1 hcs2 hfr1 hfr2 hl1 hl2 hv1 hvl hgd hdc hd1 hdl hcell hfz hvc hx1 hxl htake hcs hg hvb hrow hsz hne
    generalize rows strV (l.take i ++ x :: l.drop i) = RR at *
    clear he
    generalize l.length = n at *
    have hz1 : ¬ ((i : Int) = (n : Int)) := by omega
    have hz2 : ¬ ((cap : Int) < (n : Int) + 1) := by omega
    have hw1 : IntKind.i64.wrap ((i : Int) + 1) = (i : Int) + 1 := by rw [IntKind.wrap_i64]; omega
    have hb1 : (0 : Int) ≤ (i : Int) + 1 := by omega
    have htn : ((i : Int) + 1).toNat = i + 1 := by omega
    have hb2 : ¬ (cap = i + 1) := by omega
    have hb4 : ¬ (cap = i) := by omega
    have hb3 : (i : Int) ≤ (n : Int) + 1 := by omega
    have hb5 : (i : Int) + 1 ≤ (n : Int) + 1 := by omega
    have hic : i ≤ cap := by omega
    have hi1 : i + 1 ≤ cap := by omega
    go_enter Tryz.func64, Tryz.ntmps64
    go_wp2_with (simp only [hov])
    go_region_law (refine step_copyR rfl _ _ 51 51 rfl _ _ (by simp [Act.eval, Act.put]) (by simp [Act.eval, Act.put]) (hcp1 _ _ _) ?_)
    go_wp2_with (at_builtin; refine wpList_copyR _ rfl _ _ 51 51 rfl _ _ rfl rfl (hcp2 _ _) ?_)
    go_ret
    exact ⟨_, rfl, ⟨HLL.out, .inr ⟨g, cap, cur2, rfl, hbg, HG2.out, hroom, by unfold maxLen; omega, HCS.out, HTK.out⟩⟩, .inl rfl, HF.out.weak (fun k _ e => by have e : k = g := e; subst e; rfl)⟩
  · have hgw : g < w.heap.size := (Array.getElem?_eq_some_iff.1 hg).1
    have hvl : vb < w.heap.size := (Array.getElem?_eq_some_iff.1 hvb).1
    have hti : cur.toList.take (i * 1) = rows strV (l.take i) := by
      rw [← rows_take strS, ← htake, List.take_take, Nat.min_eq_left (by omega)]
    have hrl : (rows strV (l.take i)).length = i * 1 := by rw [rows_length strS, List.length_take, Nat.min_eq_left hi]
    have hold : (Builtin.firstCells i0.size i (.slice (some ⟨g, 0, none⟩) i cap)).run Tryz.prog w.drew = .ok (rows strV (l.take i)).toArray w.drew := by
      rw [gz1]
      exact run_firstCells_some w.drew 1 i ⟨g, 0, none⟩ i cap (rows strV (l.take i)) hrl (fun j u hj => by
        have hjl := (List.getElem?_eq_some_iff.1 hj).1
        rw [hrl] at hjl
        rw [Addr.add_lit, Nat.zero_add, hcell g _ cur hgd, ← hj, ← hti, List.getElem?_take_of_lt (by omega), Array.getElem?_toList])
    obtain ⟨G, hG⟩ : ∃ G, G = grownCap w (l.length + 1) cap 9 := ⟨_, rfl⟩
    obtain ⟨ROW, hROW⟩ : ∃ ROW : Array Value, ROW = (rows strV (l.take i)).toArray ++ Builtin.zeroCells (.string ByteArray.empty : Value).cells (l.length + 1 - i) ++ Builtin.zeroCells (.string ByteArray.empty : Value).cells (G - (l.length + 1)) := ⟨_, rfl⟩
    obtain ⟨W1, hW1⟩ : ∃ W1, W1 = w.drew.alloc (.cells ROW 9) := ⟨_, rfl⟩
    have hik : i + (l.length + 1 - i) = l.length + 1 := by omega
    have hrz : ∀ ty, (Builtin.append_ #[51, 3] ty #[.slice (some ⟨g, 0, none⟩) i cap, .int .i64 ((l.length : Int) + 1 - (i : Int))]).run Tryz.prog w = .ok (.slice (some ⟨w.heap.size, 0, none⟩) (l.length + 1) G) W1 := fun ty => by
      have h := Lib.run_append_grow_zeros (P := Tryz.prog) w 51 3 ty 9 i0 _ .i64 .i64 Tryz.underlying51 Tryz.underlying3 gi gz0 (some ⟨g, 0, none⟩) i cap (rows strV (l.take i)) hold (l.length + 1 - i) (by omega) (by omega) (by omega) (by omega) (by rw [gz2]; omega) (by rw [gz2, hik]; exact growslice_fits (by omega) (by omega))
      rw [hik, ← hG, ← hROW, ← hW1] at h
      have e : (l.length : Int) + 1 - (i : Int) = ((l.length + 1 - i : Nat) : Int) := by omega
      rw [e]
      exact h
    have hGn : l.length + 1 ≤ G := by rw [hG]; exact grownCap_ge w _ _ _
    have hG63 : G ≤ 9223372036854775807 := by
      have := grownCap_le_maxLen w (l.length + 1) cap 9 (by unfold maxLen; omega)
      rw [← hG] at this
      unfold maxLen at this
      omega
    have hRs : ROW.size = G * 1 := by
      rw [hROW]
      simp only [Array.size_append, List.size_toArray, hrl, size_zeroCells]
      have : (.string ByteArray.empty : Value).cells.size = 1 := rfl
      rw [this]
      omega
    have hRt : ROW.toList.take (i * 1) = rows strV (l.take i) := by
      rw [hROW]
      simp only [Array.toList_append, List.append_assoc]
      rw [List.take_append_of_le_length (by rw [hrl]; exact Nat.le_refl _), List.take_of_length_le (by rw [hrl]; exact Nat.le_refl _)]
    have hg1 : W1.heap[w.heap.size]? = some (.cells ROW 9 (0, 0)) := by rw [hW1]; exact heap_alloc_new w.drew _
    have hF1 : Frm No w W1 := by rw [hW1]; exact ((Frm.refl No w).drew).alloc _
    obtain ⟨cur1, hg2, hcs1, hfr1, hl1⟩ := row_set Tryz.prog (o := i * 1) (vs := strV x) hg1 (by rw [hxl]; omega) hx1
    obtain ⟨W2, hW2⟩ : ∃ W2, W2 = W1.setCells w.heap.size (i * 1) (strV x) := ⟨_, rfl⟩
    rw [← hW2] at hg2 hfr1
    have hg2d : W2.drew.heap[w.heap.size]? = some (.cells cur1 9 (0, 0)) := hg2
    obtain ⟨cur2, hg3, hcs2, hfr2, hl2⟩ := row_set Tryz.prog (o := (i + 1) * 1) (vs := rows strV (l.drop i)) hg2d (by rw [hdl]; omega) hd1
    obtain ⟨W3, hW3⟩ : ∃ W3, W3 = W2.drew.setCells w.heap.size ((i + 1) * 1) (rows strV (l.drop i)) := ⟨_, rfl⟩
    rw [← hW3] at hg3 hfr2
    have hv1 : ∀ j u, (strV x)[j]? = some u → W1.cell? ⟨vb, j, none⟩ = some u := fun j u hj => (hF1.cell (p := ⟨vb, j, none⟩) hvl (fun e => e)).trans (hvc j u hj)
    have hd2 : ∀ j u, (rows strV (l.drop i))[j]? = some u → W2.drew.cell? ⟨g, i * 1 + j, none⟩ = some u := fun j u hj => by
      have e1 := hfr1.cell (p := ⟨g, i * 1 + j, none⟩) (Nat.lt_of_lt_of_le hgw hF1.size) (fun e => by have e : g = w.heap.size := e; omega)
      have e2 := hF1.cell (p := ⟨g, i * 1 + j, none⟩) hgw (fun e => e)
      exact (e1.trans e2).trans (hdc j u hj)
    have hcp1 : ∀ ty dc, (Builtin.copy_ #[51, 51] ty #[.slice (some ⟨w.heap.size, i, none⟩) (l.length + 1 - i) dc, .slice (some ⟨vb, 0, none⟩) 1 1]).run Tryz.prog W1 = .ok (goInt 1) W2 := fun ty dc => by
      have := run_copyK (P := Tryz.prog) W1 51 51 ty 9 1 w.heap.size (i * 1) (l.length + 1 - i) dc ⟨vb, 0, none⟩ 1 1 1 (strV x) Tryz.underlying51 hsz (by simp only [Nat.min_def]; split <;> omega) (by rw [hxl])
        (fun j u hj => by rw [Addr.add_lit, Nat.zero_add]; exact hv1 j u hj) (fun j hj => by rw [hcell _ _ ROW hg1, Array.getElem?_eq_getElem (by rw [hxl] at hj; omega)]; rfl) (fun j hj => hfz _ _ ROW hg1 _) hx1
      rw [← hW2] at this
      simp only [Nat.mul_one] at this
      exact this
    have hcp2 : ∀ ty dc sc, (Builtin.copy_ #[51, 51] ty #[.slice (some ⟨w.heap.size, i + 1, none⟩) (l.length - i) dc, .slice (some ⟨g, i, none⟩) (l.length - i) sc]).run Tryz.prog W2.drew = .ok (goInt ((l.length - i : Nat) : Int)) W3 := fun ty dc sc => by
      have := run_copyK (P := Tryz.prog) W2.drew 51 51 ty 9 1 w.heap.size ((i + 1) * 1) (l.length - i) dc ⟨g, i * 1, none⟩ (l.length - i) sc (l.length - i) (rows strV (l.drop i)) Tryz.underlying51 hsz (by simp only [Nat.min_def]; split <;> omega) hdl
        (fun j u hj => by rw [Addr.add_lit]; exact hd2 j u hj) (fun j hj => by rw [hcell _ _ cur1 hg2d, Array.getElem?_eq_getElem (by omega)]; rfl) (fun j hj => hfz _ _ cur1 hg2d _) hd1
      rw [← hW3] at this
      simp only [Nat.mul_one] at this
      exact this
    have HTK : Hid (cur2.toList.take ((l.length + 1) * 1) = rows strV (l.take i ++ x :: l.drop i)) := hid (row_insN strS hi hGn (by rw [Array.length_toList, hRs]) hRt hl1 hl2)
    have HG3 := hid hg3
    have HF : Hid (Frm No w W3) := hid (hF1.trans ((hfr1.drew).then_ hfr2) (fun _ _ h => h) (fun k hk e => by have e : k = w.heap.size := e; omega))
    have HCS : Hid (cur2.size = G * 1) := hid (by rw [hcs2, hcs1, hRs])
    have HLL : Hid ((rows strV (l.take i ++ x :: l.drop i)).length = (l.length + 1) * 1) := hid (by
      rw [rows_length strS]
      simp only [List.length_append, List.length_cons, List.length_take, List.length_drop]
      congr 1
      omega)
    have HB := hid hbw
    clear hW1 hW2 hW3 hg1 hg2 hg2d hg3 hcs1 hcs2 hfr1 hfr2 hl1 hl2 hv1 hvl hgd hdc hd1 hd2 hdl hcell hfz hvc hx1 hxl htake hcs hg hvb hrow hsz hne hF1 hRt hRs hROW hG hold hrl hti hik hgw hbw
    generalize rows strV (l.take i ++ x :: l.drop i) = RR at *
    clear he
    generalize l.length = n at *
    generalize hN : w.heap.size = N at *
    have hz1 : ¬ ((i : Int) = (n : Int)) := by omega
    have hz2 : (cap : Int) < (n : Int) + 1 := by omega
    have hw1 : IntKind.i64.wrap ((i : Int) + 1) = (i : Int) + 1 := by rw [IntKind.wrap_i64]; omega
    have hb1 : (0 : Int) ≤ (i : Int) + 1 := by omega
    have htn : ((i : Int) + 1).toNat = i + 1 := by omega
    have hb2 : ¬ (G = i + 1) := by omega
    have hb4 : ¬ (cap = i) := by omega
    have hb6 : ¬ (G = i) := by omega
    have hb3 : (i : Int) ≤ (n : Int) + 1 := by omega
    have hb5 : (i : Int) + 1 ≤ (n : Int) + 1 := by omega
    have hic : i ≤ cap := by omega
    have hin : i ≤ n := by omega
    go_enter Tryz.func64, Tryz.ntmps64
    go_wp2_with (first | (at_builtin; refine Lib.wpList_append_run _ rfl (.tmp 34) (.tmp 39) _ _ rfl _ _ rfl rfl _ _ (hrz _) ?_) | (at_builtin; refine wpList_copyR _ rfl _ _ 51 51 rfl _ _ rfl rfl (hcp1 _ _) ?_))
    go_region_law (refine step_copyR rfl _ _ 51 51 rfl _ _ (by simp [Act.eval, Act.put]) (by simp [Act.eval, Act.put]) (hcp2 _ _ _) ?_)
    go_wp2_with fail
    go_ret
    exact ⟨_, rfl, ⟨HLL.out, .inr ⟨N, G, cur2, rfl, HB.out, HG3.out, hGn, by unfold maxLen; omega, HCS.out, HTK.out⟩⟩, .inr ⟨N, rfl, Nat.le_refl _⟩, HF.out.any⟩
end Go.Proofs.YtofcmghhmklmiaaGreat
