/- One taken out of a list of members, of classes, of names. Printed by a program (rollb.py). -/
import Derived.Test.YtofcmghhmklmiaaGreatRollB1
import Derived.Deep.RegionLaw
namespace Go.Proofs.YtofcmghhmklmiaaGreat
open Go.RowKit
open Roll

set_option maxRecDepth 100000 in
set_option maxHeartbeats 1000000 in
theorem delete_mem (base : Nat) (v : Value) (l : List (Mem)) (i : Nat) (w : World) (hrow : w.ownsRow base 45 3 v l.length (rows memV l)) (hi : i < l.length) (hn : l.length ≤ 100000) :
    Calls Tryz.prog 59 #[v, .int .i64 (i : Int), .int .i64 ((i : Int) + 1)] w fun e w' => ∃ v', e = .returned v' ∧ w'.ownsRow base 45 3 v' (l.length - 1) (rows memV (l.eraseIdx i)) ∧ v'.ownBlock = v.ownBlock ∧ Frm (Own v) w w' := by
  obtain ⟨i0, gi, gz0, gz1, gz2⟩ := info_parts info_mem
  rcases hrow.2 with ⟨rfl, h0⟩ | ⟨g, cap, cur, rfl, hbg, hg, hnc, hcm, hcs, htake⟩
  · omega
  unfold maxLen at hcm
  have hdl : (l.drop (i + 1)).length = l.length - (i + 1) := List.length_drop
  obtain ⟨news, hnews⟩ : ∃ news, rows memV (l.drop (i + 1)) = news := ⟨_, rfl⟩
  have hnl : news.length = (l.length - (i + 1)) * 3 := by rw [← hnews, rows_length memS, hdl]
  have hn1 : ∀ u ∈ news, u.oneCell' = true := by rw [← hnews]; exact rows_one memS _
  have hcell : ∀ (W : World) (c : Array Value), W.heap[g]? = some (.cells c 45 (0, 0)) → ∀ j, W.cell? ⟨g, j, none⟩ = c[j]? := fun W c h j => by simp [World.cell?, h]
  have hfz : ∀ (W : World) (c : Array Value), W.heap[g]? = some (.cells c 45 (0, 0)) → ∀ j, W.frozen? ⟨g, j, none⟩ = false := fun W c h j => by simp [World.frozen?, h]
  have hgd : w.drew.heap[g]? = some (.cells cur 45 (0, 0)) := hg
  have hnd : news = (cur.toList.take (l.length * 3)).drop ((i + 1) * 3) := by rw [htake, rows_drop memS, hnews]
  obtain ⟨A, hA, hsrc⟩ : ∃ A : Addr, (if cap = i + 1 then some (⟨g, 0, none⟩ : Addr) else some ⟨g, (i + 1) * 3, none⟩) = some A ∧ Hid (∀ t u, news[t]? = some u → w.drew.cell? (A.add t) = some u) := by
    by_cases h : cap = i + 1
    · refine ⟨⟨g, 0, none⟩, by simp [h], fun t u hu => ?_⟩
      have h0 : news.length = 0 := by rw [hnl]; omega
      rw [List.length_eq_zero_iff.1 h0] at hu
      simp at hu
    · refine ⟨⟨g, (i + 1) * 3, none⟩, by simp [h], fun t u hu => ?_⟩
      have ht := (List.getElem?_eq_some_iff.1 hu).1
      rw [hnl] at ht
      rw [Addr.add_lit, hcell _ _ hgd, ← hu, hnd, List.getElem?_drop, List.getElem?_take_of_lt (by omega), Array.getElem?_toList]
  obtain ⟨cur1, hg1, hcs1, hfr1, hl1⟩ := row_set Tryz.prog (o := i * 3) (vs := news) hgd (by omega) hn1
  have s1 : Hid (news.length = (l.length - (i + 1)) * 3) := hnl
  have s2 : Hid (∀ u ∈ news, u.oneCell' = true) := hn1
  have s3 : Hid (∀ t, t < news.length → (w.drew.cell? ⟨g, 0 + i * 3 + t, none⟩).isSome = true ∧ w.drew.frozen? ⟨g, 0 + i * 3 + t, none⟩ = false) := by
    intro t ht
    rw [hnl] at ht
    refine ⟨?_, hfz _ _ hgd _⟩
    rw [hcell _ _ hgd, Array.getElem?_eq_getElem (by omega)]
    rfl
  obtain ⟨W1, hW1⟩ : ∃ W1, W1 = w.drew.setCells g (i * 3) news := ⟨_, rfl⟩
  rw [← hW1] at hg1 hfr1
  have hzo : ∀ u ∈ ([.string ByteArray.empty, .int .i64 0, .int .i64 0] : List Value), u.oneCell' = true := by
    intro u hu
    simp only [List.mem_cons, List.not_mem_nil, or_false] at hu
    rcases hu with rfl | rfl | rfl <;> rfl
  obtain ⟨cur2, hg2, hcs2, hfr2, hl2⟩ := row_set Tryz.prog (o := (l.length - 1) * 3) (vs := [.string ByteArray.empty, .int .i64 0, .int .i64 0]) hg1 (by simp; omega) hzo
  obtain ⟨W2, hW2⟩ : ∃ W2, W2 = W1.setCells g ((l.length - 1) * 3) [.string ByteArray.empty, .int .i64 0, .int .i64 0] := ⟨_, rfl⟩
  rw [← hW2] at hg2 hfr2
  have HTK : Hid (cur2.toList.take ((l.length - 1) * 3) = rows memV (l.eraseIdx i)) := hid (row_del memS hi hnc (by rw [Array.length_toList, hcs]) htake (by rw [hnews]; exact hl1) hl2)
  obtain ⟨n, hnn⟩ : ∃ n, l.length = n := ⟨_, rfl⟩
  rw [hnn] at hi hn hnc s1 hW2 HTK ⊢
  obtain ⟨m, hm⟩ : ∃ m, n = i + 1 + m := ⟨n - (i + 1), by omega⟩
  subst hm
  have e1 : i + 1 + m - 1 = i + m := by omega
  have e2 : i + 1 + m - (i + 1) = m := by omega
  rw [e1] at hW2 HTK ⊢
  rw [e2] at s1
  have hcl : ∀ ty, (Builtin.clear_ #[24] ty #[.slice (some ⟨g, (i + m) * 3, none⟩) 1 (cap - (i + m))]).run Tryz.prog W1 = .ok (.tuple #[]) W2 := by
    intro ty
    have hst := run_storeCells_cells (P := Tryz.prog) g ((i + m) * 3) [.string ByteArray.empty, .int .i64 0, .int .i64 0] 0 W1 (fun j hj => by rw [hcell _ _ hg1, Array.getElem?_eq_getElem (by simp at hj; omega)]; rfl) (fun j _ => hfz _ _ hg1 _) hzo
    have hv : ∀ w, (zeroValue 45).run Tryz.prog w = .ok (.agg #[.string ByteArray.empty, .int .i64 0, .int .i64 0]) w := Tryz.zeroValue45
    have hz : (Builtin.zeroCells (.agg #[.string ByteArray.empty, .int .i64 0, .int .i64 0] : Value).cells 1).toList = [.string ByteArray.empty, .int .i64 0, .int .i64 0] := by kernel_rfl
    simp only [Nat.add_zero] at hst
    rw [← hW2] at hst
    first | (simp [Builtin.clear_, run_underlying Tryz.underlying24, hv, hz, hst]; done) | simp [Builtin.clear_, run_underlying Tryz.underlying24, hv, hz]
  have hWW : Hid (W1 = w.drew.setCells g (0 + i * 3) news) := hid (by rw [Nat.zero_add]; exact hW1)
  have HG2 := hid hg2
  have HF : Hid (Frm (One g) w W2) := hid (((Frm.refl (One g) w).drew.then_ hfr1).then_ hfr2)
  have HCS : Hid (cur2.size = cap * 3) := hid (by rw [hcs2, hcs1, hcs])
  have hic : i ≤ cap := by omega
  have hjc : i + 1 ≤ cap := by omega
  have hlc : ¬ cap = i + m := by omega
  have hml : i + 1 + m - (i + m) = 1 := by omega
  have k1 : (i : Int) + 1 ≤ (i : Int) + 1 + (m : Int) := by omega
  have k2 : (0 : Int) ≤ (i : Int) + 1 := by omega
  have k3 : ((i : Int) + 1).toNat = i + 1 := by omega
  have k4 : i + 1 ≤ i + 1 + m := by omega
  clear hW1 hW2 hg1 hg2 hcs1 hcs hnd hgd hcell hfz hg htake hnews hnl hn1 hdl hfr1 hfr2 hl1 hl2 hzo hrow hcs2 e1 e2
  go_enter Tryz.func59, Tryz.ntmps59
  go_wp2_with fail
  go_region_law (refine step_append_room rfl (.tmp 22) (.tmp 25) 24 rfl 45 i0 3 Tryz.underlying24 gi gz1 g 0 i cap (by simp [Act.eval, Act.put]) A m (cap - (i + 1)) news (by simp [Act.eval, Act.put]) s1.out hsrc.out s2.out (by omega) s3.out ?_; rw [← hWW.out])
  go_wp2_with fail
  go_ret
  refine ⟨_, rfl, ?_, rfl, HF.out.weak (fun k _ e => by have e : k = g := e; subst e; rfl)⟩
  refine ⟨by rw [rows_length memS, List.length_eraseIdx, if_pos (by omega)]; omega, Or.inr ⟨g, cap, cur2, rfl, hbg, HG2.out, by omega, by unfold maxLen; omega, HCS.out, HTK.out⟩⟩
set_option maxRecDepth 100000 in
set_option maxHeartbeats 1000000 in
theorem delete_cls (base : Nat) (v : Value) (l : List (CV)) (i : Nat) (w : World) (hrow : w.ownsRow base 53 3 v l.length (rows clsV l)) (hi : i < l.length) (hn : l.length ≤ 100000) :
    Calls Tryz.prog 62 #[v, .int .i64 (i : Int), .int .i64 ((i : Int) + 1)] w fun e w' => ∃ v', e = .returned v' ∧ w'.ownsRow base 53 3 v' (l.length - 1) (rows clsV (l.eraseIdx i)) ∧ v'.ownBlock = v.ownBlock ∧ Frm (Own v) w w' := by
  obtain ⟨i0, gi, gz0, gz1, gz2⟩ := info_parts info_cls
  rcases hrow.2 with ⟨rfl, h0⟩ | ⟨g, cap, cur, rfl, hbg, hg, hnc, hcm, hcs, htake⟩
  · omega
  unfold maxLen at hcm
  have hdl : (l.drop (i + 1)).length = l.length - (i + 1) := List.length_drop
  obtain ⟨news, hnews⟩ : ∃ news, rows clsV (l.drop (i + 1)) = news := ⟨_, rfl⟩
  have hnl : news.length = (l.length - (i + 1)) * 3 := by rw [← hnews, rows_length clsS, hdl]
  have hn1 : ∀ u ∈ news, u.oneCell' = true := by rw [← hnews]; exact rows_one clsS _
  have hcell : ∀ (W : World) (c : Array Value), W.heap[g]? = some (.cells c 53 (0, 0)) → ∀ j, W.cell? ⟨g, j, none⟩ = c[j]? := fun W c h j => by simp [World.cell?, h]
  have hfz : ∀ (W : World) (c : Array Value), W.heap[g]? = some (.cells c 53 (0, 0)) → ∀ j, W.frozen? ⟨g, j, none⟩ = false := fun W c h j => by simp [World.frozen?, h]
  have hgd : w.drew.heap[g]? = some (.cells cur 53 (0, 0)) := hg
  have hnd : news = (cur.toList.take (l.length * 3)).drop ((i + 1) * 3) := by rw [htake, rows_drop clsS, hnews]
  obtain ⟨A, hA, hsrc⟩ : ∃ A : Addr, (if cap = i + 1 then some (⟨g, 0, none⟩ : Addr) else some ⟨g, (i + 1) * 3, none⟩) = some A ∧ Hid (∀ t u, news[t]? = some u → w.drew.cell? (A.add t) = some u) := by
    by_cases h : cap = i + 1
    · refine ⟨⟨g, 0, none⟩, by simp [h], fun t u hu => ?_⟩
      have h0 : news.length = 0 := by rw [hnl]; omega
      rw [List.length_eq_zero_iff.1 h0] at hu
      simp at hu
    · refine ⟨⟨g, (i + 1) * 3, none⟩, by simp [h], fun t u hu => ?_⟩
      have ht := (List.getElem?_eq_some_iff.1 hu).1
      rw [hnl] at ht
      rw [Addr.add_lit, hcell _ _ hgd, ← hu, hnd, List.getElem?_drop, List.getElem?_take_of_lt (by omega), Array.getElem?_toList]
  obtain ⟨cur1, hg1, hcs1, hfr1, hl1⟩ := row_set Tryz.prog (o := i * 3) (vs := news) hgd (by omega) hn1
  have s1 : Hid (news.length = (l.length - (i + 1)) * 3) := hnl
  have s2 : Hid (∀ u ∈ news, u.oneCell' = true) := hn1
  have s3 : Hid (∀ t, t < news.length → (w.drew.cell? ⟨g, 0 + i * 3 + t, none⟩).isSome = true ∧ w.drew.frozen? ⟨g, 0 + i * 3 + t, none⟩ = false) := by
    intro t ht
    rw [hnl] at ht
    refine ⟨?_, hfz _ _ hgd _⟩
    rw [hcell _ _ hgd, Array.getElem?_eq_getElem (by omega)]
    rfl
  obtain ⟨W1, hW1⟩ : ∃ W1, W1 = w.drew.setCells g (i * 3) news := ⟨_, rfl⟩
  rw [← hW1] at hg1 hfr1
  have hzo : ∀ u ∈ ([.string ByteArray.empty, .string ByteArray.empty, .slice none 0 0] : List Value), u.oneCell' = true := by
    intro u hu
    simp only [List.mem_cons, List.not_mem_nil, or_false] at hu
    rcases hu with rfl | rfl | rfl <;> rfl
  obtain ⟨cur2, hg2, hcs2, hfr2, hl2⟩ := row_set Tryz.prog (o := (l.length - 1) * 3) (vs := [.string ByteArray.empty, .string ByteArray.empty, .slice none 0 0]) hg1 (by simp; omega) hzo
  obtain ⟨W2, hW2⟩ : ∃ W2, W2 = W1.setCells g ((l.length - 1) * 3) [.string ByteArray.empty, .string ByteArray.empty, .slice none 0 0] := ⟨_, rfl⟩
  rw [← hW2] at hg2 hfr2
  have HTK : Hid (cur2.toList.take ((l.length - 1) * 3) = rows clsV (l.eraseIdx i)) := hid (row_del clsS hi hnc (by rw [Array.length_toList, hcs]) htake (by rw [hnews]; exact hl1) hl2)
  obtain ⟨n, hnn⟩ : ∃ n, l.length = n := ⟨_, rfl⟩
  rw [hnn] at hi hn hnc s1 hW2 HTK ⊢
  obtain ⟨m, hm⟩ : ∃ m, n = i + 1 + m := ⟨n - (i + 1), by omega⟩
  subst hm
  have e1 : i + 1 + m - 1 = i + m := by omega
  have e2 : i + 1 + m - (i + 1) = m := by omega
  rw [e1] at hW2 HTK ⊢
  rw [e2] at s1
  have hcl : ∀ ty, (Builtin.clear_ #[25] ty #[.slice (some ⟨g, (i + m) * 3, none⟩) 1 (cap - (i + m))]).run Tryz.prog W1 = .ok (.tuple #[]) W2 := by
    intro ty
    have hst := run_storeCells_cells (P := Tryz.prog) g ((i + m) * 3) [.string ByteArray.empty, .string ByteArray.empty, .slice none 0 0] 0 W1 (fun j hj => by rw [hcell _ _ hg1, Array.getElem?_eq_getElem (by simp at hj; omega)]; rfl) (fun j _ => hfz _ _ hg1 _) hzo
    have hv : ∀ w, (zeroValue 53).run Tryz.prog w = .ok (.agg #[.string ByteArray.empty, .string ByteArray.empty, .slice none 0 0]) w := Tryz.zeroValue53
    have hz : (Builtin.zeroCells (.agg #[.string ByteArray.empty, .string ByteArray.empty, .slice none 0 0] : Value).cells 1).toList = [.string ByteArray.empty, .string ByteArray.empty, .slice none 0 0] := by kernel_rfl
    simp only [Nat.add_zero] at hst
    rw [← hW2] at hst
    first | (simp [Builtin.clear_, run_underlying Tryz.underlying25, hv, hz, hst]; done) | simp [Builtin.clear_, run_underlying Tryz.underlying25, hv, hz]
  have hWW : Hid (W1 = w.drew.setCells g (0 + i * 3) news) := hid (by rw [Nat.zero_add]; exact hW1)
  have HG2 := hid hg2
  have HF : Hid (Frm (One g) w W2) := hid (((Frm.refl (One g) w).drew.then_ hfr1).then_ hfr2)
  have HCS : Hid (cur2.size = cap * 3) := hid (by rw [hcs2, hcs1, hcs])
  have hic : i ≤ cap := by omega
  have hjc : i + 1 ≤ cap := by omega
  have hlc : ¬ cap = i + m := by omega
  have hml : i + 1 + m - (i + m) = 1 := by omega
  have k1 : (i : Int) + 1 ≤ (i : Int) + 1 + (m : Int) := by omega
  have k2 : (0 : Int) ≤ (i : Int) + 1 := by omega
  have k3 : ((i : Int) + 1).toNat = i + 1 := by omega
  have k4 : i + 1 ≤ i + 1 + m := by omega
  clear hW1 hW2 hg1 hg2 hcs1 hcs hnd hgd hcell hfz hg htake hnews hnl hn1 hdl hfr1 hfr2 hl1 hl2 hzo hrow hcs2 e1 e2
  go_enter Tryz.func62, Tryz.ntmps62
  go_wp2_with fail
  go_region_law (refine step_append_room rfl (.tmp 22) (.tmp 25) 25 rfl 53 i0 3 Tryz.underlying25 gi gz1 g 0 i cap (by simp [Act.eval, Act.put]) A m (cap - (i + 1)) news (by simp [Act.eval, Act.put]) s1.out hsrc.out s2.out (by omega) s3.out ?_; rw [← hWW.out])
  go_wp2_with fail
  go_ret
  refine ⟨_, rfl, ?_, rfl, HF.out.weak (fun k _ e => by have e : k = g := e; subst e; rfl)⟩
  refine ⟨by rw [rows_length clsS, List.length_eraseIdx, if_pos (by omega)]; omega, Or.inr ⟨g, cap, cur2, rfl, hbg, HG2.out, by omega, by unfold maxLen; omega, HCS.out, HTK.out⟩⟩
set_option maxRecDepth 100000 in
set_option maxHeartbeats 1000000 in
theorem delete_str (base : Nat) (v : Value) (l : List (B)) (i : Nat) (w : World) (hrow : w.ownsRow base 9 1 v l.length (rows strV l)) (hi : i < l.length) (hn : l.length ≤ 100000) :
    Calls Tryz.prog 65 #[v, .int .i64 (i : Int), .int .i64 ((i : Int) + 1)] w fun e w' => ∃ v', e = .returned v' ∧ w'.ownsRow base 9 1 v' (l.length - 1) (rows strV (l.eraseIdx i)) ∧ v'.ownBlock = v.ownBlock ∧ Frm (Own v) w w' := by
  obtain ⟨i0, gi, gz0, gz1, gz2⟩ := info_parts info_str
  rcases hrow.2 with ⟨rfl, h0⟩ | ⟨g, cap, cur, rfl, hbg, hg, hnc, hcm, hcs, htake⟩
  · omega
  unfold maxLen at hcm
  have hdl : (l.drop (i + 1)).length = l.length - (i + 1) := List.length_drop
  obtain ⟨news, hnews⟩ : ∃ news, rows strV (l.drop (i + 1)) = news := ⟨_, rfl⟩
  have hnl : news.length = (l.length - (i + 1)) * 1 := by rw [← hnews, rows_length strS, hdl]
  have hn1 : ∀ u ∈ news, u.oneCell' = true := by rw [← hnews]; exact rows_one strS _
  have hcell : ∀ (W : World) (c : Array Value), W.heap[g]? = some (.cells c 9 (0, 0)) → ∀ j, W.cell? ⟨g, j, none⟩ = c[j]? := fun W c h j => by simp [World.cell?, h]
  have hfz : ∀ (W : World) (c : Array Value), W.heap[g]? = some (.cells c 9 (0, 0)) → ∀ j, W.frozen? ⟨g, j, none⟩ = false := fun W c h j => by simp [World.frozen?, h]
  have hgd : w.drew.heap[g]? = some (.cells cur 9 (0, 0)) := hg
  have hnd : news = (cur.toList.take (l.length * 1)).drop ((i + 1) * 1) := by rw [htake, rows_drop strS, hnews]
  obtain ⟨A, hA, hsrc⟩ : ∃ A : Addr, (if cap = i + 1 then some (⟨g, 0, none⟩ : Addr) else some ⟨g, i + 1, none⟩) = some A ∧ Hid (∀ t u, news[t]? = some u → w.drew.cell? (A.add t) = some u) := by
    by_cases h : cap = i + 1
    · refine ⟨⟨g, 0, none⟩, by simp [h], fun t u hu => ?_⟩
      have h0 : news.length = 0 := by rw [hnl]; omega
      rw [List.length_eq_zero_iff.1 h0] at hu
      simp at hu
    · refine ⟨⟨g, i + 1, none⟩, by simp [h], fun t u hu => ?_⟩
      have ht := (List.getElem?_eq_some_iff.1 hu).1
      rw [hnl] at ht
      rw [Addr.add_lit, hcell _ _ hgd, ← hu, hnd, List.getElem?_drop, List.getElem?_take_of_lt (by omega), Array.getElem?_toList]
      rw [Nat.mul_one]
  obtain ⟨cur1, hg1, hcs1, hfr1, hl1⟩ := row_set Tryz.prog (o := i * 1) (vs := news) hgd (by omega) hn1
  have s1 : Hid (news.length = (l.length - (i + 1)) * 1) := hnl
  have s2 : Hid (∀ u ∈ news, u.oneCell' = true) := hn1
  have s3 : Hid (∀ t, t < news.length → (w.drew.cell? ⟨g, 0 + i * 1 + t, none⟩).isSome = true ∧ w.drew.frozen? ⟨g, 0 + i * 1 + t, none⟩ = false) := by
    intro t ht
    rw [hnl] at ht
    refine ⟨?_, hfz _ _ hgd _⟩
    rw [hcell _ _ hgd, Array.getElem?_eq_getElem (by omega)]
    rfl
  obtain ⟨W1, hW1⟩ : ∃ W1, W1 = w.drew.setCells g (i * 1) news := ⟨_, rfl⟩
  rw [← hW1] at hg1 hfr1
  have hzo : ∀ u ∈ ([.string ByteArray.empty] : List Value), u.oneCell' = true := by
    intro u hu
    simp only [List.mem_cons, List.not_mem_nil, or_false] at hu
    subst hu; rfl
  obtain ⟨cur2, hg2, hcs2, hfr2, hl2⟩ := row_set Tryz.prog (o := (l.length - 1) * 1) (vs := [.string ByteArray.empty]) hg1 (by simp; omega) hzo
  obtain ⟨W2, hW2⟩ : ∃ W2, W2 = W1.setCells g ((l.length - 1) * 1) [.string ByteArray.empty] := ⟨_, rfl⟩
  rw [← hW2] at hg2 hfr2
  have HTK : Hid (cur2.toList.take ((l.length - 1) * 1) = rows strV (l.eraseIdx i)) := hid (row_del strS hi hnc (by rw [Array.length_toList, hcs]) htake (by rw [hnews]; exact hl1) hl2)
  obtain ⟨n, hnn⟩ : ∃ n, l.length = n := ⟨_, rfl⟩
  rw [hnn] at hi hn hnc s1 hW2 HTK ⊢
  obtain ⟨m, hm⟩ : ∃ m, n = i + 1 + m := ⟨n - (i + 1), by omega⟩
  subst hm
  have e1 : i + 1 + m - 1 = i + m := by omega
  have e2 : i + 1 + m - (i + 1) = m := by omega
  rw [e1] at hW2 HTK ⊢
  rw [e2] at s1
  have hcl : ∀ ty, (Builtin.clear_ #[51] ty #[.slice (some ⟨g, i + m, none⟩) 1 (cap - (i + m))]).run Tryz.prog W1 = .ok (.tuple #[]) W2 := by
    intro ty
    have hst := run_storeCells_cells (P := Tryz.prog) g ((i + m) * 1) [.string ByteArray.empty] 0 W1 (fun j hj => by rw [hcell _ _ hg1, Array.getElem?_eq_getElem (by simp at hj; omega)]; rfl) (fun j _ => hfz _ _ hg1 _) hzo
    have hv : ∀ w, (zeroValue 9).run Tryz.prog w = .ok (.string ByteArray.empty) w := Tryz.zeroValue9
    have hz : (Builtin.zeroCells (.string ByteArray.empty : Value).cells 1).toList = [.string ByteArray.empty] := by kernel_rfl
    simp only [Nat.add_zero] at hst
    rw [← hW2] at hst
    simp only [Nat.mul_one] at hst
    first | (simp [Builtin.clear_, run_underlying Tryz.underlying51, hv, hz, hst]; done) | simp [Builtin.clear_, run_underlying Tryz.underlying51, hv, hz]
  have hWW : Hid (W1 = w.drew.setCells g (0 + i * 1) news) := hid (by rw [Nat.zero_add]; exact hW1)
  have HG2 := hid hg2
  have HF : Hid (Frm (One g) w W2) := hid (((Frm.refl (One g) w).drew.then_ hfr1).then_ hfr2)
  have HCS : Hid (cur2.size = cap * 1) := hid (by rw [hcs2, hcs1, hcs])
  have hic : i ≤ cap := by omega
  have hjc : i + 1 ≤ cap := by omega
  have hlc : ¬ cap = i + m := by omega
  have hml : i + 1 + m - (i + m) = 1 := by omega
  have k1 : (i : Int) + 1 ≤ (i : Int) + 1 + (m : Int) := by omega
  have k2 : (0 : Int) ≤ (i : Int) + 1 := by omega
  have k3 : ((i : Int) + 1).toNat = i + 1 := by omega
  have k4 : i + 1 ≤ i + 1 + m := by omega
  clear hW1 hW2 hg1 hg2 hcs1 hcs hnd hgd hcell hfz hg htake hnews hnl hn1 hdl hfr1 hfr2 hl1 hl2 hzo hrow hcs2 e1 e2
  go_enter Tryz.func65, Tryz.ntmps65
  go_wp2_with fail
  go_region_law (refine step_append_room rfl (.tmp 22) (.tmp 25) 51 rfl 9 i0 1 Tryz.underlying51 gi gz1 g 0 i cap (by simp [Act.eval, Act.put]) A m (cap - (i + 1)) news (by simp [Act.eval, Act.put]) s1.out hsrc.out s2.out (by omega) s3.out ?_; rw [← hWW.out])
  go_wp2_with fail
  go_ret
  refine ⟨_, rfl, ?_, rfl, HF.out.weak (fun k _ e => by have e : k = g := e; subst e; rfl)⟩
  refine ⟨by rw [rows_length strS, List.length_eraseIdx, if_pos (by omega)]; omega, Or.inr ⟨g, cap, cur2, rfl, hbg, HG2.out, by omega, by unfold maxLen; omega, HCS.out, HTK.out⟩⟩
end Go.Proofs.YtofcmghhmklmiaaGreat
