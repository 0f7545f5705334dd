/- Frames that are under way, as cells; slices.Delete of one of them. -/
import Derived.Test.YthbacebkidggdaaLib
import Derived.Test.YthbacebkidggdaaShelf
import Derived.Deep.RegionLaw
import Derived.Lib.SliceRun
namespace Go.Proofs.Ythbacebkidggdaa
open Go.RowKit

theorem setCells_row (P : Program) {w : World} {g o : Nat} {vs : List Value} {cur : Array Value} {e : TypeId} (hg : w.heap[g]? = some (.cells cur e (0, 0))) (hfit : o + vs.length ≤ cur.size) (h1 : ∀ v ∈ vs, v.oneCell' = true) :
    w.setCells g o vs = w.setRow g (cur.toList.take o ++ vs ++ cur.toList.drop (o + vs.length)).toArray := by
  have hc : ∀ j, j < vs.length → (w.cell? ⟨g, o + 0 + j, none⟩).isSome = true := by
    intro j hj
    have : w.cell? ⟨g, o + 0 + j, none⟩ = cur[o + 0 + j]? := by simp [World.cell?, hg]
    rw [this, Array.getElem?_eq_getElem (by omega)]
    rfl
  have hf : ∀ j, j < vs.length → w.frozen? ⟨g, o + 0 + j, none⟩ = false := by
    intro j hj
    simp [World.frozen?, hg]
  have a := run_storeCells_cells (P := P) g o vs 0 w hc hf h1
  have b := run_storeCells_at P g o e vs 0 cur w hg (by omega) h1
  rw [a] at b
  simp only [Nat.add_zero, Result.ok.injEq, true_and] at b
  exact b

structure Fr where
  from_ : Int
  to_ : Int
  bytes : List UInt8
  bad : Bool
def frV (f : Fr) : List Value := [.int .i64 f.from_, .int .i64 f.to_, .string ⟨f.bytes.toArray⟩, .bool f.bad]
def framesV (fs : List Fr) : List Value := fs.flatMap frV
@[simp] theorem framesV_length (fs : List Fr) : (framesV fs).length = fs.length * 4 := by
  induction fs with
  | nil => rfl
  | cons f fs ih =>
    have : framesV (f :: fs) = frV f ++ framesV fs := rfl
    rw [this, List.length_append, ih, List.length_cons]
    show 4 + fs.length * 4 = _
    omega
theorem framesV_append (a b : List Fr) : framesV (a ++ b) = framesV a ++ framesV b := List.flatMap_append
theorem framesV_one (fs : List Fr) : ∀ u ∈ framesV fs, u.oneCell' = true := by
  intro u hu
  obtain ⟨f, -, hf⟩ := List.mem_flatMap.1 hu
  simp only [frV, List.mem_cons, List.not_mem_nil, or_false] at hf
  rcases hf with rfl | rfl | rfl | rfl <;> rfl
theorem framesV_take (fs : List Fr) (i : Nat) : (framesV fs).take (i * 4) = framesV (fs.take i) := by
  by_cases h : i ≤ fs.length
  · have e := congrArg framesV (List.take_append_drop i fs)
    rw [framesV_append] at e
    rw [← e]
    have hl : (framesV (fs.take i)).length = i * 4 := by rw [framesV_length, List.length_take, Nat.min_eq_left h]
    rw [← hl, List.take_left]
  · rw [List.take_of_length_le (by simp; omega), List.take_of_length_le (by omega)]
theorem framesV_drop (fs : List Fr) (i : Nat) : (framesV fs).drop (i * 4) = framesV (fs.drop i) := by
  by_cases h : i ≤ fs.length
  · have e := congrArg framesV (List.take_append_drop i fs)
    rw [framesV_append] at e
    rw [← e]
    have hl : (framesV (fs.take i)).length = i * 4 := by rw [framesV_length, List.length_take, Nat.min_eq_left h]
    rw [← hl, List.drop_left]
  · rw [List.drop_eq_nil_of_le (by simp; omega), List.drop_eq_nil_of_le (by omega)]
    rfl
theorem framesV_at (fs : List Fr) (i j : Nat) (hi : i < fs.length) (hj : j < 4) : (framesV fs)[i * 4 + j]? = (frV fs[i])[j]? := by
  rw [← List.getElem?_drop, framesV_drop, List.drop_eq_getElem_cons hi]
  show (frV fs[i] ++ framesV (fs.drop (i + 1)))[j]? = _
  rw [List.getElem?_append_left (by show j < 4; exact hj)]

/-- A row of frames: the cells of one of them. -/
theorem row_at {w : World} {base : Nat} {e : TypeId} {fs : List Fr} {n : Nat} {ao : Option Addr} {c : Nat} (h : w.ownsRow base e 4 (.slice ao n c) n (framesV fs)) (hn : n = fs.length) (i : Nat) (hi : i < fs.length) :
    ∃ g, ao = some ⟨g, 0, none⟩ ∧ base ≤ g ∧ n ≤ c ∧ w.cell? ⟨g, i * 4, none⟩ = some (.int .i64 fs[i].from_) ∧ w.cell? ⟨g, i * 4 + 1, none⟩ = some (.int .i64 fs[i].to_) ∧ w.cell? ⟨g, i * 4 + 2, none⟩ = some (.string ⟨fs[i].bytes.toArray⟩) ∧ w.cell? ⟨g, i * 4 + 3, none⟩ = some (.bool fs[i].bad) ∧
      ∀ j, j < n * 4 → w.frozen? ⟨g, j, none⟩ = false := by
  subst hn
  rcases h.2 with ⟨e0, h0⟩ | ⟨g, cap, cur, hv, hbg, hg, hnc, hcm, hcs, htake⟩
  · omega
  · simp only [Value.slice.injEq] at hv
    obtain ⟨rfl, -, rfl⟩ := hv
    have hc : ∀ j, j < 4 → w.cell? ⟨g, i * 4 + j, none⟩ = (frV fs[i])[j]? := by
      intro j hj
      rw [← framesV_at fs i j hi hj, ← htake]
      have : w.cell? ⟨g, i * 4 + j, none⟩ = cur[i * 4 + j]? := by simp [World.cell?, hg]
      rw [this, List.getElem?_take_of_lt (by omega), Array.getElem?_toList]
    exact ⟨g, rfl, hbg, hnc, hc 0 (by omega), hc 1 (by omega), hc 2 (by omega), hc 3 (by omega), fun j _ => by simp [World.frozen?, hg]⟩

theorem info_frame : (Try.prog.info? 35).map (fun i => (i.zero, i.size, i.bytes)) = some (some (.agg #[.int .i64 0, .int .i64 0, .string ByteArray.empty, .bool false]), 4, 40) := by kernel_rfl

set_option maxRecDepth 100000 in
set_option maxHeartbeats 400000 in
theorem delete_any (base : Nat) (v : Value) (fs : List Fr) (i : Nat) (w : World) (hrow : w.ownsRow base 35 4 v fs.length (framesV fs)) (hi : i < fs.length) (hn : fs.length ≤ 100000) :
    Calls Try.prog 14 #[v, .int .i64 (i : Int), .int .i64 ((i : Int) + 1)] w fun e w' => ∃ v', e = .returned v' ∧ w'.ownsRow base 35 4 v' (fs.length - 1) (framesV (fs.eraseIdx i)) ∧ v'.ownBlock = v.ownBlock ∧ Frm (Own v) w w' := by
  obtain ⟨i0, gi, gz0, gz1, gz2⟩ := info_parts info_frame
  rcases hrow.2 with ⟨rfl, h0⟩ | ⟨g, cap, cur, rfl, hbg, hg, hnc, hcm, hcs, htake⟩
  · omega
  unfold maxLen at hcm
  obtain ⟨n, hnn⟩ : ∃ n, fs.length = n := ⟨_, rfl⟩
  rw [hnn] at hi hn hnc htake ⊢
  obtain ⟨m, hm⟩ : ∃ m, n = i + 1 + m := ⟨n - (i + 1), by omega⟩
  subst hm
  have hdl : (fs.drop (i + 1)).length = m := by rw [List.length_drop]; omega
  obtain ⟨news, hnews⟩ : ∃ news, framesV (fs.drop (i + 1)) = news := ⟨_, rfl⟩
  have hnl : news.length = m * 4 := by rw [← hnews, framesV_length, hdl]
  have hn1 : ∀ u ∈ news, u.oneCell' = true := by rw [← hnews]; exact framesV_one _
  have hcell : ∀ (W : World) (c : Array Value), W.heap[g]? = some (.cells c 35 (0, 0)) → ∀ j, W.cell? ⟨g, j, none⟩ = c[j]? := fun W c h j => by simp [World.cell?, h]
  have hfz : ∀ (W : World) (c : Array Value), W.heap[g]? = some (.cells c 35 (0, 0)) → ∀ j, W.frozen? ⟨g, j, none⟩ = false := fun W c h j => by simp [World.frozen?, h]
  have hgd : w.drew.heap[g]? = some (.cells cur 35 (0, 0)) := hg
  have hnd : news = (cur.toList.take ((i + 1 + m) * 4)).drop ((i + 1) * 4) := by rw [htake, framesV_drop, hnews]
  obtain ⟨A, hA, hsrc⟩ : ∃ A : Addr, (if cap = i + 1 then some (⟨g, 0, none⟩ : Addr) else some ⟨g, (i + 1) * 4, none⟩) = some A ∧ Hid (∀ t u, news[t]? = some u → w.drew.cell? (A.add t) = some u) := by
    by_cases h : cap = i + 1
    · refine ⟨⟨g, 0, none⟩, by simp [h], fun t u hu => ?_⟩
      have h0 : news.length = 0 := by rw [hnl]; omega
      rw [List.length_eq_zero_iff.1 h0] at hu
      simp at hu
    · refine ⟨⟨g, (i + 1) * 4, none⟩, by simp [h], fun t u hu => ?_⟩
      have ht := (List.getElem?_eq_some_iff.1 hu).1
      rw [hnl] at ht
      rw [Addr.add_lit, hcell _ _ hgd, ← hu, hnd, List.getElem?_drop, List.getElem?_take_of_lt (by omega), Array.getElem?_toList]
  have s1 : Hid (news.length = m * 4) := hnl
  have s2 : Hid (∀ u ∈ news, u.oneCell' = true) := hn1
  have s3 : Hid (∀ t, t < news.length → (w.drew.cell? ⟨g, 0 + i * 4 + t, none⟩).isSome = true ∧ w.drew.frozen? ⟨g, 0 + i * 4 + t, none⟩ = false) := by
    intro t ht
    rw [hnl] at ht
    refine ⟨?_, hfz _ _ hgd _⟩
    rw [hcell _ _ hgd, Array.getElem?_eq_getElem (by omega)]
    rfl
  obtain ⟨W1, hW1⟩ : ∃ W1, W1 = w.drew.setCells g (0 + i * 4) news := ⟨_, rfl⟩
  have hrow1 := hW1.trans (setCells_row Try.prog hgd (by omega) hn1)
  obtain ⟨cur1, hcur1⟩ : ∃ c, c = (cur.toList.take (0 + i * 4) ++ news ++ cur.toList.drop (0 + i * 4 + news.length)).toArray := ⟨_, rfl⟩
  rw [← hcur1] at hrow1
  have hg1 : W1.heap[g]? = some (.cells cur1 35 (0, 0)) := by rw [hrow1]; exact setRow_heap _ g cur cur1 _ _ hgd
  have hcs1 : cur1.size = cap * 4 := by
    rw [hcur1]
    simp only [List.size_toArray, List.length_append, List.length_take, List.length_drop, Array.length_toList]
    omega
  have hzo : ∀ u ∈ ([.int .i64 0, .int .i64 0, .string ByteArray.empty, .bool false] : List Value), u.oneCell' = true := by
    intro u hu
    simp only [List.mem_cons, List.not_mem_nil, or_false] at hu
    rcases hu with rfl | rfl | rfl | rfl <;> rfl
  have hrow2 := setCells_row Try.prog (o := (i + m) * 4) hg1 (by simp; omega) hzo
  obtain ⟨W2, hW2⟩ : ∃ W2, W2 = W1.setCells g ((i + m) * 4) [.int .i64 0, .int .i64 0, .string ByteArray.empty, .bool false] := ⟨_, rfl⟩
  rw [← hW2] at hrow2
  obtain ⟨cur2, hcur2⟩ : ∃ c, c = (cur1.toList.take ((i + m) * 4) ++ ([.int .i64 0, .int .i64 0, .string ByteArray.empty, .bool false] : List Value) ++ cur1.toList.drop ((i + m) * 4 + ([.int .i64 0, .int .i64 0, .string ByteArray.empty, .bool false] : List Value).length)).toArray := ⟨_, rfl⟩
  rw [← hcur2] at hrow2
  have hg2 : W2.heap[g]? = some (.cells cur2 35 (0, 0)) := by rw [hrow2]; exact setRow_heap _ g cur1 cur2 _ _ hg1
  have hcl : ∀ ty, (Builtin.clear_ #[24] ty #[.slice (some ⟨g, (i + m) * 4, none⟩) 1 (cap - (i + m))]).run Try.prog W1 = .ok (.tuple #[]) W2 := by
    intro ty
    have hst := run_storeCells_cells (P := Try.prog) g ((i + m) * 4) [.int .i64 0, .int .i64 0, .string ByteArray.empty, .bool false] 0 W1 (fun j hj => by rw [hcell _ _ hg1, Array.getElem?_eq_getElem (by simp at hj; omega)]; rfl) (fun j _ => hfz _ _ hg1 _) hzo
    have hv : ∀ w, (zeroValue 35).run Try.prog w = .ok (.agg #[.int .i64 0, .int .i64 0, .string ByteArray.empty, .bool false]) w := Try.zeroValue35
    have hz : (Builtin.zeroCells (Value.agg #[.int .i64 0, .int .i64 0, .string ByteArray.empty, .bool false]).cells 1).toList = [.int .i64 0, .int .i64 0, .string ByteArray.empty, .bool false] := by kernel_rfl
    simp only [Nat.add_zero] at hst
    rw [← hW2] at hst
    first | (simp [Builtin.clear_, run_underlying Try.underlying24, hv, hz, hst]; done) | simp [Builtin.clear_, run_underlying Try.underlying24, hv, hz]
  have HTK : Hid (cur2.size = cap * 4 ∧ cur2.toList.take ((i + m) * 4) = framesV (fs.eraseIdx i)) := by
    refine hid ⟨?_, ?_⟩
    · rw [hcur2]
      simp only [List.size_toArray, List.length_append, List.length_take, List.length_drop, Array.length_toList, List.length_cons, List.length_nil]
      omega
    · have hl1 : (cur1.toList.take ((i + m) * 4)).length = (i + m) * 4 := by rw [List.length_take, Array.length_toList]; omega
      rw [hcur2]
      simp only [List.append_assoc]
      rw [List.take_append_of_le_length (by rw [hl1]; exact Nat.le_refl _), List.take_take, Nat.min_self]
      rw [hcur1]
      simp only [Nat.zero_add]
      have hl2 : (cur.toList.take (i * 4) ++ news).length = (i + m) * 4 := by
        rw [List.length_append, List.length_take, Array.length_toList, hnl]
        omega
      rw [List.take_append_of_le_length (by rw [hl2]; exact Nat.le_refl _), List.take_of_length_le (by rw [hl2]; exact Nat.le_refl _)]
      have e1 : cur.toList.take (i * 4) = framesV (fs.take i) := by
        rw [← framesV_take, ← htake, List.take_take, Nat.min_eq_left (by omega)]
      rw [e1, ← hnews, ← framesV_append, List.eraseIdx_eq_take_drop_succ]
  have HY : Hid (W1 = w.drew.setRow g cur1 ∧ W2 = W1.setRow g cur2) := hid ⟨hrow1, hrow2⟩
  have hWW : Hid (W1 = w.drew.setCells g (0 + i * 4) news) := hid hW1
  have HG2 := hid hg2
  have hic : i ≤ cap := by omega
  have hjc : i + 1 ≤ cap := by omega
  have hlc : ¬ cap = i + m := by omega
  have hml : i + 1 + m - (i + m) = 1 := by omega
  have k1 : (i : Int) + 1 ≤ (i : Int) + 1 + (m : Int) := by omega
  have k2 : (0 : Int) ≤ (i : Int) + 1 := by omega
  have k3 : ((i : Int) + 1).toNat = i + 1 := by omega
  have k4 : i + 1 ≤ i + 1 + m := by omega
  clear hcur1 hcur2 hrow1 hrow2 hW1 hW2 hg1 hg2 hcs1 hcs hzo hnd hgd hcell hfz hg htake hnews hnl hn1 hdl
  go_enter Try.func14, Try.ntmps14
  go_wp2_with fail
  go_region_law (refine step_append_room rfl (.tmp 22) (.tmp 25) 24 rfl 35 i0 4 Try.underlying24 gi gz1 g 0 i cap (by simp [Act.eval, Act.put]) A m (cap - (i + 1)) news (by simp [Act.eval, Act.put]) s1.out hsrc.out s2.out (by omega) s3.out ?_; rw [← hWW.out])
  go_wp2_with fail
  go_ret
  refine ⟨_, rfl, ?_, rfl, ?_⟩
  · have e : i + 1 + m - 1 = i + m := by omega
    rw [e]
    refine ⟨by rw [framesV_length, List.length_eraseIdx, if_pos (by omega)]; omega, Or.inr ⟨g, cap, cur2, rfl, hbg, HG2.out, by omega, by unfold maxLen; omega, HTK.out.1, HTK.out.2⟩⟩
  · rw [HY.out.2, HY.out.1]
    refine ⟨rfl, rfl, rfl, by simp, fun k hk hS => ?_⟩
    have hkg : k ≠ g := fun e => hS (by rw [e]; rfl)
    rw [setRow_other _ _ _ _ hkg, setRow_other _ _ _ _ hkg]
    rfl
end Go.Proofs.Ythbacebkidggdaa
