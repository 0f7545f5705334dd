/- Rows of elements of so many cells: taking, dropping, putting one in, taking one out. No program is in sight here. -/
import Derived.Test.YtebocnpbiiejmaaDoorOpenG
import Derived.Test.YtebocnpbiiejmaaDoorLib
import Derived.Lib.SliceRun
import Derived.Lib.Overlaps
import Derived.Lib.AppendZerosOnto
import Derived.Laws.Externs
import Derived.Laws.IdiomCopy
import Derived.Deep.RegionLaw
namespace Go.Proofs.YtebocnpbiiejmaaDoor
open Go.RowKit

/-- Elements of K cells, each one cell by itself. -/
structure Shp {α : Type} (cells : α → List Value) (K : Nat) : Prop where
  len : ∀ x, (cells x).length = K
  one : ∀ x, ∀ u ∈ cells x, u.oneCell' = true
def rows {α : Type} (cells : α → List Value) (l : List α) : List Value := l.flatMap cells
section
variable {α : Type} {cells : α → List Value} {K : Nat}
theorem rows_length (h : Shp cells K) (l : List α) : (rows cells l).length = l.length * K := by
  induction l with
  | nil => simp [rows]
  | cons x l ih =>
    have : rows cells (x :: l) = cells x ++ rows cells l := rfl
    rw [this, List.length_append, ih, h.len, List.length_cons, Nat.succ_mul, Nat.add_comm]
theorem rows_append (a b : List α) : rows cells (a ++ b) = rows cells a ++ rows cells b := List.flatMap_append
theorem rows_cons (x : α) (l : List α) : rows cells (x :: l) = cells x ++ rows cells l := rfl
theorem rows_one (h : Shp cells K) (l : List α) : ∀ u ∈ rows cells l, u.oneCell' = true := by
  intro u hu
  obtain ⟨x, -, hx⟩ := List.mem_flatMap.1 hu
  exact h.one x u hx
theorem rows_take (h : Shp cells K) (l : List α) (i : Nat) : (rows cells l).take (i * K) = rows cells (l.take i) := by
  by_cases hi : i ≤ l.length
  · have e := congrArg (rows cells) (List.take_append_drop i l)
    rw [rows_append] at e
    rw [← e]
    have hl : (rows cells (l.take i)).length = i * K := by rw [rows_length h, List.length_take, Nat.min_eq_left hi]
    rw [← hl, List.take_left]
  · rw [List.take_of_length_le (by rw [rows_length h]; exact Nat.mul_le_mul_right _ (by omega)), List.take_of_length_le (by omega)]
theorem rows_drop (h : Shp cells K) (l : List α) (i : Nat) : (rows cells l).drop (i * K) = rows cells (l.drop i) := by
  by_cases hi : i ≤ l.length
  · have e := congrArg (rows cells) (List.take_append_drop i l)
    rw [rows_append] at e
    rw [← e]
    have hl : (rows cells (l.take i)).length = i * K := by rw [rows_length h, List.length_take, Nat.min_eq_left hi]
    rw [← hl, List.drop_left]
  · rw [List.drop_eq_nil_of_le (by rw [rows_length h]; exact Nat.mul_le_mul_right _ (by omega)), List.drop_eq_nil_of_le (by omega)]
    rfl
theorem rows_at (h : Shp cells K) (l : List α) (i j : Nat) (hi : i < l.length) (hj : j < K) : (rows cells l)[i * K + j]? = (cells l[i])[j]? := by
  rw [← List.getElem?_drop, rows_drop h, List.drop_eq_getElem_cons hi, rows_cons, List.getElem?_append_left (by rw [h.len]; exact hj)]

/-- What a row of the call's own reads as. -/
theorem rdl_own (h : Shp cells K) {w : World} {base : Nat} {e : TypeId} {v : Value} {l : List α} (ho : w.ownsRow base e K v l.length (rows cells l)) : RdL w v K cells l := by
  refine ⟨?_⟩
  have hl := ho.1
  rcases ho.2 with ⟨rfl, h0⟩ | ⟨g, cap, cur, rfl, hbg, hg, hnc, hcm, hcs, htake⟩
  · exact .inl ⟨List.eq_nil_of_length_eq_zero h0, _, _, rfl⟩
  · refine .inr ⟨g, 0, cap, rfl, fun i hi j hj => ?_⟩
    rw [Nat.zero_add, ← rows_at h l i j hi hj]
    refine ho.cellAt (cap := cap) (i * K + j) ?_
    calc i * K + j < i * K + K := by omega
      _ = (i + 1) * K := by rw [Nat.succ_mul]
      _ ≤ l.length * K := Nat.mul_le_mul_right _ (by omega)
/-- Its cells, as something to append. -/
theorem src_rdl (h : Shp cells K) (hK : 0 < K) {P : Program} {w : World} {t e : TypeId} (ht : P.underlying t = some (.slice e)) {v : Value} {l : List α} (hr : RdL w v K cells l) : Src P K t v l.length (rows cells l) w := by
  rcases hr.cells with ⟨rfl, ao, c, rfl⟩ | ⟨b, o, c, rfl, hc⟩
  · cases ao with
    | none => exact Src.ofNil w ht c
    | some a => exact Src.ofSlice w ht a 0 c [] (by simp) (fun j u hj => by simp at hj) (fun u hu => by cases hu)
  · refine Src.ofSlice w ht ⟨b, o, none⟩ l.length c (rows cells l) (rows_length h l) (fun j u hj => ?_) (rows_one h l)
    have hjl : j < l.length * K := by
      rcases Nat.lt_or_ge j (rows cells l).length with h' | h'
      · rwa [rows_length h] at h'
      · rw [List.getElem?_eq_none h'] at hj; cases hj
    have hq : j / K < l.length := Nat.div_lt_of_lt_mul (by rw [Nat.mul_comm]; exact hjl)
    have hm : j % K < K := Nat.mod_lt _ hK
    have h2 : j / K * K + j % K = j := by rw [Nat.mul_comm]; exact Nat.div_add_mod j K
    have h1 := hc (j / K) hq (j % K) hm
    rw [← rows_at h l (j / K) (j % K) hq hm, h2] at h1
    rw [Addr.add_lit, h1, hj]

theorem setCells_heap (P : Program) {w : World} {g o : Nat} {vs : List Value} {cur : Array Value} {e : TypeId} (hg : w.heap[g]? = some (.cells cur e (0, 0))) (hfit : o + vs.length ≤ cur.size) (h1 : ∀ v ∈ vs, v.oneCell' = true) :
    w.setCells g o vs = w.setRow g (cur.toList.take o ++ vs ++ cur.toList.drop (o + vs.length)).toArray := by
  have hc : ∀ j, j < vs.length → (w.cell? ⟨g, o + 0 + j, none⟩).isSome = true := by
    intro j hj
    have : w.cell? ⟨g, o + 0 + j, none⟩ = cur[o + 0 + j]? := by simp [World.cell?, hg]
    rw [this, Array.getElem?_eq_getElem (by omega)]
    rfl
  have hf : ∀ j, j < vs.length → w.frozen? ⟨g, o + 0 + j, none⟩ = false := by
    intro j hj
    simp [World.frozen?, hg]
  have a := run_storeCells_cells (P := P) g o vs 0 w hc hf h1
  have b := run_storeCells_at P g o e vs 0 cur w hg (by omega) h1
  rw [a] at b
  simp only [Nat.add_zero, Result.ok.injEq, true_and] at b
  exact b
/-- Some cells of a row of the call's own are set. -/
theorem row_set (P : Program) {w : World} {g o : Nat} {vs : List Value} {cur : Array Value} {e : TypeId} (hg : w.heap[g]? = some (.cells cur e (0, 0))) (hfit : o + vs.length ≤ cur.size) (h1 : ∀ v ∈ vs, v.oneCell' = true) :
    ∃ cur2 : Array Value, (w.setCells g o vs).heap[g]? = some (.cells cur2 e (0, 0)) ∧ cur2.size = cur.size ∧ Frm (One g) w (w.setCells g o vs) ∧ cur2.toList = cur.toList.take o ++ vs ++ cur.toList.drop (o + vs.length) := by
  have hr := setCells_heap P hg hfit h1
  refine ⟨_, by rw [hr]; exact setRow_heap w g cur _ e _ hg, ?_, ?_, by simp⟩
  · simp only [List.size_toArray, List.length_append, List.length_take, List.length_drop, Array.length_toList]
    omega
  · rw [hr]
    exact ⟨rfl, rfl, rfl, by simp, fun k hk hS => setRow_other _ _ _ _ (fun e => hS e)⟩
theorem take_mid {β : Type} {l m r : List β} {n : Nat} (h : (l ++ m).length = n) : (l ++ m ++ r).take n = l ++ m := by
  rw [← h]; exact List.take_left
/-- One put in where there is room: what the two copies leave. -/
theorem row_ins (h : Shp cells K) {l : List α} {i : Nat} {x : α} (hi : i ≤ l.length) {cap : Nat} {c0 c1 c2 : List Value} (hroom : l.length + 1 ≤ cap) (hs : c0.length = cap * K) (ht : c0.take (l.length * K) = rows cells l)
    (h1 : c1 = c0.take ((i + 1) * K) ++ rows cells (l.drop i) ++ c0.drop ((i + 1) * K + (rows cells (l.drop i)).length)) (h2 : c2 = c1.take (i * K) ++ cells x ++ c1.drop (i * K + (cells x).length)) :
    c2.take ((l.length + 1) * K) = rows cells (l.take i ++ x :: l.drop i) := by
  have hik : (i + 1) * K = i * K + K := Nat.succ_mul i K
  have hlk : (l.length + 1) * K = l.length * K + K := Nat.succ_mul _ K
  have hle : i * K ≤ l.length * K := Nat.mul_le_mul_right _ hi
  have hck : l.length * K + K ≤ cap * K := by rw [← hlk]; exact Nat.mul_le_mul_right _ hroom
  have hdl : (rows cells (l.drop i)).length = l.length * K - i * K := by rw [rows_length h, List.length_drop, Nat.sub_mul]
  have hx := h.len x
  have e1 : c0.take (i * K) = rows cells (l.take i) := by
    rw [← rows_take h, ← ht, List.take_take, Nat.min_eq_left hle]
  have e2 : c1.take (i * K) = rows cells (l.take i) := by
    rw [h1, List.append_assoc, List.take_append_of_le_length (by rw [List.length_take]; omega), List.take_take, Nat.min_eq_left (by omega), e1]
  have hA : (c0.take ((i + 1) * K)).length = i * K + K := by rw [List.length_take, hik]; omega
  have e3 : c1.drop (i * K + K) = rows cells (l.drop i) ++ c0.drop ((i + 1) * K + (rows cells (l.drop i)).length) := by
    rw [h1, List.append_assoc, ← hA, List.drop_left]
  rw [h2, hx, e2, e3, ← List.append_assoc, rows_append, rows_cons]
  have hB : (rows cells (l.take i) ++ cells x ++ rows cells (l.drop i)).length = (l.length + 1) * K := by
    simp only [List.length_append, hdl, hx, rows_length h, List.length_take, Nat.min_eq_left hi]
    omega
  rw [take_mid hB, List.append_assoc]
/-- One put in where there is no room: into a new row. -/
theorem row_insN (h : Shp cells K) {l : List α} {i : Nat} {x : α} (hi : i ≤ l.length) {cap : Nat} {c0 c1 c2 : List Value} (_hroom : l.length + 1 ≤ cap) (_hs : c0.length = cap * K) (ht : c0.take (i * K) = rows cells (l.take i))
    (h1 : c1 = c0.take (i * K) ++ cells x ++ c0.drop (i * K + (cells x).length)) (h2 : c2 = c1.take ((i + 1) * K) ++ rows cells (l.drop i) ++ c1.drop ((i + 1) * K + (rows cells (l.drop i)).length)) :
    c2.take ((l.length + 1) * K) = rows cells (l.take i ++ x :: l.drop i) := by
  have hik : (i + 1) * K = i * K + K := Nat.succ_mul i K
  have hlk : (l.length + 1) * K = l.length * K + K := Nat.succ_mul _ K
  have hle : i * K ≤ l.length * K := Nat.mul_le_mul_right _ hi
  have hdl : (rows cells (l.drop i)).length = l.length * K - i * K := by rw [rows_length h, List.length_drop, Nat.sub_mul]
  have hx := h.len x
  have hA : (rows cells (l.take i) ++ cells x).length = (i + 1) * K := by
    rw [List.length_append, rows_length h, List.length_take, Nat.min_eq_left hi, hx, hik]
  have e2 : c1.take ((i + 1) * K) = rows cells (l.take i) ++ cells x := by
    rw [h1, ht, take_mid hA]
  rw [h2, e2]
  have hB : (rows cells (l.take i) ++ cells x ++ rows cells (l.drop i)).length = (l.length + 1) * K := by
    simp only [List.length_append, hdl, hx, rows_length h, List.length_take, Nat.min_eq_left hi]
    omega
  rw [take_mid hB, rows_append, rows_cons, List.append_assoc]
/-- One taken out. -/
theorem row_del (h : Shp cells K) {l : List α} {i : Nat} (hi : i < l.length) {cap : Nat} {c0 c1 c2 z : List Value} (hc : l.length ≤ cap) (hs : c0.length = cap * K) (ht : c0.take (l.length * K) = rows cells l)
    (h1 : c1 = c0.take (i * K) ++ rows cells (l.drop (i + 1)) ++ c0.drop (i * K + (rows cells (l.drop (i + 1))).length)) (h2 : c2 = c1.take ((l.length - 1) * K) ++ z ++ c1.drop ((l.length - 1) * K + z.length)) :
    c2.take ((l.length - 1) * K) = rows cells (l.eraseIdx i) := by
  have hk : (l.length - 1) * K = l.length * K - K := by rw [Nat.sub_mul, Nat.one_mul]
  have hik : (i + 1) * K = i * K + K := Nat.succ_mul i K
  have hle : (i + 1) * K ≤ l.length * K := Nat.mul_le_mul_right _ hi
  have hck : l.length * K ≤ cap * K := Nat.mul_le_mul_right _ hc
  have hdl : (rows cells (l.drop (i + 1))).length = l.length * K - (i + 1) * K := by rw [rows_length h, List.length_drop, Nat.sub_mul]
  have e1 : c0.take (i * K) = rows cells (l.take i) := by
    rw [← rows_take h, ← ht, List.take_take, Nat.min_eq_left (by omega)]
  have hl2 : (c0.take (i * K) ++ rows cells (l.drop (i + 1))).length = (l.length - 1) * K := by
    rw [List.length_append, List.length_take, hdl, hk]
    omega
  have e2 : c1.take ((l.length - 1) * K) = rows cells (l.eraseIdx i) := by
    rw [h1, take_mid hl2, e1, ← rows_append, List.eraseIdx_eq_take_drop_succ]
  have hl3 : (c1.take ((l.length - 1) * K)).length = (l.length - 1) * K := by
    have : c1.length = c0.length := by
      rw [h1]
      simp only [List.length_append, List.length_take, List.length_drop, hdl]
      omega
    rw [List.length_take, this, hs, hk]
    omega
  rw [h2, List.append_assoc, List.take_append_of_le_length (by rw [hl3]; exact Nat.le_refl _), List.take_take, Nat.min_self, e2]
end

section
variable {α : Type} {cells : α → List Value} {K : Nat}
theorem rows_set (h : Shp cells K) {x : Value} {y : α} {j : Nat} (hj : j < K) : ∀ (l : List α) (i : Nat) (hi : i < l.length) (_ : cells y = (cells l[i]).set j x), (rows cells l).set (i * K + j) x = rows cells (l.set i y)
  | [], i, hi, _ => by simp at hi
  | a :: l, 0, _, hy => by
    rw [rows_cons, Nat.zero_mul, Nat.zero_add, List.set_append_left _ _ (by rw [h.len]; exact hj), List.set_cons_zero, rows_cons, hy]
    rfl
  | a :: l, i + 1, hi, hy => by
    have ih := rows_set h hj l i (by simpa using hi) (by simpa using hy)
    have e : (i + 1) * K + j = (cells a).length + (i * K + j) := by rw [h.len, Nat.succ_mul]; omega
    rw [rows_cons, e, List.set_append_right _ _ (Nat.le_add_right _ _), Nat.add_sub_cancel_left, ih, List.set_cons_succ, rows_cons]
/-- One cell of an element of a row of the call's own is set. -/
theorem own_set (h : Shp cells K) (P : Program) {w : World} {base : Nat} {e : TypeId} {g cap : Nat} {l : List α} (ho : w.ownsRow base e K (.slice (some ⟨g, 0, none⟩) l.length cap) l.length (rows cells l)) {i j : Nat} (hi : i < l.length) (hj : j < K) {x : Value} (hx : x.oneCell' = true)
    {y : α} (hy : cells y = (cells l[i]).set j x) : (w.setCell ⟨g, i * K + j, none⟩ x).ownsRow base e K (.slice (some ⟨g, 0, none⟩) l.length cap) l.length (rows cells (l.set i y)) := by
  obtain ⟨hl, h2⟩ := ho
  rcases h2 with ⟨h0, -⟩ | ⟨g', cap', cur, hv, hbg, hg, hnc, hcm, hcs, htake⟩
  · cases h0
  · simp only [Value.slice.injEq, Option.some.injEq, Addr.mk.injEq, and_true, true_and] at hv
    obtain ⟨rfl, rfl⟩ := hv
    have hlt : i * K + j < l.length * K := by
      calc i * K + j < i * K + K := by omega
        _ = (i + 1) * K := by rw [Nat.succ_mul]
        _ ≤ l.length * K := Nat.mul_le_mul_right _ (by omega)
    have hle : l.length * K ≤ cap * K := Nat.mul_le_mul_right _ hnc
    obtain ⟨cur2, hg2, hcs2, -, hl2⟩ := row_set P (o := i * K + j) (vs := [x]) hg (by simp; omega) (fun v hv => by simp at hv; subst hv; exact hx)
    refine ⟨by rw [rows_length h, List.length_set], .inr ⟨g, cap, cur2, rfl, hbg, hg2, hnc, hcm, by rw [hcs2, hcs], ?_⟩⟩
    have e1 : cur2.toList = cur.toList.set (i * K + j) x := by
      rw [hl2, List.set_eq_take_append_cons_drop, if_pos (by rw [Array.length_toList]; omega)]
      simp
    rw [e1, List.take_set, htake, rows_set h hj l i hi hy]
/-- The cells of an element of such a row. -/
theorem own_at (h : Shp cells K) {w : World} {base : Nat} {e : TypeId} {v : Value} {l : List α} (ho : w.ownsRow base e K v l.length (rows cells l)) {i : Nat} (hi : i < l.length) :
    ∃ g cap, v = .slice (some ⟨g, 0, none⟩) l.length cap ∧ base ≤ g ∧ g < w.heap.size ∧ l.length ≤ cap ∧ (∀ j, j < K → w.cell? ⟨g, i * K + j, none⟩ = (cells l[i])[j]?) ∧ ∀ j, w.frozen? ⟨g, j, none⟩ = false := by
  rcases ho.2 with ⟨rfl, h0⟩ | ⟨g, cap, cur, rfl, hbg, hg, hnc, hcm, hcs, htake⟩
  · omega
  · refine ⟨g, cap, rfl, hbg, (Array.getElem?_eq_some_iff.1 hg).1, hnc, fun j hj => ?_, fun j => by simp [World.frozen?, hg]⟩
    rw [← rows_at h l i j hi hj, ← htake]
    have hlt : i * K + j < l.length * K := by
      calc i * K + j < i * K + K := by omega
        _ = (i + 1) * K := by rw [Nat.succ_mul]
        _ ≤ l.length * K := Nat.mul_le_mul_right _ (by omega)
    have : w.cell? ⟨g, i * K + j, none⟩ = cur[i * K + j]? := by simp [World.cell?, hg]
    rw [this, List.getElem?_take_of_lt hlt, Array.getElem?_toList]
end

section
variable {P : Program}
/-- copy of elements of K cells. -/
theorem run_copyK (w : World) (dT sT ty elem : TypeId) (K b o dLen dCap : Nat) (a : Addr) (sLen sCap n : Nat) (cs : List Value)
    (hu : P.underlying dT = some (.slice elem)) (hs : (P.info? elem).map (·.size) = some K) (hn : n = Nat.min sLen dLen) (hl : cs.length = n * K)
    (hsrc : ∀ j v, cs[j]? = some v → w.cell? (a.add j) = some v) (hc : ∀ j, j < cs.length → (w.cell? ⟨b, o + j, none⟩).isSome = true) (hf : ∀ j, j < cs.length → w.frozen? ⟨b, o + j, none⟩ = false) (h1 : ∀ v ∈ cs, v.oneCell' = true) :
    (Builtin.copy_ #[dT, sT] ty #[.slice (some ⟨b, o, none⟩) dLen dCap, .slice (some a) sLen sCap]).run P w = .ok (goInt n) (w.setCells b o cs) := by
  have hld := run_loadCells_list (P := P) w a cs hsrc
  have hst := run_storeCells_cells (P := P) b o cs 0 w (by simpa using hc) (by simpa using hf) h1
  cases hq : P.info? elem with
  | none => simp [hq] at hs
  | some i =>
    have hi : i.size = K := by simpa [hq] using hs
    rw [hl] at hld
    simp [Builtin.copy_, run_underlying hu, Builtin.lenOf, Builtin.firstCells, sizeOf, typeInfo, hq, hi, ← hn, hld, hst]
theorem wpList_copyR (w : World) {ops : Array Oper} {rest : List Oper} {o : Oper} {a : Act} {Q : Exit → Act → World → Prop} (hgd : o.guard = none) (d s : Operand) (t t' : TypeId)
    (ho : o.op = .call { callee := .builtin .copy, args := #[d, s], argTypes := #[t, t'] }) (v u : Value) (hd : a.eval d = v) (hs : a.eval s = u) {v' : Value} {w' : World}
    (hr : (Builtin.copy_ #[t, t'] o.type #[v, u]).run P w = .ok v' w') (h : wpList P ops Q rest (a.put o.dst v') w') : wpList P ops Q (o :: rest) a w :=
  wpList_plain hgd fun K hK => by
    unfold Oper.wp execOp
    simp only [ho, resolve, invoke, builtin, Sem.run_bind, Sem.run_pure, Result.andThen_ok, List.map_toArray, List.map_cons, List.map_nil, hd, hs, hr]
    exact hK _ _ h
theorem step_copyR {ops : Array Oper} {o : Oper} {a : Act} {w : World} {K : Act → World → Prop} {Q : Exit → Act → World → Prop} {E : Prop}
    (hg : o.guard = none) (d x : Operand) (dT sT : TypeId) (ho : o.op = Op.call { callee := Callee.builtin Builtin.copy, args := #[d, x], argTypes := #[dT, sT] })
    (v u : Value) (hd : a.eval d = v) (hx : a.eval x = u) {v' : Value} {w' : World} (hr : (Builtin.copy_ #[dT, sT] o.type #[v, u]).run P w = .ok v' w') (hK : K (a.put o.dst v') w') :
    if Region.wanted o (yielded ops a.tmps) = true then Oper.wp P o a w K Q else E := by
  have hw : Region.wanted o (yielded ops a.tmps) = true := by simp [Region.wanted, hg]
  rw [if_pos hw]
  unfold Oper.wp
  simp [execOp, ho, resolve, invoke, builtin, hd, hx, hr, Result.andThen]
  exact hK
end
end Go.Proofs.YtebocnpbiiejmaaDoor
