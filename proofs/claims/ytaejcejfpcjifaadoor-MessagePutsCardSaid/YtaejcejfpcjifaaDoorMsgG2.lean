/- Copying and comparing lists of numbers and of entries. -/
import Derived.Test.YtaejcejfpcjifaaDoorMsgG1
import Derived.Test.YtaejcejfpcjifaaDoorShelf
import Derived.Test.YtaejcejfpcjifaaDoorMsgR2
import Derived.Lib.SliceRun
import Derived.Laws.StructEq
import Derived.BigQuiet
namespace Go.Proofs.YtaejcejfpcjifaaDoor
open Go.RowKit
open Msg

/-- What a copy leaves. -/
def CloneP (w : World) (P : World → Value → Prop) (e : Ending) (w' : World) : Prop := ∃ v', e = .returned v' ∧ P w' v' ∧ (∀ k, v'.ownBlock = some k → w.heap.size ≤ k) ∧ Frm No w w'
theorem ints_cell {w : World} {b o : Nat} {zs : List Int} (h : ∀ j, j < zs.length → w.cell? ⟨b, o + j, none⟩ = (intsV zs)[j]?) : ∀ j, j < zs.length → w.cell? ⟨b, o + j, none⟩ = some (.int .i64 (zs.getD j 0)) := fun j hj => by
  rw [h j hj]
  simp [intsV, hj]
theorem clone_ints (zs : List Int) (v : Value) (w : World) (h : Rd w v zs.length 1 (intsV zs)) (hl : zs.length ≤ 1000000) :
    Calls Tryd.prog 17 #[v] w (CloneP w (fun w' v' => Rd w' v' zs.length 1 (intsV zs))) := by
  rcases h.cells with ⟨h0, ao, c, rfl⟩ | ⟨b, o, c, rfl, hc⟩
  · obtain rfl : zs = [] := List.eq_nil_of_length_eq_zero h0
    cases ao with
    | none =>
      refine (Tryd.slices_Clone_int_nil 0 c w).mono ?_
      rintro e w' ⟨rfl, rfl⟩
      exact ⟨_, rfl, Rd.nil _ _ _ _, (fun k hk => by cases hk), Frm.refl _ _⟩
    | some a =>
      refine (Tryd.slices_Clone_int_zero a c w).mono ?_
      rintro e w' ⟨v', rfl, ho, -, hb⟩
      exact ⟨_, rfl, Rd.ofOwn ho, fun k hk => (ho.lt k hk).1, Frm.ofBelow_size hb⟩
  · refine (Tryd.slices_Clone_int b o zs.length c zs w (Nat.le_refl _) (by omega) (ints_cell (fun j hj => hc j (by omega)))).mono ?_
    rintro e w' ⟨v', rfl, ho, -, hb⟩
    rw [List.take_length] at ho
    exact ⟨_, rfl, Rd.ofOwn ho, fun k hk => (ho.lt k hk).1, Frm.ofBelow_size hb⟩
theorem equal_ints (xs ys : List Int) (u v : Value) (w : World) (hu : Rd w u xs.length 1 (intsV xs)) (hv : Rd w v ys.length 1 (intsV ys)) (hx : xs.length ≤ 9223372036854775807) (hy : ys.length ≤ 9223372036854775807) :
    Calls Tryd.prog 64 #[u, v] w fun e w' => e = .returned (.bool (decide (xs = ys))) ∧ Frm No w w' := by
  rcases hu.cells with ⟨h0, ao, c, rfl⟩ | ⟨b, o, c, rfl, hc⟩
  · obtain rfl : xs = [] := List.eq_nil_of_length_eq_zero h0
    obtain ⟨ao2, c2, rfl⟩ := hv.shape
    refine (Tryd.slices_Equal_int_empty ao ao2 c ys.length c2 w hy).mono ?_
    rintro e w' ⟨rfl, rfl⟩
    refine ⟨?_, Frm.refl _ _⟩
    cases ys <;> simp
  · rcases hv.cells with ⟨h0, ao2, c2, rfl⟩ | ⟨b2, o2, c2, rfl, hc2⟩
    · obtain rfl : ys = [] := List.eq_nil_of_length_eq_zero h0
      by_cases hx0 : xs = []
      · subst hx0
        refine (Tryd.slices_Equal_int_empty _ ao2 c 0 c2 w (by omega)).mono ?_
        rintro e w' ⟨rfl, rfl⟩
        exact ⟨by simp, Frm.refl _ _⟩
      · refine (Tryd.slices_Equal_int_lens _ ao2 xs.length c 0 c2 w (fun h => hx0 (List.eq_nil_of_length_eq_zero h))).mono ?_
        rintro e w' ⟨rfl, rfl⟩
        exact ⟨by simp [hx0], Frm.refl _ _⟩
    · refine (Tryd.slices_Equal_int b o xs.length c b2 o2 ys.length c2 xs ys w (Nat.le_refl _) (Nat.le_refl _) hx hy (ints_cell (fun j hj => hc j (by omega))) (ints_cell (fun j hj => hc2 j (by omega)))).mono ?_
      rintro e w' ⟨rfl, q, rfl⟩
      refine ⟨?_, (Frm.refl No w).drewN q⟩
      rw [List.take_length, List.take_length]
      congr 2
      simp [Bool.beq_eq_decide_eq]

theorem src_ents {P : Program} {w : World} {t e : TypeId} (ht : P.underlying t = some (.slice e)) {v : Value} {es : List Ent} (h : RdL w v 3 entV es) : Src P 3 t v es.length (entsV es) w := by
  rcases h.cells with ⟨rfl, ao, c, rfl⟩ | ⟨b, o, c, rfl, hc⟩
  · cases ao with
    | none => exact Src.ofNil w ht c
    | some a => exact Src.ofSlice w ht a 0 c [] rfl (fun j u hj => by simp at hj) (fun u hu => by cases hu)
  · refine Src.ofSlice w ht ⟨b, o, none⟩ es.length c (entsV es) (by simp) (fun j u hj => ?_) (entsV_one es)
    have hjl : j < es.length * 3 := by
      rcases Nat.lt_or_ge j (entsV es).length with h | h
      · simpa using h
      · rw [List.getElem?_eq_none h] at hj; cases hj
    have h1 := hc (j / 3) (by omega) (j % 3) (by omega)
    rw [← entsV_at es (j / 3) (by omega) (j % 3) (by omega)] at h1
    have h2 : j / 3 * 3 + j % 3 = j := by omega
    rw [h2] at h1
    rw [Addr.add_lit, h1, hj]
set_option maxRecDepth 100000 in
theorem clone_ents (es : List Ent) (v : Value) (w : World) (h : RdL w v 3 entV es) (hl : es.length ≤ 1000000) :
    Calls Tryd.prog 18 #[v] w (CloneP w (fun w' v' => RdL w' v' 3 entV es)) := by
  obtain ⟨i0, gi, gz0, gz1, gz2⟩ := info_parts info_ent
  have hsrc := hid (src_ents Tryd.underlying29 h)
  have hF := hid (fun (w1 : World) (hf : Frm No w w1) => src_ents Tryd.underlying29 (h.frm (fun x _ => rfl) hf (fun _ _ h => h)))
  obtain ⟨ao, c, rfl⟩ := h.shape
  have hn : ∀ a n c' w, (binOp .eql 29 (.slice a n c') (.slice none 0 0)).run Tryd.prog w = .ok (.bool a.isNone) w := fun a n c' w => Lib.run_eql_slice_nil w 29 50 a n c' 0 0 Tryd.underlying29
  cases ao with
  | none =>
    have h0 : es = [] := by
      rcases h.cells with ⟨rfl, _⟩ | ⟨b, o, c', e, _⟩
      · rfl
      · cases e
    subst h0
    clear hsrc hF h
    go_enter Tryd.func18, Tryd.ntmps18
    go_wp2_with fail
    go_ret
    exact ⟨_, rfl, ⟨.inl ⟨rfl, none, 0, rfl⟩⟩, (fun k hk => by cases hk), Frm.refl _ _⟩
  | some a =>
    clear hsrc h
    go_enter Tryd.func18, Tryd.ntmps18
    go_wp2_with (at_builtin; refine wpList_append_src _ rfl (.tmp 5) (.tmp 6) 29 29 rfl w.heap.size 50 i0 _ 3 32 Tryd.underlying29 gi gz0 gz1 gz2 rfl _ 0 [] rfl (own_empty 50 (Nat.le_refl _)) _ es.length (entsV es) rfl (hF.out _ ((Frm.refl No w).alloc _)) (by unfold maxLen; omega) (by omega) (by simp) ?_; intro v1 w1 hown hf hv)
    rw [Nat.zero_add, List.nil_append] at hown
    go_ret
    refine ⟨_, rfl, RdL.ofOwn hown, fun k hk => (hown.lt k hk).1, ((Frm.refl No w).alloc _).trans hf (fun _ _ h => h) (fun i hi e => ?_)⟩
    have e : some w.heap.size = some i := e
    simp only [Option.some.injEq] at e
    omega

theorem ent_eq_in (T : TypeId) (hT : Tryd.prog.underlying T = some (.struct (Tryd.prog.fieldsOf T))) (hs : Tryd.prog.stoodInHeld T = false) (h : (Tryd.prog.fieldsOf T).toList.map (fun f => (f.type, f.offset, f.name == "_")) = [(3, 0, false), (3, 1, false), (9, 2, false)]) (a b a' b' : Int) (c c' : List UInt8) (w : World) :
    (Op.equalIn 10000 T (.agg #[.int .i64 a, .int .i64 b, .string ⟨c.toArray⟩]) (.agg #[.int .i64 a', .int .i64 b', .string ⟨c'.toArray⟩])).run Tryd.prog w = .ok (a == a' && b == b' && c == c') w := by
  have pe : ∀ (x y : Int) w, (Op.equalIn 9999 3 (.int .i64 x) (.int .i64 y)).run Tryd.prog w = .ok (x == y) w := fun x y w => run_equalIn_int w 9998 3 .i64 .i64 x y Tryd.underlying3
  have ps : ∀ (x y : ByteArray) w, (Op.equalIn 9999 9 (.string x) (.string y)).run Tryd.prog w = .ok (x.toList == y.toList) w := fun x y w => run_equalIn_string w 9998 9 x y Tryd.underlying9
  rw [run_equalIn_agg w 9999 T _ _ hT hs]
  have px0 : ∀ (a b : Int) (c : List UInt8) w, (part 3 #[.int .i64 a, .int .i64 b, .string ⟨c.toArray⟩] 0).run Tryd.prog w = .ok (.int .i64 a) w := fun _ _ _ w => by kernel_rfl
  have px1 : ∀ (a b : Int) (c : List UInt8) w, (part 3 #[.int .i64 a, .int .i64 b, .string ⟨c.toArray⟩] 1).run Tryd.prog w = .ok (.int .i64 b) w := fun _ _ _ w => by kernel_rfl
  have px2 : ∀ (a b : Int) (c : List UInt8) w, (part 9 #[.int .i64 a, .int .i64 b, .string ⟨c.toArray⟩] 2).run Tryd.prog w = .ok (.string ⟨c.toArray⟩) w := fun _ _ _ w => by kernel_rfl
  clear hT hs
  generalize (Tryd.prog.fieldsOf T).toList = F at h ⊢
  have hl : F.length = 3 := by simpa using congrArg List.length h
  obtain ⟨f0, F, rfl⟩ := List.exists_cons_of_length_pos (l := F) (by omega)
  obtain ⟨f1, F, rfl⟩ := List.exists_cons_of_length_pos (l := F) (by simp at hl; omega)
  obtain ⟨f2, F, rfl⟩ := List.exists_cons_of_length_pos (l := F) (by simp at hl; omega)
  obtain rfl : F = [] := by simpa using hl
  simp only [List.map_cons, List.map_nil, List.cons.injEq, Prod.mk.injEq, and_true] at h
  obtain ⟨⟨t0, o0, n0⟩, ⟨t1, o1, n1⟩, t2, o2, n2⟩ := h
  have m0 : ¬ f0.name = "_" := by simpa using n0
  have m1 : ¬ f1.name = "_" := by simpa using n1
  have m2 : ¬ f2.name = "_" := by simpa using n2
  by_cases h1 : a = a'
  · by_cases h2 : b = b'
    · by_cases h3 : c = c'
      · simp [Op.eqFields, t0, t1, t2, o0, o1, o2, px0, px1, px2, pe, ps, h1, h2, h3]
      · have e3 : (c == c') = false := by simpa using h3
        simp [Op.eqFields, t0, t1, t2, o0, o1, o2, px0, px1, px2, pe, ps, h1, h2, e3, m2]
    · have e2 : (b == b') = false := by simpa using h2
      simp [Op.eqFields, t0, t1, o0, o1, px0, px1, pe, h1, e2, m1]
  · have e1 : (a == a') = false := by simpa using h1
    simp [Op.eqFields, t0, o0, px0, pe, e1, m0]
theorem ent_beq (x y : Ent) : (x.client == y.client && x.number == y.number && x.text == y.text) = decide (x = y) := by
  obtain ⟨a, b, c⟩ := x
  obtain ⟨a', b', c'⟩ := y
  rw [Bool.eq_iff_iff]
  simp [and_assoc]
theorem ment_neq (x y : Ent) (w : World) : (binOp .neq 50 (.agg #[.int .i64 x.client, .int .i64 x.number, .string ⟨x.text.toArray⟩]) (.agg #[.int .i64 y.client, .int .i64 y.number, .string ⟨y.text.toArray⟩])).run Tryd.prog w = .ok (.bool (!decide (x = y))) w := by
  rw [run_neq_struct, ent_eq_in 50 (by kernel_rfl) (by kernel_rfl) (by kernel_rfl), ent_beq]
  rfl

theorem take_eq_of {α : Type} (xs ys : List α) (k : Nat) (hl : xs.length = ys.length) (hk : k < xs.length) (h : xs.take k = ys.take k) : (xs.take (k + 1) = ys.take (k + 1)) ↔ xs[k] = ys[k]'(by omega) := by
  rw [List.take_succ_eq_append_getElem hk, List.take_succ_eq_append_getElem (by omega : k < ys.length), h]
  simp only [List.append_cancel_left_eq, List.cons.injEq, and_true]
set_option maxRecDepth 100000 in
set_option maxHeartbeats 1000000 in
theorem equal_ents (xs ys : List Ent) (u v : Value) (w : World) (hu : RdL w u 3 entV xs) (hv : RdL w v 3 entV ys) (hx : xs.length ≤ 9223372036854775807) (_hy : ys.length ≤ 9223372036854775807) :
    Calls Tryd.prog 65 #[u, v] w fun e w' => e = .returned (.bool (decide (xs = ys))) ∧ Frm No w w' := by
  obtain ⟨ao, c, rfl⟩ := hu.shape
  obtain ⟨ao2, c2, rfl⟩ := hv.shape
  by_cases hl : xs.length = ys.length
  · have hlz : (xs.length : Int) = (ys.length : Int) := by omega
    go_enter Tryd.func65, Tryd.ntmps65
    go_wp2_with fail
    go_loopw [5, 13] (fun _ i wr => ∃ k : Nat, k ≤ xs.length ∧ i = .int .i64 (k : Int) ∧ xs.take k = ys.take k ∧ Frm No w wr)
      (fun _ i _ => xs.length - (intOf i).toNat)
    case atStart => exact ⟨0, by omega, rfl, rfl, Frm.refl _ _⟩
    case round =>
      obtain ⟨k, hk, rfl, ht, hf⟩ := hrel
      by_cases hkl : k < xs.length
      · obtain ⟨b, o, rfl, hc⟩ := hu.at_ (by omega)
        obtain ⟨b2, o2, rfl, hc2⟩ := hv.at_ (by omega)
        have q := hc k hkl
        have q2 := hc2 k (by omega)
        obtain ⟨x, hxk⟩ : ∃ x, xs[k] = x := ⟨_, rfl⟩
        obtain ⟨y, hyk⟩ : ∃ y, ys[k]'(by omega) = y := ⟨_, rfl⟩
        have hiff := take_eq_of xs ys k hl hkl ht
        rw [hxk] at q hiff
        rw [hyk] at q2 hiff
        have hb : b < w.heap.size := World.block_lt_of_cell? (u := .int .i64 x.client) w ⟨b, o + (k * 3 + 0), none⟩ (by rw [q 0 (by omega)]; rfl)
        have hb2 : b2 < w.heap.size := World.block_lt_of_cell? (u := .int .i64 y.client) w ⟨b2, o2 + (k * 3 + 0), none⟩ (by rw [q2 0 (by omega)]; rfl)
        have r0 : wr.cell? ⟨b, o + k * 3, none⟩ = some (.int .i64 x.client) := (hf.cell hb (fun h => h)).trans (q 0 (by omega))
        have r1 : wr.cell? ⟨b, o + k * 3 + 1, none⟩ = some (.int .i64 x.number) := (hf.cell hb (fun h => h)).trans (q 1 (by omega))
        have r2 : wr.cell? ⟨b, o + k * 3 + 2, none⟩ = some (.string ⟨x.text.toArray⟩) := (hf.cell hb (fun h => h)).trans (q 2 (by omega))
        have s0 : wr.cell? ⟨b2, o2 + k * 3, none⟩ = some (.int .i64 y.client) := (hf.cell hb2 (fun h => h)).trans (q2 0 (by omega))
        have s1 : wr.cell? ⟨b2, o2 + k * 3 + 1, none⟩ = some (.int .i64 y.number) := (hf.cell hb2 (fun h => h)).trans (q2 1 (by omega))
        have s2 : wr.cell? ⟨b2, o2 + k * 3 + 2, none⟩ = some (.string ⟨y.text.toArray⟩) := (hf.cell hb2 (fun h => h)).trans (q2 2 (by omega))
        clear q q2 hc hc2 hu hv
        have HF := hid hf
        have HI := hid hiff
        have hkz : (k : Int) < (ys.length : Int) := by omega
        have hkx : (k : Int) < (xs.length : Int) := by omega
        clear hf hiff
        by_cases hxy : x = y
        · have qn := ment_neq x y
          rw [_root_.decide_eq_true hxy, Bool.not_true] at qn
          go_wp2_with fail
          go_quiet (fail)
          go_wp2_with fail
          exact ⟨⟨k + 1, by omega, by go_num, HI.out.2 hxy, HF.out.drewN _⟩, by simp [intOf]; omega⟩
        · have qn := ment_neq x y
          rw [_root_.decide_eq_false hxy, Bool.not_false] at qn
          go_wp2_with fail
          go_quiet (fail)
          go_wp2_with fail
          go_ret
          have hd : decide (xs = ys) = false := _root_.decide_eq_false (fun e => hxy (HI.out.1 (by rw [e])))
          exact ⟨(congrArg (fun b => Ending.returned (.bool b)) hd).symm, HF.out.drewN _⟩
      · obtain rfl : k = xs.length := by omega
        have hxe : xs = ys := by
          rw [List.take_length, hl, List.take_length] at ht
          exact ht
        have HF := hid hf
        clear hf
        go_wp2_with fail
        go_ret
        exact ⟨(congrArg (fun b => Ending.returned (.bool b)) (_root_.decide_eq_true hxe)).symm, HF.out⟩
  · have hlz : ¬ (xs.length : Int) = (ys.length : Int) := by omega
    go_enter Tryd.func65, Tryd.ntmps65
    go_wp2_with fail
    go_ret
    exact ⟨(congrArg (fun b => Ending.returned (.bool b)) (_root_.decide_eq_false (fun e => hl (by rw [e])))).symm, Frm.refl _ _⟩
end Go.Proofs.YtaejcejfpcjifaaDoor
