/- One list of numbers behind another; whether an entry of a list is not good. -/
import Derived.Test.YtaejcejfpcjifaaDoorMsgG2
import Derived.Lib.AppendZeros
namespace Go.Proofs.YtaejcejfpcjifaaDoor
open Go.RowKit
open Msg

theorem zeroCells_size1 (z : Value) (n : Nat) : (Builtin.zeroCells #[z] n).size = n := by simp [Builtin.zeroCells]
set_option maxRecDepth 100000 in
theorem grow_ints (n : Nat) (w : World) (h0 : 0 < n) (hn : n ≤ 1000000) :
    Calls Tryd.prog 46 #[.slice none 0 0, .int .i64 (n : Int)] w fun e w' => ∃ v, e = .returned v ∧ w'.ownsRow w.heap.size 3 1 v 0 [] ∧ Frm No w w' := by
  obtain ⟨i0, gi, gz0, gz1, gz2⟩ := info_parts info_int
  have hz : (0 : Int) < (n : Int) := by omega
  have hr := fun ty => Lib.run_append_nil_zeros (P := Tryd.prog) w 23 3 ty 3 i0 (.int .i64 0) .i64 .i64 Tryd.underlying23 Tryd.underlying3 gi gz0 n h0 (by omega) (by omega) (by rw [gz2]; omega)
  have hge := grownCap_ge w n 0 3
  have hmx := grownCap_le_maxLen w n 0 3 (by unfold maxLen; omega)
  have hF : Frm No w (w.drew.alloc (.cells (Builtin.zeroCells (Value.int .i64 0).cells n ++ Builtin.zeroCells (Value.int .i64 0).cells (grownCap w n 0 3 - n)) 3)) := ((Frm.refl No w).drew).alloc _
  have hO : (w.drew.alloc (.cells (Builtin.zeroCells (Value.int .i64 0).cells n ++ Builtin.zeroCells (Value.int .i64 0).cells (grownCap w n 0 3 - n)) 3)).ownsRow w.heap.size 3 1 (.slice (some ⟨w.heap.size, 0, none⟩) 0 (grownCap w n 0 3)) 0 [] := by
    refine ⟨rfl, .inr ⟨w.heap.size, _, _, rfl, Nat.le_refl _, heap_alloc_new w.drew _, Nat.zero_le _, hmx, ?_, by simp⟩⟩
    show (Builtin.zeroCells #[Value.int .i64 0] n ++ Builtin.zeroCells #[Value.int .i64 0] (grownCap w n 0 3 - n)).size = _
    rw [Array.size_append, zeroCells_size1, zeroCells_size1]
    omega
  generalize w.drew.alloc (.cells (Builtin.zeroCells (Value.int .i64 0).cells n ++ Builtin.zeroCells (Value.int .i64 0).cells (grownCap w n 0 3 - n)) 3) = w2 at *
  generalize grownCap w n 0 3 = C at *
  go_enter Tryd.func46, Tryd.ntmps46
  go_wp2_with (at_builtin; refine Lib.wpList_append_run _ rfl (.tmp 20) (.tmp 21) 23 3 rfl _ _ rfl rfl _ _ (hr _) ?_)
  go_ret
  exact ⟨_, rfl, hO, hF⟩

theorem src_ints {P : Program} {w : World} {t e : TypeId} (ht : P.underlying t = some (.slice e)) {v : Value} {zs : List Int} (h : Rd w v zs.length 1 (intsV zs)) : Src P 1 t v zs.length (intsV zs) w := by
  have h1 : ∀ u ∈ intsV zs, u.oneCell' = true := by
    intro u hu
    obtain ⟨_, _, rfl⟩ := List.mem_map.1 hu
    rfl
  rcases h.cells with ⟨h0, ao, c, rfl⟩ | ⟨b, o, c, rfl, hc⟩
  · have : zs = [] := List.eq_nil_of_length_eq_zero h0
    subst this
    cases ao with
    | none => exact Src.ofNil w ht c
    | some a => exact Src.ofSlice w ht a 0 c [] rfl (fun j u hj => by simp at hj) (fun u hu => by cases hu)
  · refine Src.ofSlice w ht ⟨b, o, none⟩ zs.length c (intsV zs) (by simp [intsV]) (fun j u hj => ?_) h1
    have hjl : j < zs.length := by
      rcases Nat.lt_or_ge j (intsV zs).length with h | h
      · simpa [intsV] using h
      · rw [List.getElem?_eq_none h] at hj; cases hj
    rw [Addr.add_lit, ← hj]
    exact hc j (by omega)
theorem intsV_append (a b : List Int) : intsV (a ++ b) = intsV a ++ intsV b := by simp [intsV]

set_option maxRecDepth 100000 in
set_option maxHeartbeats 1000000 in
theorem concat_ints (xs ys : List Int) (u v : Value) (B : Nat) (w : World) (hB0 : w.cell? ⟨B, 0, none⟩ = some u) (hB1 : w.cell? ⟨B, 1, none⟩ = some v) (hu : Rd w u xs.length 1 (intsV xs)) (hv : Rd w v ys.length 1 (intsV ys))
    (h0 : 0 < xs.length + ys.length) (hm : xs.length + ys.length ≤ 1000000) :
    Calls Tryd.prog 24 #[.slice (some ⟨B, 0, none⟩) 2 2] w fun e w' => ∃ z, e = .returned z ∧ w'.ownsRow w.heap.size 3 1 z (xs ++ ys).length (intsV (xs ++ ys)) ∧ Frm No w w' := by
  obtain ⟨i0, gi, gz0, gz1, gz2⟩ := info_parts info_int
  have hBl : B < w.heap.size := World.block_lt_of_cell? w _ hB0
  have hsu := hid (fun (w1 : World) (hf : Frm No w w1) => src_ints Tryd.underlying23 (hu.frm hf (fun _ _ h => h)))
  have hsv := hid (fun (w1 : World) (hf : Frm No w w1) => src_ints Tryd.underlying23 (hv.frm hf (fun _ _ h => h)))
  obtain ⟨ao, c, rfl⟩ := hu.shape
  obtain ⟨ao2, c2, rfl⟩ := hv.shape
  have HG := hid (fun w1 => grow_ints (xs.length + ys.length) w1 h0 hm)
  clear hu hv
  go_enter Tryd.func24, Tryd.ntmps24
  go_wp2_with fail
  go_loopw [3, 5, 11] (fun s _ i wr => w = wr ∧ ((i = .int .i64 0 ∧ s = .int .i64 0) ∨ (i = .int .i64 1 ∧ s = .int .i64 (xs.length : Int)) ∨ (i = .int .i64 2 ∧ s = .int .i64 ((xs.length + ys.length : Nat) : Int))))
    (fun _ _ i _ => 2 - (intOf i).toNat)
  case atStart => exact ⟨rfl, .inl ⟨rfl, rfl⟩⟩
  case round =>
    obtain ⟨rfl, h⟩ := hrel
    rcases h with ⟨rfl, rfl⟩ | ⟨rfl, rfl⟩ | ⟨rfl, rfl⟩
    · go_wp2_with fail
      exact ⟨⟨trivial, .inr (.inl ⟨by go_num, by go_num⟩)⟩, by simp [intOf]⟩
    · go_wp2_with fail
      exact ⟨⟨trivial, .inr (.inr ⟨by go_num, by go_num⟩)⟩, by simp [intOf]⟩
    · go_wp2_with (go_at_call 46; refine (HG.out _).mono ?_; rintro e w1 ⟨z, rfl, ho, hf⟩)
      go_loopw [6, 8, 27] (fun z _ i wr => Frm No w wr ∧ ((i = .int .i64 0 ∧ wr.ownsRow w.heap.size 3 1 z 0 []) ∨ (i = .int .i64 1 ∧ wr.ownsRow w.heap.size 3 1 z xs.length (intsV xs)) ∨ (i = .int .i64 2 ∧ wr.ownsRow w.heap.size 3 1 z (xs ++ ys).length (intsV (xs ++ ys)))))
        (fun _ _ i _ => 2 - (intOf i).toNat)
      case atStart => exact ⟨hf, .inl ⟨rfl, ho⟩⟩
      case round =>
        obtain ⟨hfr, h⟩ := hrel
        clear hf ho
        have r0 : wr.cell? ⟨B, 0, none⟩ = some (.slice ao xs.length c) := (hfr.cell (p := ⟨B, 0, none⟩) hBl (fun h => h)).trans hB0
        have r1 : wr.cell? ⟨B, 1, none⟩ = some (.slice ao2 ys.length c2) := (hfr.cell (p := ⟨B, 1, none⟩) hBl (fun h => h)).trans hB1
        have hFR := hid hfr
        have hws := hfr.size
        clear hfr
        have own_no : ∀ (z : Value) n l (w3 : World), wr.ownsRow w.heap.size 3 1 z n l → Frm (Own z) wr w3 → Frm No w w3 := fun z n l w3 ho hf => hFR.out.trans hf (fun _ _ h => h) (fun i hi e => by have := (ho.lt i e).1; omega)
        rcases h with ⟨rfl, ho⟩ | ⟨rfl, ho⟩ | ⟨rfl, ho⟩
        · obtain ⟨za, zc, rfl⟩ := ownsRow_shape ho
          go_wp2_with (at_builtin; refine wpList_append_src _ rfl (.tmp 31) (.tmp 32) 23 23 rfl w.heap.size 3 i0 _ 1 8 Tryd.underlying23 gi gz0 gz1 gz2 rfl _ 0 [] rfl ho _ xs.length (intsV xs) rfl (hsu.out _ hFR.out) (by unfold maxLen; omega) (by omega) hws ?_; intro v1 w1 hown hf hv)
          exact ⟨⟨own_no _ _ _ _ ho hf, .inr (.inl ⟨by go_num, by simpa using hown⟩)⟩, by simp [intOf]⟩
        · obtain ⟨za, zc, rfl⟩ := ownsRow_shape ho
          go_wp2_with (at_builtin; refine wpList_append_src _ rfl (.tmp 31) (.tmp 32) 23 23 rfl w.heap.size 3 i0 _ 1 8 Tryd.underlying23 gi gz0 gz1 gz2 rfl _ xs.length (intsV xs) rfl ho _ ys.length (intsV ys) rfl (hsv.out _ hFR.out) (by unfold maxLen; omega) (by omega) hws ?_; intro v1 w1 hown hf hv)
          exact ⟨⟨own_no _ _ _ _ ho hf, .inr (.inr ⟨by go_num, by rw [intsV_append, List.length_append]; exact hown⟩)⟩, by simp [intOf]⟩
        · go_wp2_with fail
          go_ret
          exact ⟨_, rfl, ho, hFR.out⟩

/-- The first entry that is not good. -/
def entBad (es : List Ent) : Bool := es.any fun x => !entG x
theorem bad_any (x : Ent) (w : World) (hl : x.text.length ≤ 9223372036854775807) : Calls Tryd.prog 27 #[.agg #[.int .i64 x.client, .int .i64 x.number, .string ⟨x.text.toArray⟩]] w fun e w' => e = .returned (.bool (!entG x)) ∧ Frm No w w' := by
  have HG := hid (fun w1 => entgood_any x w1 hl)
  generalize entG x = b at *
  obtain ⟨c, n, t⟩ := x
  dsimp only at *
  go_enter Tryd.func27, Tryd.ntmps27
  go_wp2_with (go_at_call 28; refine (HG.out _).mono ?_; rintro e w1 ⟨rfl, hf⟩)
  go_ret
  exact ⟨rfl, ((Frm.refl No w).alloc _).thenNo hf⟩
theorem take_any (es : List Ent) (k : Nat) (hk : k < es.length) (h : entBad (es.take k) = false) : entBad (es.take (k + 1)) = !entG es[k] := by
  unfold entBad at *
  rw [List.take_succ_eq_append_getElem hk, List.any_append, h]
  simp
theorem any_of_take (es : List Ent) (k : Nat) (h : entBad (es.take k) = true) : entBad es = true := by
  unfold entBad at *
  rw [List.any_eq_true] at *
  obtain ⟨x, hx, h⟩ := h
  exact ⟨x, List.mem_of_mem_take hx, h⟩
set_option maxRecDepth 100000 in
set_option maxHeartbeats 1000000 in
theorem index_bad (es : List Ent) (v : Value) (w : World) (hv : RdL w v 3 entV es) (hl : es.length ≤ 1000000) (ht : ∀ x ∈ es, x.text.length ≤ 9223372036854775807) :
    Calls Tryd.prog 47 #[v, .func (.func 27) #[] #[]] w fun e w' => ∃ i : Int, e = .returned (.int .i64 i) ∧ decide (0 ≤ i) = entBad es ∧ Frm No w w' := by
  obtain ⟨ao, c, rfl⟩ := hv.shape
  go_enter Tryd.func47, Tryd.ntmps47
  go_wp2_with fail
  go_loopw [5, 8] (fun _ i wr => ∃ k : Nat, k ≤ es.length ∧ i = .int .i64 (k : Int) ∧ entBad (es.take k) = false ∧ Frm No w wr)
    (fun _ i _ => es.length - (intOf i).toNat)
  case atStart => exact ⟨0, by omega, rfl, rfl, Frm.refl _ _⟩
  case round =>
    obtain ⟨k, hk, rfl, hb, hf⟩ := hrel
    have HF := hid hf
    have HB := hid hb
    clear hb
    by_cases hkl : k < es.length
    · obtain ⟨b, o, rfl, hc⟩ := hv.at_ (by omega)
      have q := hc k hkl
      obtain ⟨x, hxk⟩ : ∃ x, es[k] = x := ⟨_, rfl⟩
      have htx := ht x (by rw [← hxk]; exact List.getElem_mem hkl)
      have HS := hid (take_any es k hkl HB.out)
      rw [hxk] at q HS
      have hb : b < w.heap.size := World.block_lt_of_cell? (u := .int .i64 x.client) w ⟨b, o + (k * 3 + 0), none⟩ (by rw [q 0 (by omega)]; rfl)
      have r0 : wr.cell? ⟨b, o + k * 3, none⟩ = some (.int .i64 x.client) := (hf.cell hb (fun h => h)).trans (q 0 (by omega))
      have r1 : wr.cell? ⟨b, o + k * 3 + 1, none⟩ = some (.int .i64 x.number) := (hf.cell hb (fun h => h)).trans (q 1 (by omega))
      have r2 : wr.cell? ⟨b, o + k * 3 + 2, none⟩ = some (.string ⟨x.text.toArray⟩) := (hf.cell hb (fun h => h)).trans (q 2 (by omega))
      have HX := hid (fun w1 => bad_any x w1 htx)
      clear q hc hv hf
      cases hg : entG x
      · rw [hg] at HX HS
        go_wp2_with (go_at_call 27; refine (HX.out _).mono ?_; rintro e w1 ⟨rfl, hf1⟩)
        go_ret
        exact ⟨_, rfl, by rw [any_of_take es (k + 1) HS.out]; simp, HF.out.thenNo hf1⟩
      · rw [hg] at HX HS
        go_wp2_with (go_at_call 27; refine (HX.out _).mono ?_; rintro e w1 ⟨rfl, hf1⟩)
        exact ⟨⟨k + 1, by omega, by go_num, HS.out, HF.out.thenNo hf1⟩, by simp [intOf]; omega⟩
    · obtain rfl : k = es.length := by omega
      rw [List.take_length] at HB
      clear hf
      go_wp2_with fail
      go_ret
      exact ⟨_, rfl, by rw [HB.out]; rfl, HF.out⟩
theorem contains_bad (es : List Ent) (v : Value) (w : World) (hv : RdL w v 3 entV es) (hl : es.length ≤ 1000000) (ht : ∀ x ∈ es, x.text.length ≤ 9223372036854775807) :
    Calls Tryd.prog 26 #[v, .func (.func 27) #[] #[]] w fun e w' => e = .returned (.bool (!es.all entG)) ∧ Frm No w w' := by
  have HI := hid (index_bad es v w hv hl ht)
  have hE : entBad es = !es.all entG := by simp [entBad, List.not_all_eq_any_not]
  rw [hE] at HI
  clear hE
  go_enter Tryd.func26, Tryd.ntmps26
  go_wp2_with (go_at_call 47; refine HI.out.mono ?_; rintro e w1 ⟨i, rfl, hi, hf⟩)
  go_ret
  exact ⟨by rw [← hi]; rfl, hf⟩
end Go.Proofs.YtaejcejfpcjifaaDoor
