/- slices.DeleteFunc over strings, for Leave: every string that is the name is taken out. -/
import Derived.Test.YtofcmghhmklmiaaGreatRollKLM
import Derived.Test.YtofcmghhmklmiaaGreatRollH
import Derived.Lib.SliceRun
namespace Go.Proofs.YtofcmghhmklmiaaGreat
open Go.RowKit
open Roll
/-- A list without a name. -/
def flt (t : B) (l : List B) : List B := l.filter fun s => !decide (s = t)
theorem flt_none {t : B} {l : List B} (h : l.any (fun x => x == t) = false) : flt t l = l := by
  refine List.filter_eq_self.2 fun a ha => ?_
  rw [List.any_eq_false] at h
  have := h a ha
  simpa using this
theorem flt_snoc (t : B) (l : List B) (x : B) : flt t (l ++ [x]) = flt t l ++ (if x = t then [] else [x]) := by
  unfold flt
  rw [List.filter_append]
  by_cases h : x = t <;> simp [h]
/-- How far DeleteFunc is: in front what is kept, from b on what is not yet seen. -/
structure DlI (l : List B) (t : B) (a b : Nat) (L : List B) : Prop where
  len : L.length = l.length
  ab : a < b
  bn : b ≤ l.length
  front : L.take a = flt t (l.take b)
  back : L.drop b = l.drop b
theorem DlI.start {l : List B} {t : B} {k : Nat} (hk : k < l.length) (hb : (l.take k).any (fun x => x == t) = false) (he : l[k] = t) : DlI l t k (k + 1) l :=
  ⟨rfl, by omega, by omega, by rw [List.take_succ_eq_append_getElem hk, flt_snoc, flt_none hb, if_pos he, List.append_nil], rfl⟩
theorem DlI.at_ {l : List B} {t : B} {a b : Nat} {L : List B} (h : DlI l t a b L) (hb : b < l.length) : L[b]'(by rw [h.len]; exact hb) = l[b] := by
  have e := congrArg List.head? h.back
  rw [List.head?_drop, List.head?_drop] at e
  rw [List.getElem?_eq_getElem (by rw [h.len]; exact hb), List.getElem?_eq_getElem hb] at e
  simpa using e
theorem DlI.skip {l : List B} {t : B} {a b : Nat} {L : List B} (h : DlI l t a b L) (hb : b < l.length) (he : l[b] = t) : DlI l t a (b + 1) L :=
  ⟨h.len, by have := h.ab; omega, by omega, by rw [List.take_succ_eq_append_getElem hb, flt_snoc, if_pos he, List.append_nil]; exact h.front, by
    rw [← List.drop_drop, ← List.drop_drop, h.back]⟩
theorem DlI.keep {l : List B} {t : B} {a b : Nat} {L : List B} (h : DlI l t a b L) (hb : b < l.length) (he : ¬ l[b] = t) : DlI l t (a + 1) (b + 1) (L.set a l[b]) := by
  have hab := h.ab
  have hl := h.len
  refine ⟨by rw [List.length_set, hl], by omega, by omega, ?_, ?_⟩
  · rw [List.take_succ_eq_append_getElem hb, flt_snoc, if_neg he, ← h.front, List.take_succ_eq_append_getElem (by rw [List.length_set]; omega), List.getElem_set_self, List.take_set_of_le (Nat.le_refl _)]
  · rw [List.drop_set_of_lt (by omega), ← List.drop_drop, ← List.drop_drop, h.back]
theorem DlI.done {l : List B} {t : B} {a : Nat} {L : List B} (h : DlI l t a l.length L) : L.take a = flt t l := by
  rw [h.front, List.take_length]
set_option maxRecDepth 100000 in
set_option maxHeartbeats 4000000 in
theorem delf_str (base : Nat) (v : Value) (l : List B) (t : B) (p1 : Nat) (w : World) (hrow : w.ownsRow base 9 1 v l.length (rows strV l)) (hn : l.length ≤ 100000) (h1 : w.cell? ⟨p1, 0, none⟩ = some (.string ⟨t.toArray⟩)) (hp1 : ¬ Own v p1) :
    Calls Tryz.prog 60 #[v, .func (.func 61) #[] #[.pointer (some ⟨p1, 0, none⟩)]] w fun e w' => ∃ v', e = .returned v' ∧ w'.ownsRow base 9 1 v' (flt t l).length (rows strV (flt t l)) ∧ v'.ownBlock = v.ownBlock ∧ Frm (Own v) w w' := by
  have HI := hid (ifs_any l t v p1 w (rdl_own strS hrow) (by omega) h1)
  have hb1 : p1 < w.heap.size := World.block_lt_of_cell? w _ h1
  have HL : Hid (∀ (x : B) wr, Frm (Own v) w wr → Calls Tryz.prog 61 #[.string ⟨x.toArray⟩, .pointer (some ⟨p1, 0, none⟩)] wr fun e w' => e = .returned (.bool (x == t)) ∧ wr = w') := hid fun x wr hf => ls_any x t p1 wr ((hf.cell (p := ⟨p1, 0, none⟩) hb1 hp1).trans h1)
  have HROW := hid hrow
  obtain ⟨ao, c, rfl⟩ := ownsRow_shape hrow
  clear hrow h1
  cases hany : l.any (fun x => x == t)
  · have HI2 : Hid (Calls Tryz.prog 90 #[.slice ao l.length c, .func (.func 61) #[] #[.pointer (some ⟨p1, 0, none⟩)]] w fun e w' => e = .returned (.int .i64 (-1)) ∧ w = w') := hid (HI.out.mono fun e w' ⟨hw, h⟩ => by
      rcases h with ⟨k, hk, -, -, he⟩ | ⟨he, -⟩
      · rw [List.any_eq_false] at hany
        exact absurd (by rw [he]; simp) (hany _ (List.getElem_mem hk))
      · exact ⟨he, hw⟩)
    rw [flt_none hany]
    clear HI HL hany
    go_enter Tryz.func60, Tryz.ntmps60
    go_wp2_with (go_at_call 90; refine HI2.out.mono ?_; rintro e w1 ⟨rfl, rfl⟩)
    go_ret
    exact ⟨_, rfl, HROW.out, rfl, Frm.refl _ _⟩
  · have HI2 : Hid (Calls Tryz.prog 90 #[.slice ao l.length c, .func (.func 61) #[] #[.pointer (some ⟨p1, 0, none⟩)]] w fun e w' => (∃ (k : Nat) (_ : k < l.length), e = .returned (.int .i64 (k : Int)) ∧ DlI l t k (k + 1) l) ∧ w = w') := hid (HI.out.mono fun e w' ⟨hw, h⟩ => by
      rcases h with ⟨k, hk, h1, h2, he⟩ | ⟨he, h2⟩
      · exact ⟨⟨k, hk, h1, DlI.start hk h2 he⟩, hw⟩
      · rw [hany] at h2; cases h2)
    obtain ⟨g, cap, hv, hbg, hgl, hnc, -, -⟩ := own_at strS HROW.out (i := 0) (by
      rcases List.any_eq_true.1 hany with ⟨x, hx, -⟩
      exact List.length_pos_of_mem hx)
    simp only [Value.slice.injEq, true_and] at hv
    obtain ⟨rfl, rfl⟩ := hv
    clear HI hany
    go_enter Tryz.func60, Tryz.ntmps60
    go_wp2_with (go_at_call 90; refine HI2.out.mono ?_; rintro e w1 ⟨⟨k, hk, rfl, hd⟩, rfl⟩; have HD := hid hd; have hk1 : ((k : Int) == -1) = false := (beq_eq_false_iff_ne.2 (by omega)); clear hd)
    clear hk1
    go_loopw [5, 6, 7] (fun i j _ wr => ∃ (a b : Nat) (L : List B), i = .int .i64 (a : Int) ∧ j = .int .i64 (b : Int) ∧ DlI l t a b L ∧ wr.ownsRow base 9 1 (.slice (some ⟨g, 0, none⟩) l.length c) L.length (rows strV L) ∧ Frm (Own (.slice (some ⟨g, 0, none⟩) l.length c)) w wr)
      (fun _ j _ _ => l.length - (intOf j).toNat)
    case atStart => exact ⟨k, k + 1, l, rfl, by go_num, HD.out, HROW.out, Frm.refl _ _⟩
    case round =>
      clear HD HROW
      obtain ⟨a, b, L, rfl, rfl, hd, ho, hf⟩ := hrel
      have HD := hid hd
      have HF := hid hf
      have HO := hid ho
      have hlen := hd.len
      have hab := hd.ab
      have hbn := hd.bn
      by_cases hbl : b < l.length
      · obtain ⟨g', cap', hv, -, hgw, -, hcell, hfz⟩ := own_at strS ho (i := b) (by omega)
        simp only [Value.slice.injEq, Option.some.injEq, Addr.mk.injEq, and_true] at hv
        obtain ⟨rfl, -, rfl⟩ := hv
        have z := hcell 0 (by omega)
        rw [hd.at_ hbl] at z
        have HSK := hid (fun h => hd.skip hbl h)
        have HKP := hid (fun h => hd.keep hbl h)
        have HST : Hid (∀ x, (wr.setCell ⟨g, a, none⟩ (.string ⟨x.toArray⟩)).ownsRow base 9 1 (.slice (some ⟨g, 0, none⟩) l.length c) (L.set a x).length (rows strV (L.set a x))) := hid (fun x => by
          have := own_set strS Tryz.prog (base := base) (l := L) (by rw [hlen] at ho ⊢; exact ho) (i := a) (j := 0) (by omega) (by omega) (x := .string ⟨x.toArray⟩) rfl (y := x) rfl
          rw [hlen, Nat.mul_one, Nat.add_zero] at this
          rw [List.length_set, hlen]
          exact this)
        obtain ⟨y, hca⟩ : ∃ y : B, wr.cell? ⟨g, a, none⟩ = some (.string ⟨y.toArray⟩) := by
          obtain ⟨g', cap', hv, -, -, -, hcell', -⟩ := own_at strS ho (i := a) (by omega)
          simp only [Value.slice.injEq, Option.some.injEq, Addr.mk.injEq, and_true] at hv
          obtain ⟨rfl, -, -⟩ := hv
          have := hcell' 0 (by omega)
          rw [Nat.mul_one, Nat.add_zero] at this
          exact ⟨_, this⟩
        have hfa := hfz a
        obtain ⟨x, hx⟩ : ∃ x, l[b] = x := ⟨_, rfl⟩
        rw [hx] at z HSK HKP
        simp only [strV, List.getElem?_cons_zero, Nat.mul_one, Nat.add_zero] at z
        have HX := hid (HL.out x wr hf)
        have HEQ : Hid ((x == t) = true ↔ x = t) := hid ⟨fun h => eq_of_beq h, fun h => by rw [h]; simp⟩
        clear hcell hd hf ho hx hfz
        generalize hqe : (x == t) = qq at *
        cases qq
        · have hne : ¬ x = t := fun h => by have := HEQ.out.2 h; cases this
          go_wp2_with (go_at_call 61; refine HX.out.mono ?_; rintro e w1 ⟨rfl, rfl⟩)
          exact ⟨⟨a + 1, b + 1, L.set a x, by go_num, by go_num, HKP.out hne, HST.out x, HF.out.then_ ((setCell_own _).weak (fun k' _ e => by have e : k' = g := e; subst e; rfl))⟩, by simp [intOf]; omega⟩
        · go_wp2_with (go_at_call 61; refine HX.out.mono ?_; rintro e w1 ⟨rfl, rfl⟩)
          exact ⟨⟨a, b + 1, L, rfl, by go_num, HSK.out (HEQ.out.1 trivial), HO.out, HF.out⟩, by simp [intOf]; omega⟩
      · obtain rfl : b = l.length := by omega
        have hdn := hd.done
        have hac : ¬ c = a := by omega
        have hal : a ≤ l.length := by omega
        have hpz : ¬ (l.length : Int) < (l.length : Int) := by omega
        obtain ⟨hl0, h2⟩ := ho
        rcases h2 with ⟨h0, -⟩ | ⟨g', cap', cur, hv, -, hg, -, hcm, hcs, htake⟩
        · cases h0
        simp only [Value.slice.injEq, Option.some.injEq, Addr.mk.injEq, and_true] at hv
        obtain ⟨rfl, -, rfl⟩ := hv
        rw [hlen] at htake
        have hcell : ∀ j, wr.cell? ⟨g, j, none⟩ = cur[j]? := fun j => by simp [World.cell?, hg]
        have hfz : ∀ j, wr.frozen? ⟨g, j, none⟩ = false := fun j => by simp [World.frozen?, hg]
        have hcl : ∀ ty, (Builtin.clear_ #[51] ty #[.slice (some ⟨g, a, none⟩) (l.length - a) (c - a)]).run Tryz.prog wr = .ok (.tuple #[]) (wr.setCells g a (List.replicate (l.length - a) (.string ByteArray.empty))) := fun ty =>
          Lib.run_clear_slice wr 51 9 ty (.string ByteArray.empty) Tryz.underlying51 Tryz.zeroValue9 rfl rfl g a _ _ (by omega) (fun j hj => by rw [hcell, Array.getElem?_eq_getElem (by omega)]; rfl) (fun j hj => hfz _)
        obtain ⟨cur2, hg2, hcs2, hfr2, hl2⟩ := row_set Tryz.prog (o := a) (vs := List.replicate (l.length - a) (.string ByteArray.empty)) hg (by simp; omega) (fun u hu => by rw [List.eq_of_mem_replicate hu]; rfl)
        have HTK : Hid (cur2.toList.take ((flt t l).length * 1) = rows strV (flt t l) ∧ (flt t l).length = a) := hid (by
          have hla : (flt t l).length = a := by rw [← hdn, List.length_take]; omega
          refine ⟨?_, hla⟩
          rw [hla, Nat.mul_one, hl2, List.append_assoc, List.take_append_of_le_length (by rw [List.length_take, Array.length_toList]; omega), List.take_take, Nat.min_self, ← hdn]
          have := rows_take strS L a
          rw [← htake] at this
          rw [← this, List.take_take]
          congr 1
          omega)
        generalize wr.setCells g a (List.replicate (l.length - a) (.string ByteArray.empty)) = W2 at *
        have HG2 := hid hg2
        have HFR := hid hfr2
        have HCS := hid (hcs2.trans hcs)
        have HCM := hid hcm
        clear hd hf hg hcell hfz htake hdn hg2 hfr2 hl2 hcs2 hcs hcm hl0
        go_wp2_with fail
        go_ret
        refine ⟨_, rfl, ⟨by rw [rows_length strS], .inr ⟨g, c, cur2, ?_, hbg, HG2.out, by rw [HTK.out.2]; omega, HCM.out, HCS.out, HTK.out.1⟩⟩, rfl, HF.out.then_ (HFR.out.weak (fun k' _ e => by have e : k' = g := e; subst e; rfl))⟩
        rw [HTK.out.2]
        rfl
end Go.Proofs.YtofcmghhmklmiaaGreat
