/- ContainsFunc over classes, the closures of Teaches and of Leave. Printed by a program (rollk.py). Teaches. The closures of Leave. -/
import Derived.Test.YtofcmghhmklmiaaGreatRollH
import Derived.Test.YtofcmghhmklmiaaGreatRollFG
namespace Go.Proofs.YtofcmghhmklmiaaGreat
open Go.RowKit
open Roll
set_option maxRecDepth 100000 in
set_option maxHeartbeats 4000000 in
theorem if_teaches (q : Cls → Bool) (l : List CV) (v : Value) (p1 p2 : Nat) (w : World) (hv : RdL w v 3 clsV l) (hl : l.length ≤ 1000000)
    (hq : ∀ x ∈ l, ∀ w1, Frm No w w1 → Calls Tryz.prog 52 #[.agg #[.string ⟨x.1.name.toArray⟩, .string ⟨x.1.teacher.toArray⟩, .slice x.2.1 x.1.students.length x.2.2], .pointer (some ⟨p1, 0, none⟩), .pointer (some ⟨p2, 0, none⟩)] w1 fun e w' => e = .returned (.bool (q x.1)) ∧ Frm No w1 w') :
    Calls Tryz.prog 80 #[v, .func (.func 52) #[] #[.pointer (some ⟨p1, 0, none⟩), .pointer (some ⟨p2, 0, none⟩)]] w fun e w' => ∃ i : Int, e = .returned (.int .i64 i) ∧ decide (0 ≤ i) = l.any (fun x => q x.1) ∧ Frm No w w' := by
  have HQ := hid hq
  clear hq
  obtain ⟨ao, c, rfl⟩ := hv.shape
  go_enter Tryz.func80, Tryz.ntmps80
  go_wp2_with fail
  go_loopw [5, 8] (fun _ i wr => ∃ k : Nat, k ≤ l.length ∧ i = .int .i64 (k : Int) ∧ (l.take k).any (fun x => q x.1) = false ∧ Frm No w wr)
    (fun _ i _ => l.length - (intOf i).toNat)
  case atStart => exact ⟨0, by omega, rfl, rfl, Frm.refl _ _⟩
  case round =>
    obtain ⟨k, hk, rfl, hb, hf⟩ := hrel
    have HB := hid hb
    have HF := hid hf
    clear hb
    by_cases hkl : k < l.length
    · obtain ⟨b, o, rfl, hc⟩ := hv.at_ (by omega)
      have z := hc k hkl
      have HS : Hid ((l.take (k + 1)).any (fun x => q x.1) = q l[k].1) := hid (by
        rw [List.take_succ_eq_append_getElem hkl, List.any_append, HB.out]
        simp)
      have HM : Hid (q l[k].1 = true → l.any (fun x => q x.1) = true) := hid (fun e => List.any_eq_true.2 ⟨l[k], List.getElem_mem hkl, e⟩)
      have HX := hid (fun w1 => HQ.out l[k] (List.getElem_mem hkl) w1)
      obtain ⟨x, hxk⟩ : ∃ x, l[k] = x := ⟨_, rfl⟩
      rw [hxk] at z HS HM HX
      have hbw : b < w.heap.size := World.block_lt_of_cell? (u := .string ⟨(cname x).toArray⟩) w ⟨b, o + (k * 3 + 0), none⟩ (by rw [z 0 (by omega)]; rfl)
      have r0 : wr.cell? ⟨b, o + k * 3, none⟩ = (clsV x)[0]? := (hf.cell hbw (fun h => h)).trans (z 0 (by omega))
      have r1 : wr.cell? ⟨b, o + k * 3 + 1, none⟩ = (clsV x)[1]? := (hf.cell hbw (fun h => h)).trans (z 1 (by omega))
      have r2 : wr.cell? ⟨b, o + k * 3 + 2, none⟩ = (clsV x)[2]? := (hf.cell hbw (fun h => h)).trans (z 2 (by omega))
      obtain ⟨⟨nm, te, st⟩, sa, sc⟩ := x
      simp only [clsV, List.getElem?_cons_zero, List.getElem?_cons_succ] at r0 r1 r2
      dsimp only at HX HS HM
      have HR := hid (HX.out wr hf)
      clear hc hv hf HX z
      generalize hqe : q ⟨nm, te, st⟩ = qq at *
      cases qq
      · go_wp2_with (go_at_call 52; refine HR.out.mono ?_; rintro e w1 ⟨rfl, hf1⟩)
        exact ⟨⟨k + 1, by omega, by go_num, HS.out, HF.out.thenNo hf1⟩, by simp [intOf]; omega⟩
      · go_wp2_with (go_at_call 52; refine HR.out.mono ?_; rintro e w1 ⟨rfl, hf1⟩)
        go_ret
        exact ⟨_, rfl, by rw [HM.out trivial]; simp, HF.out.thenNo hf1⟩
    · obtain rfl : k = l.length := by omega
      rw [List.take_length] at HB
      have hpz : ¬ (l.length : Int) < (l.length : Int) := by omega
      clear hf
      go_wp2_with fail
      go_ret
      exact ⟨_, rfl, by rw [HB.out]; rfl, HF.out⟩
set_option maxRecDepth 100000 in
set_option maxHeartbeats 4000000 in
theorem cf_teaches (q : Cls → Bool) (l : List CV) (v : Value) (p1 p2 : Nat) (w : World) (hv : RdL w v 3 clsV l) (hl : l.length ≤ 1000000)
    (hq : ∀ x ∈ l, ∀ w1, Frm No w w1 → Calls Tryz.prog 52 #[.agg #[.string ⟨x.1.name.toArray⟩, .string ⟨x.1.teacher.toArray⟩, .slice x.2.1 x.1.students.length x.2.2], .pointer (some ⟨p1, 0, none⟩), .pointer (some ⟨p2, 0, none⟩)] w1 fun e w' => e = .returned (.bool (q x.1)) ∧ Frm No w1 w') :
    Calls Tryz.prog 51 #[v, .func (.func 52) #[] #[.pointer (some ⟨p1, 0, none⟩), .pointer (some ⟨p2, 0, none⟩)]] w fun e w' => e = .returned (.bool (l.any (fun x => q x.1))) ∧ Frm No w w' := by
  have HI := hid (if_teaches q l v p1 p2 w hv hl hq)
  obtain ⟨ao, c, rfl⟩ := hv.shape
  clear hq hv
  go_enter Tryz.func51, Tryz.ntmps51
  go_wp2_with (go_at_call 80; refine HI.out.mono ?_; rintro e w1 ⟨i, rfl, hi, hf⟩)
  go_ret
  exact ⟨by rw [← hi]; rfl, hf⟩
set_option maxRecDepth 100000 in
set_option maxHeartbeats 4000000 in
theorem if_leave (q : Cls → Bool) (l : List CV) (v : Value) (p1 : Nat) (w : World) (hv : RdL w v 3 clsV l) (hl : l.length ≤ 1000000)
    (hq : ∀ x ∈ l, ∀ w1, Frm No w w1 → Calls Tryz.prog 58 #[.agg #[.string ⟨x.1.name.toArray⟩, .string ⟨x.1.teacher.toArray⟩, .slice x.2.1 x.1.students.length x.2.2], .pointer (some ⟨p1, 0, none⟩)] w1 fun e w' => e = .returned (.bool (q x.1)) ∧ Frm No w1 w') :
    Calls Tryz.prog 80 #[v, .func (.func 58) #[] #[.pointer (some ⟨p1, 0, none⟩)]] w fun e w' => ∃ i : Int, e = .returned (.int .i64 i) ∧ decide (0 ≤ i) = l.any (fun x => q x.1) ∧ Frm No w w' := by
  have HQ := hid hq
  clear hq
  obtain ⟨ao, c, rfl⟩ := hv.shape
  go_enter Tryz.func80, Tryz.ntmps80
  go_wp2_with fail
  go_loopw [5, 8] (fun _ i wr => ∃ k : Nat, k ≤ l.length ∧ i = .int .i64 (k : Int) ∧ (l.take k).any (fun x => q x.1) = false ∧ Frm No w wr)
    (fun _ i _ => l.length - (intOf i).toNat)
  case atStart => exact ⟨0, by omega, rfl, rfl, Frm.refl _ _⟩
  case round =>
    obtain ⟨k, hk, rfl, hb, hf⟩ := hrel
    have HB := hid hb
    have HF := hid hf
    clear hb
    by_cases hkl : k < l.length
    · obtain ⟨b, o, rfl, hc⟩ := hv.at_ (by omega)
      have z := hc k hkl
      have HS : Hid ((l.take (k + 1)).any (fun x => q x.1) = q l[k].1) := hid (by
        rw [List.take_succ_eq_append_getElem hkl, List.any_append, HB.out]
        simp)
      have HM : Hid (q l[k].1 = true → l.any (fun x => q x.1) = true) := hid (fun e => List.any_eq_true.2 ⟨l[k], List.getElem_mem hkl, e⟩)
      have HX := hid (fun w1 => HQ.out l[k] (List.getElem_mem hkl) w1)
      obtain ⟨x, hxk⟩ : ∃ x, l[k] = x := ⟨_, rfl⟩
      rw [hxk] at z HS HM HX
      have hbw : b < w.heap.size := World.block_lt_of_cell? (u := .string ⟨(cname x).toArray⟩) w ⟨b, o + (k * 3 + 0), none⟩ (by rw [z 0 (by omega)]; rfl)
      have r0 : wr.cell? ⟨b, o + k * 3, none⟩ = (clsV x)[0]? := (hf.cell hbw (fun h => h)).trans (z 0 (by omega))
      have r1 : wr.cell? ⟨b, o + k * 3 + 1, none⟩ = (clsV x)[1]? := (hf.cell hbw (fun h => h)).trans (z 1 (by omega))
      have r2 : wr.cell? ⟨b, o + k * 3 + 2, none⟩ = (clsV x)[2]? := (hf.cell hbw (fun h => h)).trans (z 2 (by omega))
      obtain ⟨⟨nm, te, st⟩, sa, sc⟩ := x
      simp only [clsV, List.getElem?_cons_zero, List.getElem?_cons_succ] at r0 r1 r2
      dsimp only at HX HS HM
      have HR := hid (HX.out wr hf)
      clear hc hv hf HX z
      generalize hqe : q ⟨nm, te, st⟩ = qq at *
      cases qq
      · go_wp2_with (go_at_call 58; refine HR.out.mono ?_; rintro e w1 ⟨rfl, hf1⟩)
        exact ⟨⟨k + 1, by omega, by go_num, HS.out, HF.out.thenNo hf1⟩, by simp [intOf]; omega⟩
      · go_wp2_with (go_at_call 58; refine HR.out.mono ?_; rintro e w1 ⟨rfl, hf1⟩)
        go_ret
        exact ⟨_, rfl, by rw [HM.out trivial]; simp, HF.out.thenNo hf1⟩
    · obtain rfl : k = l.length := by omega
      rw [List.take_length] at HB
      have hpz : ¬ (l.length : Int) < (l.length : Int) := by omega
      clear hf
      go_wp2_with fail
      go_ret
      exact ⟨_, rfl, by rw [HB.out]; rfl, HF.out⟩
set_option maxRecDepth 100000 in
set_option maxHeartbeats 4000000 in
theorem cf_leave (q : Cls → Bool) (l : List CV) (v : Value) (p1 : Nat) (w : World) (hv : RdL w v 3 clsV l) (hl : l.length ≤ 1000000)
    (hq : ∀ x ∈ l, ∀ w1, Frm No w w1 → Calls Tryz.prog 58 #[.agg #[.string ⟨x.1.name.toArray⟩, .string ⟨x.1.teacher.toArray⟩, .slice x.2.1 x.1.students.length x.2.2], .pointer (some ⟨p1, 0, none⟩)] w1 fun e w' => e = .returned (.bool (q x.1)) ∧ Frm No w1 w') :
    Calls Tryz.prog 51 #[v, .func (.func 58) #[] #[.pointer (some ⟨p1, 0, none⟩)]] w fun e w' => e = .returned (.bool (l.any (fun x => q x.1))) ∧ Frm No w w' := by
  have HI := hid (if_leave q l v p1 w hv hl hq)
  obtain ⟨ao, c, rfl⟩ := hv.shape
  clear hq hv
  go_enter Tryz.func51, Tryz.ntmps51
  go_wp2_with (go_at_call 80; refine HI.out.mono ?_; rintro e w1 ⟨i, rfl, hi, hf⟩)
  go_ret
  exact ⟨by rw [← hi]; rfl, hf⟩
end Go.Proofs.YtofcmghhmklmiaaGreat

namespace Go.Proofs.YtofcmghhmklmiaaGreat
open Go.RowKit
open Roll
set_option maxRecDepth 100000 in
set_option maxHeartbeats 4000000 in
theorem tc_any (x : CV) (t s : B) (p1 p2 : Nat) (w : World) (h1 : w.cell? ⟨p1, 0, none⟩ = some (.string ⟨t.toArray⟩)) (h2 : w.cell? ⟨p2, 0, none⟩ = some (.string ⟨s.toArray⟩))
    (hst : RdL w (.slice x.2.1 x.1.students.length x.2.2) 1 strV x.1.students) (hl : x.1.students.length ≤ 1000000) :
    Calls Tryz.prog 52 #[.agg #[.string ⟨x.1.name.toArray⟩, .string ⟨x.1.teacher.toArray⟩, .slice x.2.1 x.1.students.length x.2.2], .pointer (some ⟨p1, 0, none⟩), .pointer (some ⟨p2, 0, none⟩)] w fun e w' => e = .returned (.bool (x.1.teacher == t && has id x.1.students s)) ∧ Frm No w w' := by
  have HC := hid (fun w1 (hf : Frm No w w1) => contains_any x.1.students _ s w1 (hst.frm (fun _ _ => rfl) hf (fun _ _ h => h)) hl)
  have hb1 : p1 < w.heap.size := World.block_lt_of_cell? w _ h1
  have hb2 : p2 < w.heap.size := World.block_lt_of_cell? w _ h2
  clear hst
  obtain ⟨⟨nm, te, st⟩, sa, sc⟩ := x
  dsimp only at HC hl ⊢
  generalize has id st s = hh at *
  generalize st.length = sl at *
  by_cases he : te = t
  · subst he
    have hxx : (te == te) = true := by simp
    go_enter Tryz.func52, Tryz.ntmps52
    go_wp2_with (go_at_call 53; refine (HC.out _ ((Frm.refl No w).alloc _)).mono ?_; rintro e w1 ⟨rfl, rfl⟩)
    go_ret
    exact ⟨by rw [hxx]; rfl, (Frm.refl No w).alloc _⟩
  · have hxx : (te == t) = false := by simpa using he
    clear he
    go_enter Tryz.func52, Tryz.ntmps52
    go_wp2_with fail
    go_ret
    exact ⟨by rw [hxx]; rfl, (Frm.refl No w).alloc _⟩
def teaches (R : Rl) (t s : B) : Bool := R.clss.any fun c => c.teacher == t && has id c.students s
set_option maxRecDepth 100000 in
set_option maxHeartbeats 4000000 in
theorem teaches_any (R : Rl) (mv cv : Value) (t s : B) (w : World) (hr : RlR w mv cv R) (hI : Inv R) :
    Calls Tryz.prog 17 #[.agg #[mv, cv], .string ⟨t.toArray⟩, .string ⟨s.toArray⟩] w fun e w' => e = .returned (.bool (teaches R t s)) ∧ Frm No w w' := by
  obtain ⟨mao, mcp, rfl⟩ := hr.mr.shape
  obtain ⟨cs, hfs, hc, hst⟩ := hr.cr
  have hcl := hI.cl
  have hsl : ∀ x ∈ cs, x.1.students.length ≤ 1000000 := fun x hx => by
    have := hI.students (by rw [← hfs]; exact List.mem_map_of_mem hx : x.1 ∈ R.clss)
    omega
  have hcsl : cs.length = R.clss.length := by rw [← hfs]; simp
  have he : teaches R t s = cs.any (fun x => x.1.teacher == t && has id x.1.students s) := by
    unfold teaches
    rw [← hfs, List.any_map]
    rfl
  have HCF := hid (fun w1 (hf : Frm No w w1) (p1 p2 : Nat) (h1 : w1.cell? ⟨p1, 0, none⟩ = some (.string ⟨t.toArray⟩)) (h2 : w1.cell? ⟨p2, 0, none⟩ = some (.string ⟨s.toArray⟩)) =>
    cf_teaches (fun c => c.teacher == t && has id c.students s) cs cv p1 p2 w1 (hc.frm (fun _ _ => rfl) hf (fun _ _ h => h)) (by omega)
      (fun x hx w2 hf2 => tc_any x t s p1 p2 w2 ((hf2.cell (p := ⟨p1, 0, none⟩) (World.block_lt_of_cell? w1 _ h1) (fun h => h)).trans h1) ((hf2.cell (p := ⟨p2, 0, none⟩) (World.block_lt_of_cell? w1 _ h2) (fun h => h)).trans h2) ((hst x hx).frm (fun _ _ => rfl) (hf.thenNo hf2) (fun _ _ h => h)) (hsl x hx)))
  obtain ⟨cao, ccp, rfl⟩ := hc.shape
  rw [he]
  clear hr hc hst hsl hfs he hcl
  generalize cs.any (fun x => x.1.teacher == t && has id x.1.students s) = r at *
  generalize cs.length = cl at *
  clear hcsl hI
  have X1 := Box.new ((Frm.refl No w).alloc (.cells #[.slice mao R.mems.length mcp, .slice cao cl ccp] 27)) [.string ⟨t.toArray⟩] 9
  have X2 := Box.new X1.frm [.string ⟨s.toArray⟩] 9
  have Y1 := X1.no ((Frm.refl No _).alloc (.cells #[.string ⟨s.toArray⟩] 9))
  have h1 := Y1.cell 0
  have h2 := X2.cell 0
  simp only [World.size_alloc, List.getElem?_cons_zero] at h1 h2
  have HF := hid X2.frm
  have HT := hid (HCF.out _ HF.out (w.heap.size + 1) (w.heap.size + 1 + 1) h1 h2)
  clear X1 X2 Y1 h1 h2
  generalize R.mems.length = ml at *
  clear HCF
  go_enter Tryz.func17, Tryz.ntmps17
  go_wp2_with (go_at_call 51; refine HT.out.mono ?_; rintro e w1 ⟨rfl, hf1⟩)
  go_ret
  exact ⟨rfl, HF.out.thenNo hf1⟩
end Go.Proofs.YtofcmghhmklmiaaGreat

namespace Go.Proofs.YtofcmghhmklmiaaGreat
open Go.RowKit
open Roll
set_option maxRecDepth 100000 in
set_option maxHeartbeats 4000000 in
theorem lc_any (x : CV) (t : B) (p1 : Nat) (w : World) (h1 : w.cell? ⟨p1, 0, none⟩ = some (.string ⟨t.toArray⟩)) :
    Calls Tryz.prog 58 #[.agg #[.string ⟨x.1.name.toArray⟩, .string ⟨x.1.teacher.toArray⟩, .slice x.2.1 x.1.students.length x.2.2], .pointer (some ⟨p1, 0, none⟩)] w fun e w' => e = .returned (.bool (x.1.teacher == t)) ∧ Frm No w w' := by
  have hb1 : p1 < w.heap.size := World.block_lt_of_cell? w _ h1
  obtain ⟨⟨nm, te, st⟩, sa, sc⟩ := x
  dsimp only
  generalize st.length = sl at *
  generalize hxx : (te == t) = r
  go_enter Tryz.func58, Tryz.ntmps58
  go_wp2_with fail
  go_ret
  exact ⟨rfl, (Frm.refl No w).alloc _⟩
theorem ls_any (x t : B) (p1 : Nat) (w : World) (h1 : w.cell? ⟨p1, 0, none⟩ = some (.string ⟨t.toArray⟩)) :
    Calls Tryz.prog 61 #[.string ⟨x.toArray⟩, .pointer (some ⟨p1, 0, none⟩)] w fun e w' => e = .returned (.bool (x == t)) ∧ w = w' := by
  have hb1 : p1 < w.heap.size := World.block_lt_of_cell? w _ h1
  generalize hxx : (x == t) = r
  go_enter Tryz.func61, Tryz.ntmps61
  go_wp2_with fail
  go_ret
  exact ⟨rfl, rfl⟩
set_option maxRecDepth 100000 in
set_option maxHeartbeats 4000000 in
/-- The first of the strings that is 't', or -1. -/
theorem ifs_any (l : List B) (t : B) (v : Value) (p1 : Nat) (w : World) (hv : RdL w v 1 strV l) (hl : l.length ≤ 1000000) (h1 : w.cell? ⟨p1, 0, none⟩ = some (.string ⟨t.toArray⟩)) :
    Calls Tryz.prog 90 #[v, .func (.func 61) #[] #[.pointer (some ⟨p1, 0, none⟩)]] w fun e w' => w = w' ∧
      ((∃ (k : Nat) (h : k < l.length), e = .returned (.int .i64 (k : Int)) ∧ (l.take k).any (fun x => x == t) = false ∧ l[k] = t) ∨ (e = .returned (.int .i64 (-1)) ∧ l.any (fun x => x == t) = false)) := by
  have HQ := hid (fun x => ls_any x t p1 w h1)
  clear h1
  obtain ⟨ao, c, rfl⟩ := hv.shape
  go_enter Tryz.func90, Tryz.ntmps90
  go_wp2_with fail
  go_loopw [5, 8] (fun _ i wr => ∃ k : Nat, k ≤ l.length ∧ i = .int .i64 (k : Int) ∧ (l.take k).any (fun x => x == t) = false ∧ w = wr)
    (fun _ i _ => l.length - (intOf i).toNat)
  case atStart => exact ⟨0, by omega, rfl, rfl, rfl⟩
  case round =>
    obtain ⟨k, hk, rfl, hb, rfl⟩ := hrel
    have HB := hid hb
    clear hb
    by_cases hkl : k < l.length
    · obtain ⟨b, o, rfl, hc⟩ := hv.at_ (by omega)
      have z := hc k hkl 0 (by omega)
      have HS : Hid ((l.take (k + 1)).any (fun x => x == t) = (l[k] == t)) := hid (by
        rw [List.take_succ_eq_append_getElem hkl, List.any_append, HB.out]
        simp)
      have HX := hid (HQ.out l[k])
      have HKX := hid (fun (h : (l[k] == t) = true) => (eq_of_beq h : l[k] = t))
      obtain ⟨x, hxk⟩ : ∃ x, l[k] = x := ⟨_, rfl⟩
      have HXK := hid hxk
      rw [hxk] at z HS HX HKX
      simp only [strV, List.getElem?_cons_zero, Nat.mul_one, Nat.add_zero] at z
      clear hc hv hxk HQ
      generalize hqe : (x == t) = qq at *
      cases qq
      · go_wp2_with (go_at_call 61; refine HX.out.mono ?_; rintro e w1 ⟨rfl, rfl⟩)
        exact ⟨⟨k + 1, by omega, by go_num, HS.out, trivial⟩, by simp [intOf]; omega⟩
      · go_wp2_with (go_at_call 61; refine HX.out.mono ?_; rintro e w1 ⟨rfl, rfl⟩)
        go_ret
        exact ⟨rfl, .inl ⟨k, hkl, rfl, HB.out, HXK.out.trans (HKX.out trivial)⟩⟩
    · obtain rfl : k = l.length := by omega
      rw [List.take_length] at HB
      have hpz : ¬ (l.length : Int) < (l.length : Int) := by omega
      go_wp2_with fail
      go_ret
      exact ⟨rfl, .inr ⟨rfl, by simpa using HB.out⟩⟩
end Go.Proofs.YtofcmghhmklmiaaGreat
