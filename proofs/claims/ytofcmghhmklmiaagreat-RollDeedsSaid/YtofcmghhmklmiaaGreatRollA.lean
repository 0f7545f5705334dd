/- A roll's cells; where a member or a class stands. Printed by a program (rolla.py). -/
import Derived.Test.YtofcmghhmklmiaaGreatRollLaw
import Derived.Test.YtofcmghhmklmiaaGreatRow
import Derived.Test.YtofcmghhmklmiaaGreatShelf
import Derived.Test.YtofcmghhmklmiaaGreatNamesAll
namespace Go.Proofs.YtofcmghhmklmiaaGreat
open Go.RowKit
open Roll

def strV (s : B) : List Value := [.string ⟨s.toArray⟩]
def memV (m : Mem) : List Value := [.string ⟨m.name.toArray⟩, .int .i64 m.role, .int .i64 m.quota]
/-- A class, and where its students' list lies. -/
abbrev CV := Cls × (Option Addr × Nat)
def sv (p : CV) : Value := .slice p.2.1 p.1.students.length p.2.2
def clsV (p : CV) : List Value := [.string ⟨p.1.name.toArray⟩, .string ⟨p.1.teacher.toArray⟩, .slice p.2.1 p.1.students.length p.2.2]
def cname (p : CV) : B := p.1.name
theorem strS : Shp strV 1 := ⟨fun _ => rfl, fun x u hu => by simp only [strV, List.mem_cons, List.not_mem_nil, or_false] at hu; subst hu; rfl⟩
theorem clsS : Shp clsV 3 := ⟨fun _ => rfl, fun x u hu => by simp only [clsV, List.mem_cons, List.not_mem_nil, or_false] at hu; rcases hu with rfl | rfl | rfl <;> rfl⟩
theorem memS : Shp memV 3 := ⟨fun _ => rfl, fun x u hu => by simp only [memV, List.mem_cons, List.not_mem_nil, or_false] at hu; rcases hu with rfl | rfl | rfl <;> rfl⟩
/-- What the parts of a roll read as. -/
structure RlR (w : World) (mv cv : Value) (R : Rl) : Prop where
  mr : RdL w mv 3 memV R.mems
  cr : ∃ cs : List CV, cs.map (·.1) = R.clss ∧ RdL w cv 3 clsV cs ∧ ∀ p ∈ cs, RdL w (sv p) 1 strV p.1.students
theorem RlR.no {w w' : World} {mv cv : Value} {R : Rl} (h : RlR w mv cv R) (hf : Frm No w w') : RlR w' mv cv R := by
  obtain ⟨cs, h1, h2, h3⟩ := h.cr
  exact ⟨h.mr.frm (fun _ _ => rfl) hf (fun _ _ h => h), cs, h1, h2.frm (fun _ _ => rfl) hf (fun _ _ h => h), fun p hp => (h3 p hp).frm (fun _ _ => rfl) hf (fun _ _ h => h)⟩
theorem place_fst (cs : List CV) (n : B) : place cname cs n = place Cls.name (cs.map (·.1)) n := by
  unfold place
  rw [List.countP_map]
  rfl
theorem has_fst (cs : List CV) (n : B) : has cname cs n = has Cls.name (cs.map (·.1)) n := by
  unfold has
  rw [List.any_map]
  rfl
theorem srt_fst {cs : List CV} (h : Srt Cls.name (cs.map (·.1))) : Srt cname cs := by
  unfold Srt at *
  rw [List.pairwise_map] at h
  exact h

theorem cmp_any (a b : B) (w : World) : Calls Tryz.prog 77 #[.string ⟨a.toArray⟩, .string ⟨b.toArray⟩] w fun e w' => e = .returned (.int .i64 (Lib.compareBytes a b)) ∧ w = w' :=
  (Tryz.strings_Compare ⟨a.toArray⟩ ⟨b.toArray⟩ w).mono fun _ _ ⟨h1, h2⟩ => ⟨by simpa using h1, h2.symm⟩
theorem cmp_neg {a b : B} (h : a < b) : Lib.compareBytes a b < 0 := (cmp_lt a b).2 h
theorem cmp_not {a b : B} (h : ¬ a < b) : ¬ Lib.compareBytes a b < 0 := fun k => h ((cmp_lt a b).1 k)
theorem cmp_zero (a b : B) : decide (Lib.compareBytes a b = 0) = decide (a = b) := by
  rw [Bool.eq_iff_iff]
  simp only [decide_eq_true_eq]
  exact cmp_eq0 a b

theorem mc_any (m : Mem) (n : B) (w : World) : Calls Tryz.prog 76 #[.agg #[.string ⟨m.name.toArray⟩, .int .i64 m.role, .int .i64 m.quota], .string ⟨n.toArray⟩] w fun e w' => e = .returned (.int .i64 (Lib.compareBytes (Mem.name m) n)) ∧ Frm No w w' := by
  obtain ⟨nm, ro, qu⟩ := m
  show Calls Tryz.prog _ _ _ fun e w' => e = .returned (.int .i64 (Lib.compareBytes nm n)) ∧ Frm No w w'
  dsimp only
  go_enter Tryz.func76, Tryz.ntmps76
  go_wp2_with (go_at_call 77; refine (cmp_any _ _ _).mono ?_; rintro e w1 ⟨rfl, rfl⟩)
  go_ret
  exact ⟨rfl, (Frm.refl No w).alloc _⟩
set_option maxRecDepth 100000 in
set_option maxHeartbeats 1000000 in
theorem bsm_any (l : List (Mem)) (v : Value) (n : B) (w : World) (hv : RdL w v 3 memV l) (hs : Srt Mem.name l) (hl : l.length ≤ 1000000) :
    Calls Tryz.prog 75 #[v, .string ⟨n.toArray⟩, .func (.func 76) #[] #[]] w fun e w' =>
      e = .returned (.tuple #[.int .i64 ((place Mem.name l n : Nat) : Int), .bool (has Mem.name l n)]) ∧ Frm No w w' := by
  obtain ⟨ao, c, rfl⟩ := hv.shape
  have HLT := hid (fun t (ht : t < l.length) => lt_place (n := n) hs t ht)
  have hp := @place_le _ Mem.name l n
  have HH := hid (has_opt (n := n) hs)
  obtain ⟨p, hpe⟩ : ∃ p, place Mem.name l n = p := ⟨_, rfl⟩
  simp only [hpe] at HLT hp HH ⊢
  clear hs hpe
  obtain ⟨hh, hhe⟩ : ∃ hh, has Mem.name l n = hh := ⟨_, rfl⟩
  rw [hhe] at HH ⊢
  clear hhe
  go_enter Tryz.func75, Tryz.ntmps75
  go_wp2_with fail
  go_loopw [9, 10, 11] (fun i j _ wr => ∃ lo hi : Nat, i = .int .i64 (lo : Int) ∧ j = .int .i64 (hi : Int) ∧ lo ≤ p ∧ p ≤ hi ∧ hi ≤ l.length ∧ Frm No w wr)
    (fun i j _ _ => (intOf j).toNat - (intOf i).toNat)
  case atStart => exact ⟨0, l.length, rfl, rfl, Nat.zero_le _, hp, Nat.le_refl _, Frm.refl _ _⟩
  case round =>
    obtain ⟨lo, hi, rfl, rfl, h1, h2, h3, hf⟩ := hrel
    have HF := hid hf
    by_cases hlt : lo < hi
    · obtain ⟨b, o, rfl, hc⟩ := hv.at_ (by omega)
      have hml : (lo + hi) / 2 < l.length := by omega
      have q := hc ((lo + hi) / 2) hml
      have HK := hid (HLT.out _ hml)
      obtain ⟨x, hxk⟩ : ∃ x, l[(lo + hi) / 2] = x := ⟨_, rfl⟩
      rw [hxk] at q HK
      have hb : b < w.heap.size := World.block_lt_of_cell? (u := .string ⟨(Mem.name x).toArray⟩) w ⟨b, o + ((lo + hi) / 2 * 3 + 0), none⟩ (by rw [q 0 (by omega)]; rfl)
      have r0 : wr.cell? ⟨b, o + (lo + hi) / 2 * 3, none⟩ = (memV x)[0]? := (hf.cell hb (fun h => h)).trans (q 0 (by omega))
      have r1 : wr.cell? ⟨b, o + (lo + hi) / 2 * 3 + 1, none⟩ = (memV x)[1]? := (hf.cell hb (fun h => h)).trans (q 1 (by omega))
      have r2 : wr.cell? ⟨b, o + (lo + hi) / 2 * 3 + 2, none⟩ = (memV x)[2]? := (hf.cell hb (fun h => h)).trans (q 2 (by omega))
      have HX := hid (fun w1 => mc_any x n w1)
      obtain ⟨nm, ro, qu⟩ := x
      simp only [memV, List.getElem?_cons_zero, List.getElem?_cons_succ] at r0 r1 r2
      dsimp only at HX
      clear q hc hv hf
      generalize hm : (lo + hi) / 2 = mid at *
      have hmi : ((lo : Int) + (hi : Int)) / 2 = (mid : Int) := by omega
      by_cases hlx : mid < p
      · have HC := hid (cmp_neg (HK.out.1 hlx))
        have hcl := HC.out
        go_wp2_with (go_at_call 76; refine (HX.out _).mono ?_; rintro e w1 ⟨rfl, hf1⟩)
        exact ⟨⟨mid + 1, hi, by go_num, rfl, by omega, h2, h3, HF.out.thenNo hf1⟩, by simp only [intOf]; omega⟩
      · have HC := hid (cmp_not (fun h => hlx (HK.out.2 h)))
        have hcl := HC.out
        go_wp2_with (go_at_call 76; refine (HX.out _).mono ?_; rintro e w1 ⟨rfl, hf1⟩)
        exact ⟨⟨lo, mid, rfl, by go_num, h1, by omega, by omega, HF.out.thenNo hf1⟩, by simp only [intOf]; omega⟩
    · obtain rfl : lo = p := by omega
      by_cases hpl : lo < l.length
      · obtain ⟨b, o, rfl, hc⟩ := hv.at_ (by omega)
        have q := hc lo hpl
        have HQ : Hid (hh = decide (Mem.name l[lo] = n)) := hid (by
          rw [Bool.eq_iff_iff, HH.out]
          simp [List.getElem?_eq_getElem hpl])
        obtain ⟨x, hxk⟩ : ∃ x, l[lo] = x := ⟨_, rfl⟩
        rw [hxk] at q HQ
        have hb : b < w.heap.size := World.block_lt_of_cell? (u := .string ⟨(Mem.name x).toArray⟩) w ⟨b, o + (lo * 3 + 0), none⟩ (by rw [q 0 (by omega)]; rfl)
        have r0 : wr.cell? ⟨b, o + lo * 3, none⟩ = (memV x)[0]? := (hf.cell hb (fun h => h)).trans (q 0 (by omega))
        have r1 : wr.cell? ⟨b, o + lo * 3 + 1, none⟩ = (memV x)[1]? := (hf.cell hb (fun h => h)).trans (q 1 (by omega))
        have r2 : wr.cell? ⟨b, o + lo * 3 + 2, none⟩ = (memV x)[2]? := (hf.cell hb (fun h => h)).trans (q 2 (by omega))
        have HX := hid (fun w1 => mc_any x n w1)
        rw [← cmp_zero] at HQ
        obtain ⟨nm, ro, qu⟩ := x
        simp only [memV, List.getElem?_cons_zero, List.getElem?_cons_succ] at r0 r1 r2
        dsimp only at HX
        clear q hc hv hf
        have hpz : (lo : Int) < (l.length : Int) := by omega
        go_wp2_with (go_at_call 76; refine (HX.out _).mono ?_; rintro e w1 ⟨rfl, hf1⟩)
        go_ret2
        exact ⟨by rw [HQ.out]; rfl, HF.out.thenNo hf1⟩
      · have HQ : Hid (hh = false) := hid (by
          cases hh
          · rfl
          · obtain ⟨x, h, -⟩ := HH.out.1 rfl
            exact absurd (List.getElem?_eq_some_iff.1 h).1 hpl)
        have hpz : ¬ (lo : Int) < (l.length : Int) := by omega
        clear hf
        go_wp2_with fail
        go_ret2
        exact ⟨by rw [HQ.out]; rfl, HF.out⟩
set_option maxRecDepth 100000 in
set_option maxHeartbeats 4000000 in
theorem member_any (R : Rl) (mv cv : Value) (n : B) (w : World) (hr : RlR w mv cv R) (hs : Srt Mem.name R.mems) (hl : R.mems.length ≤ 1000000) :
    Calls Tryz.prog 48 #[.agg #[mv, cv], .string ⟨n.toArray⟩] w fun e w' =>
      e = .returned (.tuple #[.int .i64 ((place Mem.name R.mems n : Nat) : Int), .bool (has Mem.name R.mems n)]) ∧ Frm No w w' := by
  have HB := hid (fun w1 (hf : Frm No w w1) => bsm_any R.mems mv n w1 (hr.no hf).mr hs hl)
  obtain ⟨mao, mcp, rfl⟩ := hr.mr.shape
  obtain ⟨cs, -, hc, -⟩ := hr.cr
  obtain ⟨cao, ccp, rfl⟩ := hc.shape
  clear hr hs hc
  generalize place Mem.name R.mems n = p at *
  generalize has Mem.name R.mems n = b at *
  generalize R.mems.length = ml at *
  go_enter Tryz.func48, Tryz.ntmps48
  go_wp2_with (go_at_call 75; refine (HB.out _ ((Frm.refl No w).alloc _)).mono ?_; rintro e w1 ⟨rfl, hf1⟩)
  go_ret2
  exact ⟨rfl, ((Frm.refl No w).alloc _).thenNo hf1⟩

theorem kc_any (m : CV) (n : B) (w : World) : Calls Tryz.prog 79 #[.agg #[.string ⟨m.1.name.toArray⟩, .string ⟨m.1.teacher.toArray⟩, .slice m.2.1 m.1.students.length m.2.2], .string ⟨n.toArray⟩] w fun e w' => e = .returned (.int .i64 (Lib.compareBytes (cname m) n)) ∧ Frm No w w' := by
  obtain ⟨⟨nm, te, st⟩, sa, sc⟩ := m
  show Calls Tryz.prog _ _ _ fun e w' => e = .returned (.int .i64 (Lib.compareBytes nm n)) ∧ Frm No w w'
  dsimp only
  go_enter Tryz.func79, Tryz.ntmps79
  go_wp2_with (go_at_call 77; refine (cmp_any _ _ _).mono ?_; rintro e w1 ⟨rfl, rfl⟩)
  go_ret
  exact ⟨rfl, (Frm.refl No w).alloc _⟩
set_option maxRecDepth 100000 in
set_option maxHeartbeats 1000000 in
theorem bsk_any (l : List (CV)) (v : Value) (n : B) (w : World) (hv : RdL w v 3 clsV l) (hs : Srt cname l) (hl : l.length ≤ 1000000) :
    Calls Tryz.prog 78 #[v, .string ⟨n.toArray⟩, .func (.func 79) #[] #[]] w fun e w' =>
      e = .returned (.tuple #[.int .i64 ((place cname l n : Nat) : Int), .bool (has cname l n)]) ∧ Frm No w w' := by
  obtain ⟨ao, c, rfl⟩ := hv.shape
  have HLT := hid (fun t (ht : t < l.length) => lt_place (n := n) hs t ht)
  have hp := @place_le _ cname l n
  have HH := hid (has_opt (n := n) hs)
  obtain ⟨p, hpe⟩ : ∃ p, place cname l n = p := ⟨_, rfl⟩
  simp only [hpe] at HLT hp HH ⊢
  clear hs hpe
  obtain ⟨hh, hhe⟩ : ∃ hh, has cname l n = hh := ⟨_, rfl⟩
  rw [hhe] at HH ⊢
  clear hhe
  go_enter Tryz.func78, Tryz.ntmps78
  go_wp2_with fail
  go_loopw [9, 10, 11] (fun i j _ wr => ∃ lo hi : Nat, i = .int .i64 (lo : Int) ∧ j = .int .i64 (hi : Int) ∧ lo ≤ p ∧ p ≤ hi ∧ hi ≤ l.length ∧ Frm No w wr)
    (fun i j _ _ => (intOf j).toNat - (intOf i).toNat)
  case atStart => exact ⟨0, l.length, rfl, rfl, Nat.zero_le _, hp, Nat.le_refl _, Frm.refl _ _⟩
  case round =>
    obtain ⟨lo, hi, rfl, rfl, h1, h2, h3, hf⟩ := hrel
    have HF := hid hf
    by_cases hlt : lo < hi
    · obtain ⟨b, o, rfl, hc⟩ := hv.at_ (by omega)
      have hml : (lo + hi) / 2 < l.length := by omega
      have q := hc ((lo + hi) / 2) hml
      have HK := hid (HLT.out _ hml)
      obtain ⟨x, hxk⟩ : ∃ x, l[(lo + hi) / 2] = x := ⟨_, rfl⟩
      rw [hxk] at q HK
      have hb : b < w.heap.size := World.block_lt_of_cell? (u := .string ⟨(cname x).toArray⟩) w ⟨b, o + ((lo + hi) / 2 * 3 + 0), none⟩ (by rw [q 0 (by omega)]; rfl)
      have r0 : wr.cell? ⟨b, o + (lo + hi) / 2 * 3, none⟩ = (clsV x)[0]? := (hf.cell hb (fun h => h)).trans (q 0 (by omega))
      have r1 : wr.cell? ⟨b, o + (lo + hi) / 2 * 3 + 1, none⟩ = (clsV x)[1]? := (hf.cell hb (fun h => h)).trans (q 1 (by omega))
      have r2 : wr.cell? ⟨b, o + (lo + hi) / 2 * 3 + 2, none⟩ = (clsV x)[2]? := (hf.cell hb (fun h => h)).trans (q 2 (by omega))
      have HX := hid (fun w1 => kc_any x n w1)
      obtain ⟨⟨nm, te, st⟩, sa, sc⟩ := x
      simp only [clsV, List.getElem?_cons_zero, List.getElem?_cons_succ] at r0 r1 r2
      dsimp only at HX
      clear q hc hv hf
      generalize hm : (lo + hi) / 2 = mid at *
      have hmi : ((lo : Int) + (hi : Int)) / 2 = (mid : Int) := by omega
      by_cases hlx : mid < p
      · have HC := hid (cmp_neg (HK.out.1 hlx))
        have hcl := HC.out
        go_wp2_with (go_at_call 79; refine (HX.out _).mono ?_; rintro e w1 ⟨rfl, hf1⟩)
        exact ⟨⟨mid + 1, hi, by go_num, rfl, by omega, h2, h3, HF.out.thenNo hf1⟩, by simp only [intOf]; omega⟩
      · have HC := hid (cmp_not (fun h => hlx (HK.out.2 h)))
        have hcl := HC.out
        go_wp2_with (go_at_call 79; refine (HX.out _).mono ?_; rintro e w1 ⟨rfl, hf1⟩)
        exact ⟨⟨lo, mid, rfl, by go_num, h1, by omega, by omega, HF.out.thenNo hf1⟩, by simp only [intOf]; omega⟩
    · obtain rfl : lo = p := by omega
      by_cases hpl : lo < l.length
      · obtain ⟨b, o, rfl, hc⟩ := hv.at_ (by omega)
        have q := hc lo hpl
        have HQ : Hid (hh = decide (cname l[lo] = n)) := hid (by
          rw [Bool.eq_iff_iff, HH.out]
          simp [List.getElem?_eq_getElem hpl])
        obtain ⟨x, hxk⟩ : ∃ x, l[lo] = x := ⟨_, rfl⟩
        rw [hxk] at q HQ
        have hb : b < w.heap.size := World.block_lt_of_cell? (u := .string ⟨(cname x).toArray⟩) w ⟨b, o + (lo * 3 + 0), none⟩ (by rw [q 0 (by omega)]; rfl)
        have r0 : wr.cell? ⟨b, o + lo * 3, none⟩ = (clsV x)[0]? := (hf.cell hb (fun h => h)).trans (q 0 (by omega))
        have r1 : wr.cell? ⟨b, o + lo * 3 + 1, none⟩ = (clsV x)[1]? := (hf.cell hb (fun h => h)).trans (q 1 (by omega))
        have r2 : wr.cell? ⟨b, o + lo * 3 + 2, none⟩ = (clsV x)[2]? := (hf.cell hb (fun h => h)).trans (q 2 (by omega))
        have HX := hid (fun w1 => kc_any x n w1)
        rw [← cmp_zero] at HQ
        obtain ⟨⟨nm, te, st⟩, sa, sc⟩ := x
        simp only [clsV, List.getElem?_cons_zero, List.getElem?_cons_succ] at r0 r1 r2
        dsimp only at HX
        clear q hc hv hf
        have hpz : (lo : Int) < (l.length : Int) := by omega
        go_wp2_with (go_at_call 79; refine (HX.out _).mono ?_; rintro e w1 ⟨rfl, hf1⟩)
        go_ret2
        exact ⟨by rw [HQ.out]; rfl, HF.out.thenNo hf1⟩
      · have HQ : Hid (hh = false) := hid (by
          cases hh
          · rfl
          · obtain ⟨x, h, -⟩ := HH.out.1 rfl
            exact absurd (List.getElem?_eq_some_iff.1 h).1 hpl)
        have hpz : ¬ (lo : Int) < (l.length : Int) := by omega
        clear hf
        go_wp2_with fail
        go_ret2
        exact ⟨by rw [HQ.out]; rfl, HF.out⟩
set_option maxRecDepth 100000 in
set_option maxHeartbeats 4000000 in
theorem class_any (R : Rl) (mv cv : Value) (n : B) (w : World) (hr : RlR w mv cv R) (hs : Srt Cls.name R.clss) (hl : R.clss.length ≤ 1000000) :
    Calls Tryz.prog 49 #[.agg #[mv, cv], .string ⟨n.toArray⟩] w fun e w' =>
      e = .returned (.tuple #[.int .i64 ((place Cls.name R.clss n : Nat) : Int), .bool (has Cls.name R.clss n)]) ∧ Frm No w w' := by
  obtain ⟨mao, mcp, rfl⟩ := hr.mr.shape
  obtain ⟨cs, he, hc, -⟩ := hr.cr
  have hlen : cs.length = R.clss.length := by rw [← he]; simp
  have hs' : Srt cname cs := srt_fst (by rw [he]; exact hs)
  have hcf : ∀ w1, Frm No w w1 → RdL w1 cv 3 clsV cs := fun w1 hf => hc.frm (fun _ _ => rfl) hf (fun _ _ h => h)
  have HB := hid (fun w1 (hf : Frm No w w1) => bsk_any cs cv n w1 (hcf w1 hf) hs' (by omega))
  obtain ⟨cao, ccp, rfl⟩ := hc.shape
  simp only [place_fst, has_fst, he] at HB
  clear hr hs hs' hcf hc he
  generalize place Cls.name R.clss n = p at *
  generalize has Cls.name R.clss n = b at *
  generalize cs.length = ml at *
  generalize R.mems.length = ql at *
  clear hlen hl
  go_enter Tryz.func49, Tryz.ntmps49
  go_wp2_with (go_at_call 78; refine (HB.out _ ((Frm.refl No w).alloc _)).mono ?_; rintro e w1 ⟨rfl, hf1⟩)
  go_ret2
  exact ⟨rfl, ((Frm.refl No w).alloc _).thenNo hf1⟩
end Go.Proofs.YtofcmghhmklmiaaGreat
