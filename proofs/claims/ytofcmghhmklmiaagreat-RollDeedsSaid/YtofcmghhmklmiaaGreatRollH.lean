/- A list of students changes; Join. Printed by a program (rollh.py). -/
import Derived.Test.YtofcmghhmklmiaaGreatRollFG
namespace Go.Proofs.YtofcmghhmklmiaaGreat
open Go.RowKit
open Roll

theorem pairwise_set {α : Type} {r : α → α → Prop} (hsym : ∀ x y, r x y → r y x) {l : List α} (h : l.Pairwise r) (i : Nat) (y : α) (hy : ∀ (j : Nat) (hj : j < l.length), j ≠ i → r y l[j]) : (l.set i y).Pairwise r := by
  rw [List.pairwise_iff_getElem] at h ⊢
  intro a b ha hb hab
  simp only [List.length_set] at ha hb
  rw [List.getElem_set, List.getElem_set]
  by_cases h1 : i = a
  · subst h1
    rw [if_pos rfl, if_neg (by omega)]
    exact hy b hb (by omega)
  · rw [if_neg h1]
    by_cases h2 : i = b
    · subst h2
      rw [if_pos rfl]
      exact hsym _ _ (hy a ha (by omega))
    · rw [if_neg h2]
      exact h a b ha hb hab
/-- One class's list became another one, and was stored. -/
theorem RlO.setS {base : Nat} {w w' : World} {mv : Value} {g cap : Nat} {R : Rl} {cs : List CV} (h : RlO base w mv (.slice (some ⟨g, 0, none⟩) cs.length cap) R cs) {i : Nat} (hi : i < cs.length) (hf : Frm (Own (sv cs[i])) w w') (l : List B) (ao : Option Addr) (c : Nat)
    (ho : w'.ownsRow base 9 1 (.slice ao l.length c) l.length (rows strV l)) (hn : (Value.slice ao l.length c).ownBlock = (sv cs[i]).ownBlock ∨ ∃ k, (Value.slice ao l.length c).ownBlock = some k ∧ w.heap.size ≤ k) :
    RlO base (w'.setCell ⟨g, i * 3 + 2, none⟩ (.slice ao l.length c)) mv (.slice (some ⟨g, 0, none⟩) cs.length cap) ⟨R.mems, (cs.set i (⟨cs[i].1.name, cs[i].1.teacher, l⟩, (ao, c))).map (·.1)⟩ (cs.set i (⟨cs[i].1.name, cs[i].1.teacher, l⟩, (ao, c))) := by
  obtain ⟨l1, l2, l3⟩ := h.lt
  have hpi := List.getElem_mem hi
  have hsv : sv (⟨cs[i].1.name, cs[i].1.teacher, l⟩, (ao, c)) = .slice ao l.length c := rfl
  have key : ∀ v : Value, (∀ k, v.ownBlock = some k → k < w.heap.size) → Dj (sv cs[i]) v → Dj (.slice ao l.length c) v := fun v hv hd k hk e => by
    rcases hn with hn | ⟨k', hn, hk'⟩
    · exact hd k (hn ▸ hk) e
    · rw [hk] at hn
      cases hn
      have := hv k e
      omega
  have kcv := key _ (fun k hk => (l2 k hk).2) (h.dcs _ hpi).symm
  have hF : Frm (One g) w' (w'.setCell ⟨g, i * 3 + 2, none⟩ (.slice ao l.length c)) := setCell_own _
  have hset : ∀ p, p ∈ cs.set i (⟨cs[i].1.name, cs[i].1.teacher, l⟩, (ao, c)) → p = (⟨cs[i].1.name, cs[i].1.teacher, l⟩, (ao, c)) ∨ ∃ j, ∃ hj : j < cs.length, j ≠ i ∧ cs[j] = p := fun p hp => by
    obtain ⟨j, hj, rfl⟩ := List.getElem_of_mem hp
    simp only [List.length_set] at hj
    rw [List.getElem_set]
    by_cases e : i = j
    · rw [if_pos e]; exact .inl rfl
    · rw [if_neg e]; exact .inr ⟨j, hj, fun e' => e e'.symm, rfl⟩
  have hpw := List.pairwise_iff_getElem.1 h.dss
  have hdj : ∀ j (hj : j < cs.length), j ≠ i → Dj (sv cs[i]) (sv cs[j]) := fun j hj hne => by
    rcases Nat.lt_or_ge j i with h' | h'
    · exact (hpw j i hj hi h').symm
    · exact hpw i j hi hj (by omega)
  have hco := own_set clsS Tryz.prog (hf.row h.co (fun k hk e => h.dcs _ hpi k hk e)) (i := i) (j := 2) hi (by omega) (x := .slice ao l.length c) rfl (y := (⟨cs[i].1.name, cs[i].1.teacher, l⟩, (ao, c))) rfl
  refine ⟨rfl, ?_, by rw [List.length_set]; exact hco, fun p hp => ?_, h.dmc, fun p hp => ?_, fun p hp => ?_, ?_⟩
  · exact hF.row (hf.row h.mo (fun k hk e => h.dms _ hpi k hk e)) (fun k hk e => by have e : k = g := e; subst e; exact h.dmc k hk rfl)
  · rcases hset p hp with rfl | ⟨j, hj, hne, rfl⟩
    · exact hF.row ho (fun k hk e => by have e : k = g := e; subst e; exact kcv k hk rfl)
    · exact hF.row (hf.row (h.so _ (List.getElem_mem hj)) (fun k hk e => hdj j hj hne k e hk)) (fun k hk e => by have e : k = g := e; subst e; exact h.dcs _ (List.getElem_mem hj) k rfl hk)
  · rcases hset p hp with rfl | ⟨j, hj, hne, rfl⟩
    · exact (key mv (fun k hk => (l1 k hk).2) (h.dms _ hpi).symm).symm
    · exact h.dms _ (List.getElem_mem hj)
  · rcases hset p hp with rfl | ⟨j, hj, hne, rfl⟩
    · exact kcv.symm
    · exact h.dcs _ (List.getElem_mem hj)
  · refine pairwise_set (fun x y h => h.symm) h.dss i _ (fun j hj hne => ?_)
    exact key _ (fun k hk => (l3 _ (List.getElem_mem hj) k hk).2) (hdj j hj hne)
theorem set_fst {cs : List CV} {l : List Cls} (h : cs.map (·.1) = l) (i : Nat) (y : CV) : (cs.set i y).map (·.1) = l.set i y.1 := by rw [List.map_set, h]

set_option maxRecDepth 100000 in
set_option maxHeartbeats 4000000 in
theorem rjoin_any (R : Rl) (mv cv : Value) (c s : B) (w : World) (hr : RlR w mv cv R) (hI : Inv R) :
    Calls Tryz.prog 24 #[.agg #[mv, cv], .string ⟨c.toArray⟩, .string ⟨s.toArray⟩] w (DeedP w (join R c s)) := by
  have HK := hid (fun w1 (hf : Frm No w w1) => class_any R mv cv c w1 (hr.no hf) hI.cs (by have := hI.cl; omega))
  have HM := hid (fun w1 (hf : Frm No w w1) => rmember_any R mv cv s w1 (hr.no hf) hI.ms (by have := hI.ml; omega))
  have HC := hid (fun w1 (hf : Frm No w w1) => rclone_inv (hr.no hf) hI)
  have hml := hI.ml
  have hcl := hI.cl
  obtain ⟨mao, mcp, rfl⟩ := hr.mr.shape
  obtain ⟨cs, hfs, hc, hst⟩ := hr.cr
  have hcsl : cs.length = R.clss.length := by rw [← hfs]; simp
  have HST := hid (fun w1 (hf : Frm No w w1) p (hp : p ∈ cs) => (hst p hp).frm (fun _ _ => rfl) hf (fun _ _ h => h))
  have HCR := hid hc
  obtain ⟨cao, ccp, rfl⟩ := hc.shape
  have HFS := hid hfs
  have HCS := hid hcsl
  rw [hcsl] at HK HM HC ⊢
  obtain ⟨ml, hmle⟩ : ∃ ml, R.mems.length = ml := ⟨_, rfl⟩
  rw [hmle] at hml HK HM HC ⊢
  obtain ⟨cl, hcle⟩ : ∃ cl, R.clss.length = cl := ⟨_, rfl⟩
  rw [hcle] at hcl HK HM HC ⊢
  have HCLE := hid hcle
  have HMLE := hid hmle
  clear hr hc hfs hcle hmle hcsl hst
  by_cases h2 : has Cls.name R.clss c = false ∨ find Mem.name R.mems s = none
  · as_aux_lemma =>
    have he : join R c s = (Roll.nil, 10) := by
      unfold join
      rcases h2 with h2 | h2
      · rw [find_none.2 h2]
      · rw [h2]
        cases find Cls.name R.clss c <;> rfl
    rw [he]
    have hq : (has Cls.name R.clss c = false) ∨ (has Cls.name R.clss c = true ∧ (find Mem.name R.mems s).isSome = false) := by
      cases hh : has Cls.name R.clss c
      · exact .inl rfl
      · rcases h2 with h2 | h2
        · rw [hh] at h2; cases h2
        · exact .inr ⟨rfl, by rw [h2]; rfl⟩
    clear he HC hI HMLE HCLE HST HCR HFS HCS h2
    generalize place Cls.name R.clss c = p at *
    generalize has Cls.name R.clss c = q at *
    generalize (find Mem.name R.mems s).isSome = fs at *
    generalize (find Mem.name R.mems s).getD memZ = fm at *
    obtain ⟨nm, ro, qu⟩ := fm
    simp only [mag] at HM
    rcases hq with rfl | ⟨rfl, rfl⟩
    · as_aux_lemma =>
      go_enter Tryz.func24, Tryz.ntmps24
      go_upto_region 1 with fail
      have X0 := Box.new (Frm.refl No w) [.slice mao ml mcp, .slice cao cl ccp] 27
      have X1 := Box.new X0.frm [.slice none 0 0, .slice none 0 0] 27
      have Y0 := X0.no ((Frm.refl No _).alloc (.cells #[.slice none 0 0, .slice none 0 0] 27))
      simp only [World.size_alloc] at X1
      obtain ⟨W, hW⟩ : ∃ W, W = (w.alloc (.cells #[.slice mao ml mcp, .slice cao cl ccp] 27)).alloc (.cells #[.slice none 0 0, .slice none 0 0] 27) := ⟨_, rfl⟩
      rw [← hW] at X1 Y0 ⊢
      clear hW
      obtain ⟨b, hb⟩ : ∃ b, w.heap.size = b := ⟨_, rfl⟩
      rw [hb] at X1 Y0
      simp only [hb]
      have F1 := X1.frm
      have HX1 := hid X1
      have HY0 := hid Y0
      have cW := Y0.cell
      clear X0 X1 Y0
      go_wp2_with (first | (go_at_call 49; refine (HK.out _ F1).mono ?_; rintro e w1 ⟨rfl, hf1⟩; have BX := HX1.out.no hf1; have BY := HY0.out.no hf1; have cY := BY.cell) | (go_at_call 12; refine (HM.out _ BY.frm).mono ?_; rintro e w2 ⟨rfl, hf2⟩; have BX3 := (BX.no hf2).no ((Frm.refl No w2).alloc (.cells #[.string ⟨nm.toArray⟩, .int .i64 ro, .int .i64 qu] 45)); have BY3 := (BY.no hf2).no ((Frm.refl No w2).alloc (.cells #[.string ⟨nm.toArray⟩, .int .i64 ro, .int .i64 qu] 45)); have cX := BX3.cell; have fX := BX3.fr; have cZ := BY3.cell))
      have BX4 := (BX3.set 0 (by simp) (.slice none 0 0)).set 1 (by simp) (.slice none 0 0)
      have e0 := BX4.cell 0
      have e1 := BX4.cell 1
      simp only [List.set_cons_zero, List.set_cons_succ, List.getElem?_cons_zero, List.getElem?_cons_succ] at e0 e1
      refine bodyPost_ret (v := .tuple #[.agg #[.slice none 0 0, .slice none 0 0], .int .i64 10]) (by simp [results, Tryz.results24, go_sem, e0, e1]) rfl ⟨_, _, rfl, nil_rd _, BX4.frm⟩
    · as_aux_lemma =>
      go_enter Tryz.func24, Tryz.ntmps24
      go_upto_region 1 with fail
      have X0 := Box.new (Frm.refl No w) [.slice mao ml mcp, .slice cao cl ccp] 27
      have X1 := Box.new X0.frm [.slice none 0 0, .slice none 0 0] 27
      have Y0 := X0.no ((Frm.refl No _).alloc (.cells #[.slice none 0 0, .slice none 0 0] 27))
      simp only [World.size_alloc] at X1
      obtain ⟨W, hW⟩ : ∃ W, W = (w.alloc (.cells #[.slice mao ml mcp, .slice cao cl ccp] 27)).alloc (.cells #[.slice none 0 0, .slice none 0 0] 27) := ⟨_, rfl⟩
      rw [← hW] at X1 Y0 ⊢
      clear hW
      obtain ⟨b, hb⟩ : ∃ b, w.heap.size = b := ⟨_, rfl⟩
      rw [hb] at X1 Y0
      simp only [hb]
      have F1 := X1.frm
      have HX1 := hid X1
      have HY0 := hid Y0
      have cW := Y0.cell
      clear X0 X1 Y0
      go_wp2_with (first | (go_at_call 49; refine (HK.out _ F1).mono ?_; rintro e w1 ⟨rfl, hf1⟩; have BX := HX1.out.no hf1; have BY := HY0.out.no hf1; have cY := BY.cell) | (go_at_call 12; refine (HM.out _ BY.frm).mono ?_; rintro e w2 ⟨rfl, hf2⟩; have BX3 := (BX.no hf2).no ((Frm.refl No w2).alloc (.cells #[.string ⟨nm.toArray⟩, .int .i64 ro, .int .i64 qu] 45)); have BY3 := (BY.no hf2).no ((Frm.refl No w2).alloc (.cells #[.string ⟨nm.toArray⟩, .int .i64 ro, .int .i64 qu] 45)); have cX := BX3.cell; have fX := BX3.fr; have cZ := BY3.cell))
      have BX4 := (BX3.set 0 (by simp) (.slice none 0 0)).set 1 (by simp) (.slice none 0 0)
      have e0 := BX4.cell 0
      have e1 := BX4.cell 1
      simp only [List.set_cons_zero, List.set_cons_succ, List.getElem?_cons_zero, List.getElem?_cons_succ] at e0 e1
      refine bodyPost_ret (v := .tuple #[.agg #[.slice none 0 0, .slice none 0 0], .int .i64 10]) (by simp [results, Tryz.results24, go_sem, e0, e1]) rfl ⟨_, _, rfl, nil_rd _, BX4.frm⟩
  obtain ⟨h2a, h2b⟩ : has Cls.name R.clss c = true ∧ ∃ m, find Mem.name R.mems s = some m := by
    cases hh : has Cls.name R.clss c
    · exact absurd (.inl hh) h2
    · cases hf : find Mem.name R.mems s with
      | none => exact absurd (.inr hf) h2
      | some m => exact ⟨rfl, m, rfl⟩
  obtain ⟨fm, h3⟩ := h2b
  clear h2
  obtain ⟨hpl, hfx⟩ := find_at hI.cs h2a
  obtain ⟨hpl', hxn⟩ := (has_at hI.cs).1 h2a
  have hpc : place Cls.name R.clss c < cs.length := by rw [HCS.out]; exact hpl
  have hx1 : (cs[place Cls.name R.clss c]'hpc).1 = R.clss[place Cls.name R.clss c] := by
    have := HFS.out
    simp only [← this, List.getElem_map]
  simp only [h3, Option.isSome_some, Option.getD_some] at HM
  rw [h2a] at HK
  obtain ⟨p, hpe⟩ : ∃ p, place Cls.name R.clss c = p := ⟨_, rfl⟩
  simp only [hpe] at HK hpl hpl' hfx hpc hx1 hxn
  have HPE := hid hpe
  obtain ⟨b0, o0, rfl, hq0⟩ : ∃ b0 o0, cao = some ⟨b0, o0, none⟩ ∧ ∀ i (hi : i < cs.length) j, j < 3 → w.cell? ⟨b0, o0 + (i * 3 + j), none⟩ = (clsV cs[i])[j]? := by
    exact HCR.out.at_ (by omega)
  obtain ⟨⟨⟨xn, xt, xs⟩, so, sc⟩, hxe⟩ : ∃ x, cs[p] = x := ⟨_, rfl⟩
  have hq2 := hq0 p hpc 2 (by omega)
  rw [hxe] at hq2 hx1
  simp only [clsV, List.getElem?_cons_zero, List.getElem?_cons_succ] at hq2
  have hb0 : b0 < w.heap.size := World.block_lt_of_cell? w _ hq2
  have HQ2 := hid (fun w' (hf : Frm No w w') => (hf.cell (p := ⟨b0, o0 + (p * 3 + 2), none⟩) hb0 (fun h => h)).trans hq2)
  simp only [← Nat.add_assoc] at HQ2
  have hxm : R.clss[p] ∈ R.clss := List.getElem_mem _
  have hxsl := hI.students hxm
  have hxsr := (hI.cg _ hxm).2.2.1
  rw [← hx1] at hxsl hxsr hxn
  dsimp only at hxsl hxsr hxn
  have HBS := hid (fun w' (hf : Frm No w w') => bss_any xs (.slice so xs.length sc) s w' (by have := HST.out w' hf cs[p] (List.getElem_mem _); rw [hxe] at this; exact this) hxsr (by omega))
  have hpz : (p : Int) < (cl : Int) := by rw [← HCLE.out]; omega
  have HX1E := hid hx1
  have HFX := hid hfx
  have HXN := hid hxn
  have hpcl : p < cl := by omega
  have HPL := hid hpl
  clear hq0 hq2 HST HCR hxe hx1 hfx hxn hxm HFS HCS h2a hpc
  by_cases h4 : fm.role ≠ 1
  · as_aux_lemma =>
    have he : join R c s = (Roll.nil, 13) := by unfold join; rw [HFX.out, h3]; dsimp only; rw [if_pos h4]
    rw [he]
    clear he h3 HC hI HMLE HCLE HFX HX1E HXN HPE HBS HQ2 HPL
    obtain ⟨nm, ro, qu⟩ := fm
    simp only [mag] at HM
    have h4a : (ro == 1) = false := by simpa using h4
    have h4b : (ro != 1) = true := by simpa using h4
    clear h4
    go_enter Tryz.func24, Tryz.ntmps24
    go_upto_region 1 with fail
    have X0 := Box.new (Frm.refl No w) [.slice mao ml mcp, .slice (some ⟨b0, o0, none⟩) cl ccp] 27
    have X1 := Box.new X0.frm [.slice none 0 0, .slice none 0 0] 27
    have Y0 := X0.no ((Frm.refl No _).alloc (.cells #[.slice none 0 0, .slice none 0 0] 27))
    simp only [World.size_alloc] at X1
    obtain ⟨W, hW⟩ : ∃ W, W = (w.alloc (.cells #[.slice mao ml mcp, .slice (some ⟨b0, o0, none⟩) cl ccp] 27)).alloc (.cells #[.slice none 0 0, .slice none 0 0] 27) := ⟨_, rfl⟩
    rw [← hW] at X1 Y0 ⊢
    clear hW
    obtain ⟨b, hb⟩ : ∃ b, w.heap.size = b := ⟨_, rfl⟩
    rw [hb] at X1 Y0
    simp only [hb]
    have F1 := X1.frm
    have HX1 := hid X1
    have HY0 := hid Y0
    have cW := Y0.cell
    clear X0 X1 Y0
    go_wp2_with (first | (go_at_call 49; refine (HK.out _ F1).mono ?_; rintro e w1 ⟨rfl, hf1⟩; have BX := HX1.out.no hf1; have BY := HY0.out.no hf1; have cY := BY.cell) | (go_at_call 12; refine (HM.out _ BY.frm).mono ?_; rintro e w2 ⟨rfl, hf2⟩; have BX3 := (BX.no hf2).no ((Frm.refl No w2).alloc (.cells #[.string ⟨nm.toArray⟩, .int .i64 ro, .int .i64 qu] 45)); have BY3 := (BY.no hf2).no ((Frm.refl No w2).alloc (.cells #[.string ⟨nm.toArray⟩, .int .i64 ro, .int .i64 qu] 45)); have cX := BX3.cell; have fX := BX3.fr; have cZ := BY3.cell))
    have BX4 := (BX3.set 0 (by simp) (.slice none 0 0)).set 1 (by simp) (.slice none 0 0)
    have e0 := BX4.cell 0
    have e1 := BX4.cell 1
    simp only [List.set_cons_zero, List.set_cons_succ, List.getElem?_cons_zero, List.getElem?_cons_succ] at e0 e1
    refine bodyPost_ret (v := .tuple #[.agg #[.slice none 0 0, .slice none 0 0], .int .i64 13]) (by simp [results, Tryz.results24, go_sem, e0, e1]) rfl ⟨_, _, rfl, nil_rd _, BX4.frm⟩
  by_cases h5 : has id xs s = true
  · as_aux_lemma =>
    have he : join R c s = (Roll.nil, 9) := by unfold join; rw [HFX.out, h3]; dsimp only; rw [if_neg h4, ← HX1E.out]; dsimp only; rw [if_pos h5]
    rw [he]
    rw [h5] at HBS
    clear he h3 h5 HC hI HMLE HCLE HFX HX1E HXN HPE HPL
    obtain ⟨nm, ro, qu⟩ := fm
    simp only [mag] at HM
    obtain rfl : ro = 1 := by simpa using h4
    clear h4
    generalize place id xs s = k at *
    generalize xs.length = xl at *
    go_enter Tryz.func24, Tryz.ntmps24
    go_upto_region 1 with fail
    have X0 := Box.new (Frm.refl No w) [.slice mao ml mcp, .slice (some ⟨b0, o0, none⟩) cl ccp] 27
    have X1 := Box.new X0.frm [.slice none 0 0, .slice none 0 0] 27
    have Y0 := X0.no ((Frm.refl No _).alloc (.cells #[.slice none 0 0, .slice none 0 0] 27))
    simp only [World.size_alloc] at X1
    obtain ⟨W, hW⟩ : ∃ W, W = (w.alloc (.cells #[.slice mao ml mcp, .slice (some ⟨b0, o0, none⟩) cl ccp] 27)).alloc (.cells #[.slice none 0 0, .slice none 0 0] 27) := ⟨_, rfl⟩
    rw [← hW] at X1 Y0 ⊢
    clear hW
    obtain ⟨b, hb⟩ : ∃ b, w.heap.size = b := ⟨_, rfl⟩
    rw [hb] at X1 Y0
    simp only [hb]
    have F1 := X1.frm
    have HX1 := hid X1
    have HY0 := hid Y0
    have cW := Y0.cell
    clear X0 X1 Y0
    go_wp2_with (first | (go_at_call 49; refine (HK.out _ F1).mono ?_; rintro e w1 ⟨rfl, hf1⟩; have BX := HX1.out.no hf1; have BY := HY0.out.no hf1; have cY := BY.cell) | (go_at_call 12; refine (HM.out _ BY.frm).mono ?_; rintro e w2 ⟨rfl, hf2⟩; have BX3 := (BX.no hf2).no ((Frm.refl No w2).alloc (.cells #[.string ⟨nm.toArray⟩, .int .i64 1, .int .i64 qu] 45)); have BY3 := (BY.no hf2).no ((Frm.refl No w2).alloc (.cells #[.string ⟨nm.toArray⟩, .int .i64 1, .int .i64 qu] 45)); have cX := BX3.cell; have fX := BX3.fr; have cZ := BY3.cell; have q2 := HQ2.out _ BY3.frm; have HBS2 := hid (HBS.out _ BY3.frm)) | (go_at_call 63; refine HBS2.out.mono ?_; rintro e w3 ⟨rfl, rfl⟩))
    have BX4 := (BX3.set 0 (by simp) (.slice none 0 0)).set 1 (by simp) (.slice none 0 0)
    have e0 := BX4.cell 0
    have e1 := BX4.cell 1
    simp only [List.set_cons_zero, List.set_cons_succ, List.getElem?_cons_zero, List.getElem?_cons_succ] at e0 e1
    refine bodyPost_ret (v := .tuple #[.agg #[.slice none 0 0, .slice none 0 0], .int .i64 9]) (by simp [results, Tryz.results24, go_sem, e0, e1]) rfl ⟨_, _, rfl, nil_rd _, BX4.frm⟩
  as_aux_lemma =>
  have he : join R c s = (⟨R.mems, R.clss.set p ⟨xn, xt, ins id xs s s⟩⟩, 0) := by
    unfold join
    rw [HFX.out, h3]
    dsimp only
    rw [if_neg h4, ← HX1E.out]
    dsimp only
    rw [if_neg h5]
    have := set_at (n := c) hI.cs (fun y => ⟨y.name, y.teacher, ins id y.students s s⟩) (by rw [HPE.out]; exact HPL.out) (by simp only [HPE.out]; rw [← HX1E.out]; exact HXN.out)
    simp only [HPE.out] at this
    rw [← this, ← HX1E.out]
  rw [he]
  rw [Bool.not_eq_true] at h5
  rw [h5] at HBS
  have hklt := @place_le _ id xs s
  have HINS : Hid (ins id xs s s = xs.take (place id xs s) ++ s :: xs.drop (place id xs s) ∧ (ins id xs s s).length = xs.length + 1) := hid ⟨rfl, ins_length _⟩
  have HIM := hid (fun (base : Nat) (v : Value) (vb : Nat) (w1 : World) (hrow : w1.ownsRow base 9 1 v xs.length (rows strV xs)) hbw hvb hne => insert_str base v xs (place id xs s) s vb w1 hrow hbw hklt (by omega) hvb hne)
  have HI := hid hI
  clear he h3 h5 hI HFX HXN
  obtain ⟨k, hke⟩ : ∃ k, place id xs s = k := ⟨_, rfl⟩
  simp only [hke] at HIM HBS hklt HINS
  clear hke
  obtain ⟨nm, ro, qu⟩ := fm
  simp only [mag] at HM
  obtain rfl : ro = 1 := by simpa using h4
  clear h4
  go_enter Tryz.func24, Tryz.ntmps24
  go_upto_region 1 with fail
  have X0 := Box.new (Frm.refl No w) [.slice mao ml mcp, .slice (some ⟨b0, o0, none⟩) cl ccp] 27
  have X1 := Box.new X0.frm [.slice none 0 0, .slice none 0 0] 27
  have Y0 := X0.no ((Frm.refl No _).alloc (.cells #[.slice none 0 0, .slice none 0 0] 27))
  simp only [World.size_alloc] at X1
  obtain ⟨W, hW⟩ : ∃ W, W = (w.alloc (.cells #[.slice mao ml mcp, .slice (some ⟨b0, o0, none⟩) cl ccp] 27)).alloc (.cells #[.slice none 0 0, .slice none 0 0] 27) := ⟨_, rfl⟩
  rw [← hW] at X1 Y0 ⊢
  clear hW
  obtain ⟨b, hb⟩ : ∃ b, w.heap.size = b := ⟨_, rfl⟩
  rw [hb] at X1 Y0
  simp only [hb]
  have F1 := X1.frm
  have HX1 := hid X1
  have HY0 := hid Y0
  have cW := Y0.cell
  clear X0 X1 Y0
  go_upto_region 11 with (first | (go_at_call 49; refine (HK.out _ F1).mono ?_; rintro e w1 ⟨rfl, hf1⟩; have BX := HX1.out.no hf1; have BY := HY0.out.no hf1; have cY := BY.cell) | (go_at_call 12; refine (HM.out _ BY.frm).mono ?_; rintro e w2 ⟨rfl, hf2⟩; have BX3 := (BX.no hf2).no ((Frm.refl No w2).alloc (.cells #[.string ⟨nm.toArray⟩, .int .i64 1, .int .i64 qu] 45)); have BY3 := (BY.no hf2).no ((Frm.refl No w2).alloc (.cells #[.string ⟨nm.toArray⟩, .int .i64 1, .int .i64 qu] 45)); have cX := BX3.cell; have fX := BX3.fr; have cZ := BY3.cell; have q2 := HQ2.out _ BY3.frm; have HBS2 := hid (HBS.out _ BY3.frm)) | (go_at_call 63; refine HBS2.out.mono ?_; rintro e w3 ⟨rfl, rfl⟩) | (go_at_call 55; refine (HC.out _ BY3.frm).mono ?_; rintro e w4 ⟨mv2, cv2, cs2, rfl, hO, hf4⟩; obtain ⟨mao2, mcp2, rfl⟩ := ownsRow_shape hO.mo; obtain ⟨cao2, ccp2, rfl⟩ := ownsRow_shape hO.co))
  have hmle := HMLE.out
  rw [hmle]
  have hc2 : cs2.length = cl := by have := congrArg List.length hO.fst; simp only [List.length_map] at this; rw [this]; exact HCLE.out
  rw [hc2]
  have BX2 := BX3.no hf4
  have X14 := Box.new BX2.frm [.slice mao2 ml mcp2, .slice cao2 cl ccp2] 27
  have BX5 := BX2.no ((Frm.refl No w4).alloc (.cells #[.slice mao2 ml mcp2, .slice cao2 cl ccp2] 27))
  have hOa := hO.no ((Frm.refl No w4).alloc (.cells #[.slice mao2 ml mcp2, .slice cao2 cl ccp2] 27))
  have hlt := hO.lt
  rw [hmle] at hOa hlt
  obtain ⟨WA, hWA⟩ : ∃ WA, WA = w4.alloc (.cells #[.slice mao2 ml mcp2, .slice cao2 cl ccp2] 27) := ⟨_, rfl⟩
  have hsA : WA.heap.size = w4.heap.size + 1 := by rw [hWA]; simp
  rw [← hWA, hc2] at hOa
  rw [← hWA] at X14 BX5 ⊢
  clear hWA
  obtain ⟨C, hC⟩ : ∃ C, w4.heap.size = C := ⟨_, rfl⟩
  rw [hC] at X14 hsA hlt
  simp only [hC]
  obtain ⟨w2s, hw2s⟩ : ∃ w2s, (w2.alloc (.cells #[.string ⟨nm.toArray⟩, .int .i64 1, .int .i64 qu] 45)).heap.size = w2s := ⟨_, rfl⟩
  have h12 : w2s ≤ C := by rw [← hC, ← hw2s]; exact hf4.size
  have hbB : b + 1 < w2s := by rw [← hw2s]; exact BX3.lC
  have hww : w.heap.size ≤ w2s := by rw [← hw2s]; exact BX3.frm.size
  rw [hw2s] at hOa hlt
  have hp2 : p < cs2.length := by rw [hc2]; exact hpcl
  have hx2 : (cs2[p]'hp2).1 = ⟨xn, xt, xs⟩ := by
    have := hOa.fst
    rw [HX1E.out]
    simp only [← this, List.getElem_map]
  have hco2 := hOa.co
  rw [hc2] at hco2
  obtain ⟨g, cap, hv2, hbg, hgl, hnc, hgc, hgf⟩ := own_at clsS (by rw [hc2]; exact hco2) hp2
  rw [hc2] at hv2 hnc
  simp only [Value.slice.injEq, true_and] at hv2
  obtain ⟨rfl, rfl⟩ := hv2
  have q2a := hgc 2 (by omega)
  have hso := hOa.so _ (List.getElem_mem hp2)
  have HSET := hid (fun (w' : World) (hf : Frm (Own (sv (cs2[p]'hp2))) WA w') (l : List B) (ao : Option Addr) (cc : Nat) ho hn => RlO.setS (by rw [hc2]; exact hOa) hp2 hf l ao cc ho hn)
  have hdc := hOa.dcs _ (List.getElem_mem hp2)
  have hdlt := hlt.2.2 _ (List.getElem_mem hp2)
  have HF2 := hid (fun y => set_fst hOa.fst p y)
  obtain ⟨y, hy⟩ : ∃ y, cs2[p]'hp2 = y := ⟨_, rfl⟩
  simp only [hy] at hx2 q2a hso HSET hdc hdlt
  obtain ⟨⟨yn, yt, ys⟩, yo, yc⟩ := y
  obtain ⟨rfl, rfl, rfl⟩ : yn = xn ∧ yt = xt ∧ ys = xs := by simpa using hx2
  simp only [clsV, List.getElem?_cons_zero, List.getElem?_cons_succ, sv] at q2a hso hdlt hdc
  have hsve : sv ((⟨yn, yt, ys⟩, (yo, yc)) : CV) = .slice yo ys.length yc := rfl
  have c14 := X14.cell 1
  simp only [List.getElem?_cons_zero, List.getElem?_cons_succ] at c14
  have hCl := X14.lC
  have hCn : ¬ Own (.slice yo ys.length yc) C := fun e => by have := (hdlt C e).2; omega
  have hgn : ¬ Own (.slice yo ys.length yc) g := fun e => hdc g rfl e
  have SK : Hid (∀ w', Frm (Own (.slice yo ys.length yc)) WA w' → w'.cell? ⟨C, 1, none⟩ = some (.slice (some ⟨g, 0, none⟩) cl ccp2) ∧ w'.cell? ⟨g, p * 3 + 2, none⟩ = some (.slice yo ys.length yc)) := hid fun w' hf => ⟨(hf.cell (p := ⟨C, 1, none⟩) hCl hCn).trans c14, (hf.cell (p := ⟨g, p * 3 + 2, none⟩) hgl hgn).trans q2a⟩
  have HGF := hid (fun w' (hf : Frm (Own (.slice yo ys.length yc)) WA w') => (hf.frozen (p := ⟨g, p * 3 + 2, none⟩) hgl hgn).trans (hgf _))
  have hV : ∀ T, (WA.drew.alloc (.cells #[.string ⟨s.toArray⟩] T)).heap[WA.heap.size]? = some (.cells (strV s).toArray T (0, 0)) := fun T => heap_alloc_new _ _
  have HI2 := hid (fun (WB : World) (hWB : WB.heap = (WA.drew.alloc (.cells #[.string ⟨s.toArray⟩] 9)).heap) => HIM.out w2s (.slice yo ys.length yc) WA.heap.size WB (by
      have := (hso.drew).alloc (.cells #[.string ⟨s.toArray⟩] 9)
      exact ⟨this.1, by rw [hWB]; exact this.2⟩) (by rw [hWB]; have := hsA; simp; omega) (by rw [hWB]; exact hV _) (fun k hk => by have := (hdlt k hk).2; omega))
  have HSA := hid hsA
  have HDLT := hid hdlt
  have HLT := hid hlt
  have HB5 := hid BX5
  have HX14 := hid X14
  have HC2 := hid hc2
  have HOA := hid hOa
  clear hO hlt X14 BX5 BX3 BX2 BX cX fX BY BY3 cY cZ cW HC HM HK HX1 HY0 hmle hOa hsA hdlt hV HIM hso hgf hgc hco2 c14 q2a hy hx2 HBS HBS2 HQ2 q2 hc2
  refine wp_region_late (fun w' => w'.cell? ⟨C, 1, none⟩ = some (.slice (some ⟨g, 0, none⟩) cl ccp2) ∧ w'.cell? ⟨g, p * 3 + 2, none⟩ = some (.slice yo ys.length yc)) [15] (by kernel_rfl) (SK.out _ (Frm.refl _ _).drew) (fun hHeld => ?_)
  refine wpLate_take0 (i := 0) (oi := _) (v := _) rfl (by kernel_rfl) (by kernel_rfl) (by kernel_rfl) (by kernel_rfl) (fun _ _ _ h => h) (Or.inl ⟨by rfl, by intro w _; go_simp; all_goals with_reducible rfl⟩) (fun _ => by assumption) ?_
  (try simp only [Act.put, List.getElem_toArray, List.getElem_cons_zero, List.setIfInBounds_toArray, List.set_cons_zero, List.set_cons_succ])
  refine wpLate_take [13, 14, 15] (i := 1) (oi := _) (v := _) rfl (by kernel_rfl) (by kernel_rfl) (by kernel_rfl) (by kernel_rfl) (by kernel_rfl) (fun _ _ _ h => h) (Or.inl ⟨by rfl, by intro w hSw; (try dsimp only at hSw); go_simp; all_goals with_reducible rfl⟩) (by assumption) ?_
  (try simp only [Act.put, List.getElem_toArray, List.getElem_cons_succ, List.getElem_cons_zero, List.setIfInBounds_toArray, List.set_cons_zero, List.set_cons_succ])
  refine wpLate_take0 (i := 2) (oi := _) (v := _) rfl (by kernel_rfl) (by kernel_rfl) (by kernel_rfl) (by kernel_rfl) (fun _ _ _ h => h) (Or.inl ⟨by rfl, by intro w _; go_simp; all_goals with_reducible rfl⟩) (fun _ => by assumption) ?_
  (try simp only [Act.put, List.getElem_toArray, List.getElem_cons_succ, List.getElem_cons_zero, List.setIfInBounds_toArray, List.set_cons_zero, List.set_cons_succ])
  refine wpLate_take0 (i := 3) (oi := _) (v := _) rfl (by kernel_rfl) (by kernel_rfl) (by kernel_rfl) (by kernel_rfl) (fun _ _ _ h => h) (Or.inl ⟨by rfl, by intro w _; go_simp; all_goals with_reducible rfl⟩) (fun _ => by assumption) ?_
  (try simp only [Act.put, List.getElem_toArray, List.getElem_cons_succ, List.getElem_cons_zero, List.setIfInBounds_toArray, List.set_cons_zero, List.set_cons_succ])
  refine wpLate_take [6, 7, 8, 12, 15] (i := 4) (oi := _) (v := _) rfl (by kernel_rfl) (by kernel_rfl) (by kernel_rfl) (by kernel_rfl) (by kernel_rfl) (fun _ _ _ h => h) (Or.inl ⟨by rfl, by intro w hSw; (try dsimp only at hSw); go_simp; all_goals with_reducible rfl⟩) (by assumption) ?_
  (try simp only [Act.put, List.getElem_toArray, List.getElem_cons_succ, List.getElem_cons_zero, List.setIfInBounds_toArray, List.set_cons_zero, List.set_cons_succ])
  refine wpLate_take0 (i := 5) (oi := _) (v := _) rfl (by kernel_rfl) (by kernel_rfl) (by kernel_rfl) (by kernel_rfl) (fun _ _ _ h => h) (Or.inl ⟨by rfl, by intro w _; go_simp; all_goals with_reducible rfl⟩) (fun _ => by assumption) ?_
  (try simp only [Act.put, List.getElem_toArray, List.getElem_cons_succ, List.getElem_cons_zero, List.setIfInBounds_toArray, List.set_cons_zero, List.set_cons_succ])
  refine wpLate_take0 (i := 6) (oi := _) (v := _) rfl (by kernel_rfl) (by kernel_rfl) (by kernel_rfl) (by kernel_rfl) (fun _ _ _ h => h) (Or.inl ⟨by rfl, by intro w _; go_simp; all_goals with_reducible rfl⟩) (fun _ => by assumption) ?_
  (try simp only [Act.put, List.getElem_toArray, List.getElem_cons_succ, List.getElem_cons_zero, List.setIfInBounds_toArray, List.set_cons_zero, List.set_cons_succ])
  refine wpLate_take0 (i := 7) (oi := _) (v := _) rfl (by kernel_rfl) (by kernel_rfl) (by kernel_rfl) (by kernel_rfl) (fun _ _ _ h => h) (Or.inl ⟨by rfl, by intro w _; go_simp; all_goals with_reducible rfl⟩) (fun _ => by assumption) ?_
  (try simp only [Act.put, List.getElem_toArray, List.getElem_cons_succ, List.getElem_cons_zero, List.setIfInBounds_toArray, List.set_cons_zero, List.set_cons_succ])
  refine wpLate_take [12, 15] (i := 8) (oi := _) (v := _) rfl (by kernel_rfl) (by kernel_rfl) (by kernel_rfl) (by kernel_rfl) (by kernel_rfl) (fun _ _ _ h => h) (Or.inl ⟨by rfl, by intro w hSw; (try dsimp only at hSw); go_simp; all_goals with_reducible rfl⟩) (by assumption) ?_
  (try simp only [Act.put, List.getElem_toArray, List.getElem_cons_succ, List.getElem_cons_zero, List.setIfInBounds_toArray, List.set_cons_zero, List.set_cons_succ])
  refine wpLate_take0 (i := 9) (oi := _) (v := _) rfl (by kernel_rfl) (by kernel_rfl) (by kernel_rfl) (by kernel_rfl) (fun _ _ _ h => h) (Or.inl ⟨by rfl, by intro w _; go_simp; all_goals with_reducible rfl⟩) (fun _ => by assumption) ?_
  (try simp only [Act.put, List.getElem_toArray, List.getElem_cons_succ, List.getElem_cons_zero, List.setIfInBounds_toArray, List.set_cons_zero, List.set_cons_succ])
  refine wpLate_take0 (i := 10) (oi := _) (v := _) rfl (by kernel_rfl) (by kernel_rfl) (by kernel_rfl) (by kernel_rfl) (fun _ _ _ h => h) (Or.inl ⟨by rfl, by intro w _; go_simp; all_goals with_reducible rfl⟩) (fun _ => by assumption) ?_
  (try simp only [Act.put, List.getElem_toArray, List.getElem_cons_succ, List.getElem_cons_zero, List.setIfInBounds_toArray, List.set_cons_zero, List.set_cons_succ])
  refine wpLate_ready (rs := [11]) (by kernel_rfl) (by simp) ?_
  refine (AllReadyL.cons (i := 11) rfl (fun K hK => ?_) AllReadyL.nil)
  simp only [List.getElem_toArray, List.getElem_cons_succ, List.getElem_cons_zero]
  go_simp
  refine hK.out _ _ (SK.out _ ((Frm.refl _ WA).drew.alloc _)) (fun hHeld => ?_)
  clear hK K
  (try simp only [Act.put, List.getElem_toArray, List.getElem_cons_succ, List.getElem_cons_zero, List.setIfInBounds_toArray, List.set_cons_zero, List.set_cons_succ])
  refine wpLate_ready (rs := [12]) (by kernel_rfl) (by simp) ?_
  refine (AllReadyL.cons (i := 12) rfl (fun K hK => ?_) AllReadyL.nil)
  simp only [List.getElem_toArray, List.getElem_cons_succ, List.getElem_cons_zero]
  go_simp
  refine (HI2.out _ rfl).mono ?_; rintro e w5 ⟨v3, rfl, hrow3, hown3, hf5⟩; obtain ⟨ao3, cp3, rfl⟩ := ownsRow_shape hrow3
  have hfA : Frm (Own (.slice yo ys.length yc)) WA w5 := ((Frm.refl _ WA).drew.alloc (.cells #[.string ⟨s.toArray⟩] 9)).then_ hf5
  refine hK.out _ _ (SK.out _ hfA) (fun hHeld => ?_)
  clear hK K
  (try simp only [Act.put, List.getElem_toArray, List.getElem_cons_succ, List.getElem_cons_zero, List.setIfInBounds_toArray, List.set_cons_zero, List.set_cons_succ])
  have kS := (SK.out _ hfA).2
  have kF := HGF.out _ hfA
  refine wpLate_take0 (i := 13) (oi := _) (v := _) rfl (by kernel_rfl) (by kernel_rfl) (by kernel_rfl) (by kernel_rfl) (fun _ _ _ h => h) (Or.inl ⟨by rfl, by intro w _; go_simp; all_goals with_reducible rfl⟩) (fun _ => by assumption) ?_
  (try simp only [Act.put, List.getElem_toArray, List.getElem_cons_succ, List.getElem_cons_zero, List.setIfInBounds_toArray, List.set_cons_zero, List.set_cons_succ])
  refine wpLate_take0 (i := 14) (oi := _) (v := _) rfl (by kernel_rfl) (by kernel_rfl) (by kernel_rfl) (by kernel_rfl) (fun _ _ _ h => h) (Or.inl ⟨by rfl, by intro w _; go_simp; all_goals with_reducible rfl⟩) (fun _ => by assumption) ?_
  (try simp only [Act.put, List.getElem_toArray, List.getElem_cons_succ, List.getElem_cons_zero, List.setIfInBounds_toArray, List.set_cons_zero, List.set_cons_succ])
  refine wpLate_ready (rs := [15]) (by kernel_rfl) (by simp) ?_
  refine (AllReadyL.late (i := 15) rfl (by kernel_rfl) (fun K hK => ?_) AllReadyL.nil)
  simp only [List.getElem_toArray, List.getElem_cons_succ, List.getElem_cons_zero]
  go_simp
  refine hK.out _ _ ?_
  clear hK K
  (try simp only [Act.put, List.getElem_toArray, List.getElem_cons_succ, List.getElem_cons_zero, List.setIfInBounds_toArray, List.set_cons_zero, List.set_cons_succ])
  refine wpLate_done (by kernel_rfl) ?_ _
  have hz := HSET.out w5 hfA (ins id ys s s) ao3 cp3 (by rw [HINS.out.2, HINS.out.1]; exact hrow3) (by rw [HINS.out.2]; exact hown3.imp id (fun ⟨k', h, hk'⟩ => ⟨k', h, by have := hk'; simp at this; omega⟩))
  rw [HF2.out, HC2.out, HINS.out.2] at hz
  have B14 := HX14.out.other hfA hCn (fun k' hk' => by have := (HDLT.out k' hk').1; omega)
  have B6 := HB5.out.other hfA (fun e => by have := (HDLT.out _ e).1; omega) (fun k' hk' => by have := (HDLT.out k' hk').1; omega)
  have hgC : C ≠ g := fun e => by have := (HLT.out.2.1 g rfl).2; omega
  have hgb : w2s ≤ g := (HLT.out.2.1 g rfl).1
  have B14s := B14.setOther (D := g) (by omega) hgC (p * 3 + 2) (.slice ao3 (ys.length + 1) cp3)
  have B6s := B6.setOther (D := g) (by omega) (by omega) (p * 3 + 2) (.slice ao3 (ys.length + 1) cp3)
  clear kS kF hHeld
  generalize w5.setCell ⟨g, p * 3 + 2, none⟩ (.slice ao3 (ys.length + 1) cp3) = w6 at *
  have k14s := B14s.cell
  have k6 := B6s.cell
  have g6 := B6s.fr
  have HZ := hid hz
  clear hz SK HGF HI2 hrow3 hf5 HSET
  go_wp2_with fail
  have B6t := (B6s.set 0 (by simp) (.slice mao2 ml mcp2)).set 1 (by simp) (.slice (some ⟨g, 0, none⟩) cl ccp2)
  have hFt : Frm (One (b + 1)) w6 ((w6.setCell ⟨b + 1, 0, none⟩ (.slice mao2 ml mcp2)).setCell ⟨b + 1, 1, none⟩ (.slice (some ⟨g, 0, none⟩) cl ccp2)) := (setCell_own _).then_ (setCell_own _)
  have e0 := B6t.cell 0
  have e1 := B6t.cell 1
  simp only [List.set_cons_zero, List.set_cons_succ, List.getElem?_cons_zero, List.getElem?_cons_succ] at e0 e1
  generalize (w6.setCell ⟨b + 1, 0, none⟩ (.slice mao2 ml mcp2)).setCell ⟨b + 1, 1, none⟩ (.slice (some ⟨g, 0, none⟩) cl ccp2) = w7 at *
  obtain ⟨l1, l2, l3⟩ := HZ.out.lt
  have hO5 := HZ.out.frm hFt (fun k' hk e => by have e : k' = b + 1 := e; have := (l1 k' hk).1; omega) (fun k' hk e => by have e : k' = b + 1 := e; have := (l2 k' hk).1; omega) (fun q hq k' hk e => by have e : k' = b + 1 := e; have := (l3 q hq k' hk).1; omega)
  refine bodyPost_ret (v := .tuple #[.agg #[.slice mao2 ml mcp2, .slice (some ⟨g, 0, none⟩) cl ccp2], .int .i64 0]) (by simp [results, Tryz.results24, go_sem, e0, e1]) rfl ⟨_, _, rfl, hO5.rd, B6t.frm⟩
end Go.Proofs.YtofcmghhmklmiaaGreat
