/- The reference's Find. -/
import Derived.Test.YtofcmghhmklmiaaGreatRollV
namespace Go.Proofs.YtofcmghhmklmiaaGreat
open Go.RowKit
open Roll
theorem find_first {l : List Mem} {n : B} {k : Nat} (hk : k < l.length) (h : has Mem.name (l.take k) n = false) (he : l[k].name = n) : find Mem.name l n = some l[k] := by
  unfold find
  have h2 : l.take k ++ l[k] :: l.drop (k + 1) = l := by rw [← List.drop_eq_getElem_cons hk, List.take_append_drop]
  have h3 : (l.take k).find? (fun x => decide (x.name = n)) = none := find_none.2 h
  have h4 : l.find? (fun x => decide (x.name = n)) = (l.take k ++ l[k] :: l.drop (k + 1)).find? (fun x => decide (x.name = n)) := congrArg _ h2.symm
  rw [h4, List.find?_append, h3, Option.none_or, List.find?_cons_of_pos (by simpa using he)]
theorem has_snoc {l : List Mem} {n : B} {k : Nat} (hk : k < l.length) (h : has Mem.name (l.take k) n = false) (he : ¬ l[k].name = n) : has Mem.name (l.take (k + 1)) n = false := by
  rw [List.take_succ_eq_append_getElem hk]
  simp only [has, List.any_append, List.any_cons, List.any_nil, Bool.or_false]
  simp only [has] at h
  rw [h]
  simpa using he
set_option maxRecDepth 100000 in
set_option maxHeartbeats 4000000 in
theorem rfind_any (R : Rl) (mv cv : Value) (n : B) (w : World) (hr : RlR w mv cv R) (hl : R.mems.length ≤ 1000000) :
    Calls Tryz.prog 13 #[.agg #[mv, cv], .string ⟨n.toArray⟩] w (MemP (find Mem.name R.mems n) w) := by
  have HMR := hid hr.mr
  obtain ⟨mao, mcp, rfl⟩ := hr.mr.shape
  obtain ⟨cs, -, hc, -⟩ := hr.cr
  obtain ⟨cao, ccp, rfl⟩ := hc.shape
  obtain ⟨ml, hml⟩ : ∃ ml, R.mems.length = ml := ⟨_, rfl⟩
  have HML := hid hml
  rw [hml] at hl ⊢
  generalize cs.length = cl at *
  clear hr hc hml
  go_enter Tryz.func13, Tryz.ntmps13
  go_upto_region 1 with fail
  have X0 := Box.new (Frm.refl No w) [.slice mao ml mcp, .slice cao cl ccp] 31
  have X1 := Box.new X0.frm [.string ⟨#[]⟩, .int .i64 0, .int .i64 0] 48
  have Y0 := X0.no ((Frm.refl No _).alloc (.cells #[.string ⟨#[]⟩, .int .i64 0, .int .i64 0] 48))
  simp only [World.size_alloc] at X1
  obtain ⟨W, hW⟩ : ∃ W, W = (w.alloc (.cells #[.slice mao ml mcp, .slice cao cl ccp] 31)).alloc (.cells #[.string ⟨#[]⟩, .int .i64 0, .int .i64 0] 48) := ⟨_, rfl⟩
  rw [← hW] at X1 Y0 ⊢
  clear hW
  obtain ⟨b, hb⟩ : ∃ b, w.heap.size = b := ⟨_, rfl⟩
  rw [hb] at X1 Y0
  simp only [hb]
  have HX1 := hid X1
  have HY0 := hid Y0
  clear X0 X1 Y0
  go_wp2_with fail
  go_loopw [6] (fun iv wr => ∃ k : Nat, k ≤ ml ∧ iv = .int .i64 (k : Int) ∧ has Mem.name (R.mems.take k) n = false ∧ Frm No W wr)
    (fun iv _ => ml - (intOf iv).toNat)
  case atStart => exact ⟨0, by omega, rfl, rfl, Frm.refl _ _⟩
  case round =>
    obtain ⟨k, hk, rfl, hh, hf⟩ := hrel
    have hX1 := HX1.out.no hf
    have hY0 := HY0.out.no hf
    have c0 := hY0.cell 0
    simp only [List.getElem?_cons_zero] at c0
    have c1 := hX1.cell
    have f1 := hX1.fr
    have HX3 := hid hX1
    have HF := hid hf
    clear hX1 hY0 hf HX1 HY0
    by_cases hkl : k < ml
    · have hkz : (k : Int) < (ml : Int) := by omega
      have hk2 : k < R.mems.length := by rw [HML.out]; exact hkl
      have hmr : RdL w (.slice mao R.mems.length mcp) 3 memV R.mems := HMR.out
      obtain ⟨g, o, rfl, hcc⟩ := hmr.at_ (by omega)
      have hbg : ∀ j, j < 3 → g < w.heap.size := fun j hj => World.block_lt_of_cell? (u := .string ⟨R.mems[k].name.toArray⟩) w ⟨g, o + (k * 3 + 0), none⟩ (hcc k hk2 0 (by omega))
      have q0 := (HX3.out.frm.cell (p := ⟨g, o + (k * 3 + 0), none⟩) (hbg 0 (by omega)) (fun h => h)).trans (hcc k hk2 0 (by omega))
      have q1 := (HX3.out.frm.cell (p := ⟨g, o + (k * 3 + 1), none⟩) (hbg 0 (by omega)) (fun h => h)).trans (hcc k hk2 1 (by omega))
      have q2 := (HX3.out.frm.cell (p := ⟨g, o + (k * 3 + 2), none⟩) (hbg 0 (by omega)) (fun h => h)).trans (hcc k hk2 2 (by omega))
      have HFF := hid (fun he => find_first (n := n) hk2 hh he)
      have HSN := hid (fun he => has_snoc (n := n) hk2 hh he)
      have HDL : Hid (∀ x y : B, (x == y) = decide (x = y)) := hid (fun x y => by rw [Bool.eq_iff_iff]; simp)
      obtain ⟨m, hm⟩ : ∃ m, R.mems[k] = m := ⟨_, rfl⟩
      simp only [hm] at q0 q1 q2 HFF HSN
      obtain ⟨nm, ro, qu⟩ := m
      simp only [memV, List.getElem?_cons_zero, List.getElem?_cons_succ, ← Nat.add_assoc, Nat.add_zero] at q0 q1 q2
      dsimp only at HFF HSN
      clear hh hcc hbg hm hmr HMR
      by_cases he : nm = n
      · as_aux_lemma =>
        have heb : (nm == n) = true := by rw [HDL.out]; exact decide_eq_true he
        have HFN := hid (HFF.out he)
        clear he HFF HSN
        go_wp2_with fail
        have BX4 := ((HX3.out.set 0 (by simp) (.string ⟨nm.toArray⟩)).set 1 (by simp) (.int .i64 ro)).set 2 (by simp) (.int .i64 qu)
        have e0 := BX4.cell 0
        have e1 := BX4.cell 1
        have e2 := BX4.cell 2
        simp only [List.set_cons_zero, List.set_cons_succ, List.getElem?_cons_zero, List.getElem?_cons_succ] at e0 e1 e2
        refine bodyPost_ret (v := .tuple #[.agg #[.string ⟨nm.toArray⟩, .int .i64 ro, .int .i64 qu], .bool true]) (by simp [results, Tryz.results13, go_sem, e0, e1, e2]) rfl (by rw [HFN.out]; exact ⟨rfl, BX4.frm⟩)
      · as_aux_lemma =>
        have heb : (nm == n) = false := by rw [HDL.out]; exact decide_eq_false he
        have HNX := hid (HSN.out he)
        clear he HFF HSN c1 f1
        go_wp2_with fail
        exact ⟨⟨k + 1, by omega, by go_num, HNX.out, HF.out⟩, by simp only [intOf]; omega⟩
    · obtain rfl : k = ml := by omega
      have hkz : ¬ (k : Int) < (k : Int) := by omega
      have hfn : find Mem.name R.mems n = none := find_none.2 (by rw [← HML.out, List.take_length] at hh; exact hh)
      have HFN := hid hfn
      clear hh hfn
      go_wp2_with fail
      have BX4 := ((HX3.out.set 0 (by simp) (.string ⟨#[]⟩)).set 1 (by simp) (.int .i64 0)).set 2 (by simp) (.int .i64 0)
      have e0 := BX4.cell 0
      have e1 := BX4.cell 1
      have e2 := BX4.cell 2
      simp only [List.set_cons_zero, List.set_cons_succ, List.getElem?_cons_zero, List.getElem?_cons_succ] at e0 e1 e2
      refine bodyPost_ret (v := .tuple #[.agg #[.string ⟨([] : B).toArray⟩, .int .i64 0, .int .i64 0], .bool false]) (by simp [results, Tryz.results13, go_sem, e0, e1, e2]) rfl (by rw [HFN.out]; exact ⟨rfl, BX4.frm⟩)
end Go.Proofs.YtofcmghhmklmiaaGreat
