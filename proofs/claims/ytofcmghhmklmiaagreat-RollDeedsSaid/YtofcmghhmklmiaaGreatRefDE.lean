/- The reference's Enrol. Printed by a program (refdeeds.py). -/
import Derived.Test.YtofcmghhmklmiaaGreatRefD1
namespace Go.Proofs.YtofcmghhmklmiaaGreat
open Go.RowKit
open Roll
theorem gt_eq (n x : B) : (!(Op.bytesLess x n) && !(x == n)) = decide (n < x) := by
  rw [less_eq]
  rcases ltri n x with h | h | h
  · have h2 : ¬ x < n := lta h
    have h3 : ¬ x = n := fun e => by rw [e] at h; exact ltn _ h
    simp [h, h2, h3]
  · subst h
    simp [ltn]
  · have h2 : ¬ n < x := lta h
    simp [h, h2]
set_option maxRecDepth 100000 in
set_option maxHeartbeats 8000000 in
theorem reenrol_any (R : Rl) (mv cv : Value) (n : B) (role : Int) (w : World) (hr : RlR w mv cv R) (hI : Inv R) (hn : n.length ≤ 9223372036854775807) :
    Calls Tryz.prog 26 #[.agg #[mv, cv], .string ⟨n.toArray⟩, .int .i64 role] w (DeedP w (enrol R n role)) := by
  obtain ⟨i0, gi, gz0, gz1, gz2⟩ := info_parts info_rmem
  have hml := hI.ml
  have hcl := hI.cl
  have HM := hid (fun w1 (hf : Frm No w w1) => rfind_any R mv cv n w1 (hr.no hf) (by have := hI.ml; omega))
  have HC := hid (fun w1 (hf : Frm No w w1) => rcopy_any R mv cv [] w1 (hr.no hf) hI)
  have HG := hid (fun w1 => refgood_any n w1 hn)
  obtain ⟨mao, mcp, rfl⟩ := hr.mr.shape
  obtain ⟨cs, hfs, hc, -⟩ := hr.cr
  have hcsl : cs.length = R.clss.length := by rw [← hfs]; simp
  have HCR := hid (fun w1 (hf : Frm No w w1) => hc.frm (fun _ _ => rfl) hf (fun _ _ h => h))
  have HFS := hid hfs
  obtain ⟨cao, ccp, rfl⟩ := hc.shape
  obtain ⟨ml, hmle⟩ : ∃ ml, R.mems.length = ml := ⟨_, rfl⟩
  obtain ⟨cl, hcle⟩ : ∃ cl, cs.length = cl := ⟨_, rfl⟩
  have HML := hid hmle
  have HCL := hid hcle
  have HCR2 : Hid (R.clss.length = cl) := hid (by omega)
  have HDL : Hid (∀ x y : B, (x == y) = decide (x = y)) := hid (fun x y => by rw [Bool.eq_iff_iff]; simp)
  have HI := hid hI
  rw [← hcsl, hcle] at hcl
  rw [hmle] at hml ⊢
  rw [hcle] at ⊢
  simp only [hmle, hcle] at HM HC
  clear hr hc hfs hcsl hmle hcle hI
  cases h1 : Cmd.gn n with
  | false =>
    as_aux_lemma =>
    have he : enrol R n role = (Roll.nil, 8) := by unfold enrol; rw [if_pos h1]
    rw [h1] at HG
    rw [he]
    clear he h1 HC HI HML HCR HFS HCL HCR2 HM
    go_enter Tryz.func26, Tryz.ntmps26
    go_upto_region 1 with fail
    have X0 := Box.new (Frm.refl No w) [.slice mao ml mcp, .slice cao cl ccp] 31
    have X1 := Box.new X0.frm [.slice none 0 0, .slice none 0 0] 31
    have Y0 := X0.no ((Frm.refl No _).alloc (.cells #[.slice none 0 0, .slice none 0 0] 31))
    simp only [World.size_alloc] at X1
    obtain ⟨W, hW⟩ : ∃ W, W = (w.alloc (.cells #[.slice mao ml mcp, .slice cao cl ccp] 31)).alloc (.cells #[.slice none 0 0, .slice none 0 0] 31) := ⟨_, rfl⟩
    rw [← hW] at X1 Y0 ⊢
    clear hW
    obtain ⟨b, hb⟩ : ∃ b, w.heap.size = b := ⟨_, rfl⟩
    rw [hb] at X1 Y0
    simp only [hb]
    have F1 := X1.frm
    have HX1 := hid X1
    have HY0 := hid Y0
    have cW := Y0.cell
    clear X0 X1 Y0
    have dX := HX1.out.cell
    have fX := HX1.out.fr
    go_wp2_with (go_at_call 66; refine (HG.out _).mono ?_; rintro e w0 ⟨rfl, rfl⟩)
    have BX4 := (HX1.out.set 0 (by simp) (.slice none 0 0)).set 1 (by simp) (.slice none 0 0)
    have e0 := BX4.cell 0
    have e1 := BX4.cell 1
    simp only [List.set_cons_zero, List.set_cons_succ, List.getElem?_cons_zero, List.getElem?_cons_succ] at e0 e1
    refine bodyPost_ret (v := .tuple #[.agg #[.slice none 0 0, .slice none 0 0], .int .i64 8]) (by simp [results, Tryz.results26, go_sem, e0, e1]) rfl ⟨_, _, rfl, nil_rd _, BX4.frm⟩
  | true =>
    have HH1 := hid h1
    rw [h1] at HG
    clear h1
    by_cases h2 : role ≠ 1 ∧ role ≠ 2
    · as_aux_lemma =>
      have he : enrol R n role = (Roll.nil, 7) := by unfold enrol; rw [if_neg (by rw [HH1.out]; decide), if_pos h2]
      rw [he]
      have h2a : (role == 1) = false := by simpa using h2.1
      have h2b : (role == 2) = false := by simpa using h2.2
      have h2c : (role != 1) = true := by simpa using h2.1
      have h2d : (role != 2) = true := by simpa using h2.2
      clear he h2 HC HI HML HCR HFS HCL HCR2 HM
      go_enter Tryz.func26, Tryz.ntmps26
      go_upto_region 1 with fail
      have X0 := Box.new (Frm.refl No w) [.slice mao ml mcp, .slice cao cl ccp] 31
      have X1 := Box.new X0.frm [.slice none 0 0, .slice none 0 0] 31
      have Y0 := X0.no ((Frm.refl No _).alloc (.cells #[.slice none 0 0, .slice none 0 0] 31))
      simp only [World.size_alloc] at X1
      obtain ⟨W, hW⟩ : ∃ W, W = (w.alloc (.cells #[.slice mao ml mcp, .slice cao cl ccp] 31)).alloc (.cells #[.slice none 0 0, .slice none 0 0] 31) := ⟨_, rfl⟩
      rw [← hW] at X1 Y0 ⊢
      clear hW
      obtain ⟨b, hb⟩ : ∃ b, w.heap.size = b := ⟨_, rfl⟩
      rw [hb] at X1 Y0
      simp only [hb]
      have F1 := X1.frm
      have HX1 := hid X1
      have HY0 := hid Y0
      have cW := Y0.cell
      clear X0 X1 Y0
      have dX := HX1.out.cell
      have fX := HX1.out.fr
      go_wp2_with (go_at_call 66; refine (HG.out _).mono ?_; rintro e w0 ⟨rfl, rfl⟩)
      have BX4 := (HX1.out.set 0 (by simp) (.slice none 0 0)).set 1 (by simp) (.slice none 0 0)
      have e0 := BX4.cell 0
      have e1 := BX4.cell 1
      simp only [List.set_cons_zero, List.set_cons_succ, List.getElem?_cons_zero, List.getElem?_cons_succ] at e0 e1
      refine bodyPost_ret (v := .tuple #[.agg #[.slice none 0 0, .slice none 0 0], .int .i64 7]) (by simp [results, Tryz.results26, go_sem, e0, e1]) rfl ⟨_, _, rfl, nil_rd _, BX4.frm⟩
    have HR : Hid (role = 1 ∨ role = 2) := hid (by omega)
    have h2e : ((role != 1) && (role != 2)) = false := by rcases HR.out with rfl | rfl <;> rfl
    cases h3 : has Mem.name R.mems n with
    | true =>
      as_aux_lemma =>
      have he : enrol R n role = (Roll.nil, 9) := by unfold enrol; rw [if_neg (by rw [HH1.out]; decide), if_neg h2, if_pos h3]
      obtain ⟨hpl, hfd⟩ := find_at HI.out.ms h3
      rw [hfd] at HM
      rw [he]
      generalize R.mems[place Mem.name R.mems n] = m at *
      obtain ⟨nm, ro, qu⟩ := m
      clear he h2 h2e hfd h3 hpl HC HI HML HCR HFS HCL HCR2
      rcases HR.out with rfl | rfl
      all_goals (
        go_enter Tryz.func26, Tryz.ntmps26
        go_upto_region 1 with fail
        have X0 := Box.new (Frm.refl No w) [.slice mao ml mcp, .slice cao cl ccp] 31
        have X1 := Box.new X0.frm [.slice none 0 0, .slice none 0 0] 31
        have Y0 := X0.no ((Frm.refl No _).alloc (.cells #[.slice none 0 0, .slice none 0 0] 31))
        simp only [World.size_alloc] at X1
        obtain ⟨W, hW⟩ : ∃ W, W = (w.alloc (.cells #[.slice mao ml mcp, .slice cao cl ccp] 31)).alloc (.cells #[.slice none 0 0, .slice none 0 0] 31) := ⟨_, rfl⟩
        rw [← hW] at X1 Y0 ⊢
        clear hW
        obtain ⟨b, hb⟩ : ∃ b, w.heap.size = b := ⟨_, rfl⟩
        rw [hb] at X1 Y0
        simp only [hb]
        have F1 := X1.frm
        have HX1 := hid X1
        have HY0 := hid Y0
        have cW := Y0.cell
        clear X0 X1 Y0
        go_wp2_with (first | (go_at_call 66; refine (HG.out _).mono ?_; rintro e w0 ⟨rfl, rfl⟩) | (go_at_call 13; refine (HM.out _ F1).mono ?_; rintro e w1 ⟨rfl, hfw1⟩; have BX := (HX1.out.no hfw1).no ((Frm.refl No w1).alloc (.cells #[.string ⟨nm.toArray⟩, .int .i64 ro, .int .i64 qu] 48)); have BY := (HY0.out.no hfw1).no ((Frm.refl No w1).alloc (.cells #[.string ⟨nm.toArray⟩, .int .i64 ro, .int .i64 qu] 48)); have cXw1 := BX.cell; have fXw1 := BX.fr; have cYw1 := BY.cell))
        have BX4 := (BX.set 0 (by simp) (.slice none 0 0)).set 1 (by simp) (.slice none 0 0)
        have e0 := BX4.cell 0
        have e1 := BX4.cell 1
        simp only [List.set_cons_zero, List.set_cons_succ, List.getElem?_cons_zero, List.getElem?_cons_succ] at e0 e1
        refine bodyPost_ret (v := .tuple #[.agg #[.slice none 0 0, .slice none 0 0], .int .i64 9]) (by simp [results, Tryz.results26, go_sem, e0, e1]) rfl ⟨_, _, rfl, nil_rd _, BX4.frm⟩)
    | false =>
      have HH3 := hid h3
      rw [find_none.2 h3] at HM
      clear h3
      by_cases h4 : 256 ≤ ml
      · as_aux_lemma =>
        have he : enrol R n role = (Roll.nil, 12) := by unfold enrol; rw [if_neg (by rw [HH1.out]; decide), if_neg h2, if_neg (by rw [HH3.out]; decide), if_pos (by rw [HML.out]; exact h4)]
        rw [he]
        have h4z : (256 : Int) ≤ (ml : Int) := by omega
        clear he h2 h2e HC HI HML HCR HFS HCL HCR2
        rcases HR.out with rfl | rfl
        all_goals (
          go_enter Tryz.func26, Tryz.ntmps26
          go_upto_region 1 with fail
          have X0 := Box.new (Frm.refl No w) [.slice mao ml mcp, .slice cao cl ccp] 31
          have X1 := Box.new X0.frm [.slice none 0 0, .slice none 0 0] 31
          have Y0 := X0.no ((Frm.refl No _).alloc (.cells #[.slice none 0 0, .slice none 0 0] 31))
          simp only [World.size_alloc] at X1
          obtain ⟨W, hW⟩ : ∃ W, W = (w.alloc (.cells #[.slice mao ml mcp, .slice cao cl ccp] 31)).alloc (.cells #[.slice none 0 0, .slice none 0 0] 31) := ⟨_, rfl⟩
          rw [← hW] at X1 Y0 ⊢
          clear hW
          obtain ⟨b, hb⟩ : ∃ b, w.heap.size = b := ⟨_, rfl⟩
          rw [hb] at X1 Y0
          simp only [hb]
          have F1 := X1.frm
          have HX1 := hid X1
          have HY0 := hid Y0
          have cW := Y0.cell
          clear X0 X1 Y0
          go_wp2_with (first | (go_at_call 66; refine (HG.out _).mono ?_; rintro e w0 ⟨rfl, rfl⟩) | (go_at_call 13; refine (HM.out _ F1).mono ?_; rintro e w1 ⟨rfl, hfw1⟩; have BX := (HX1.out.no hfw1).no ((Frm.refl No w1).alloc (.cells #[.string ⟨([] : B).toArray⟩, .int .i64 0, .int .i64 0] 48)); have BY := (HY0.out.no hfw1).no ((Frm.refl No w1).alloc (.cells #[.string ⟨([] : B).toArray⟩, .int .i64 0, .int .i64 0] 48)); have cXw1 := BX.cell; have fXw1 := BX.fr; have cYw1 := BY.cell))
          have BX4 := (BX.set 0 (by simp) (.slice none 0 0)).set 1 (by simp) (.slice none 0 0)
          have e0 := BX4.cell 0
          have e1 := BX4.cell 1
          simp only [List.set_cons_zero, List.set_cons_succ, List.getElem?_cons_zero, List.getElem?_cons_succ] at e0 e1
          refine bodyPost_ret (v := .tuple #[.agg #[.slice none 0 0, .slice none 0 0], .int .i64 12]) (by simp [results, Tryz.results26, go_sem, e0, e1]) rfl ⟨_, _, rfl, nil_rd _, BX4.frm⟩)
      as_aux_lemma =>
      have HEN := hid (enrol_ok HI.out HH1.out HR.out HH3.out (by rw [HML.out]; omega))
      have h4z : ¬ (256 : Int) ≤ (ml : Int) := by omega
      clear h2 h2e
      go_enter Tryz.func26, Tryz.ntmps26
      go_upto_region 1 with fail
      have X0 := Box.new (Frm.refl No w) [.slice mao ml mcp, .slice cao cl ccp] 31
      have X1 := Box.new X0.frm [.slice none 0 0, .slice none 0 0] 31
      have Y0 := X0.no ((Frm.refl No _).alloc (.cells #[.slice none 0 0, .slice none 0 0] 31))
      simp only [World.size_alloc] at X1
      obtain ⟨W, hW⟩ : ∃ W, W = (w.alloc (.cells #[.slice mao ml mcp, .slice cao cl ccp] 31)).alloc (.cells #[.slice none 0 0, .slice none 0 0] 31) := ⟨_, rfl⟩
      rw [← hW] at X1 Y0 ⊢
      clear hW
      obtain ⟨b, hb⟩ : ∃ b, w.heap.size = b := ⟨_, rfl⟩
      rw [hb] at X1 Y0
      simp only [hb]
      have F1 := X1.frm
      have HX1 := hid X1
      have HY0 := hid Y0
      have cW := Y0.cell
      clear X0 X1 Y0
      go_upto_region 3 with (go_at_call 66; refine (HG.out _).mono ?_; rintro e w0 ⟨rfl, rfl⟩)
      go_cut [23] from 14 to 23 (fun p wq => p = .bool false ∧ wq = W)
      case first =>
        as_aux_lemma =>
        rcases HR.out with hr | hr
        all_goals (
          subst hr
          go_wp2_with fail
          go_meet
          exact ⟨rfl, rfl⟩)
      case rest =>
        as_aux_lemma =>
        obtain ⟨rfl, hwq⟩ := hcut
        have hwq := hwq.symm
        subst hwq
        go_upto_region 11 with (first | (go_at_call 13; refine (HM.out _ F1).mono ?_; rintro e w1 ⟨rfl, hfw1⟩; have BX := (HX1.out.no hfw1).no ((Frm.refl No w1).alloc (.cells #[.string ⟨([] : B).toArray⟩, .int .i64 0, .int .i64 0] 48)); have BY := (HY0.out.no hfw1).no ((Frm.refl No w1).alloc (.cells #[.string ⟨([] : B).toArray⟩, .int .i64 0, .int .i64 0] 48)); have cXw1 := BX.cell; have fXw1 := BX.fr; have cYw1 := BY.cell) | (go_at_call 67; refine (HC.out _ BY.frm).mono ?_; rintro e wc hcp; obtain ⟨ma', mc', ca', cc', cs', rfl, ho, hfc, hcl'⟩ := hcp.all' HML.out HCR2.out; have BA := BX.no hfc))
        have BA0 : w.heap.size ≤ (w1.alloc (.cells #[.string ⟨([] : B).toArray⟩, .int .i64 0, .int .i64 0] 48)).heap.size := BX.frm.size
        have hO := OutI.make 31 BA ho BX.lC BA0
        obtain ⟨WA, hWA⟩ : ∃ WA, WA = wc.alloc (.cells #[.slice ma' ml mc', .slice ca' cl cc'] 31) := ⟨_, rfl⟩
        rw [← hWA] at hO ⊢
        clear hWA
        obtain ⟨C, hC⟩ : ∃ C, wc.heap.size = C := ⟨_, rfl⟩
        rw [hC] at hO
        (try simp only [hC])
        have HO := hid hO
        clear hO BA BX BY cXw1 fXw1 cYw1 HX1 HY0 hfw1 F1 cW ho hfc HC HM hcp BA0 HG
        generalize (w1.alloc (.cells #[.string ⟨([] : B).toArray⟩, .int .i64 0, .int .i64 0] 48)).heap.size = base at *
        go_wp2_with fail
        go_loopw [11, 12, 13] (fun lv dv iv wr => ∃ (i : Nat) (d : Bool) (acc : List Mem), i ≤ ml ∧ iv = .int .i64 (i : Int) ∧ dv = .bool d ∧ IsL Mem.name n ⟨n, role, 4096⟩ R.mems i d acc ∧ wr.ownsRow WA.heap.size 48 3 lv acc.length (rows memV acc) ∧ Frm No WA wr)
          (fun _ _ iv _ => ml - (intOf iv).toNat)
        case atStart => exact ⟨0, false, [], by omega, rfl, rfl, IsL.start _ _ _, World.ownsRow_nil _ _ _ _, Frm.refl _ _⟩
        case round =>
          obtain ⟨i, d, acc, hi, rfl, rfl, hIs, hown, hf⟩ := hrel
          have hO := HO.out.no hf
          obtain ⟨lo, lc, rfl⟩ := ownsRow_shape hown
          obtain ⟨al, hal⟩ : ∃ al, acc.length = al := ⟨_, rfl⟩
          have hal2 : al ≤ ml + 1 := by have := hIs.len; rw [HML.out, hal] at this; exact this
          have HAL := hid hal
          rw [hal] at hown ⊢
          have HOWN := hid hown
          have HF := hid hf
          have HIS := hid hIs
          have c0 := hO.box.cell 0
          simp only [List.getElem?_cons_zero] at c0
          have hsz := hf.size
          have HOR := hid hO
          clear hIs hown hal hf
          by_cases hil : i < ml
          · as_aux_lemma =>
            have hilz : (i : Int) < (ml : Int) := by omega
            have hi2 : i < R.mems.length := by rw [HML.out]; exact hil
            have hmr : RdL wr (.slice ma' R.mems.length mc') 3 memV R.mems := by rw [HML.out]; exact hO.own.rd.mr
            obtain ⟨g, o, rfl, hcc⟩ := hmr.at_ (by omega)
            have q0 := hcc i hi2 0 (by omega)
            have q1 := hcc i hi2 1 (by omega)
            have q2 := hcc i hi2 2 (by omega)
            have HY := hid (fun (h : IsL Mem.name n ⟨n, role, 4096⟩ R.mems i true acc) => h.yes hi2)
            have HN := hid (fun (h : IsL Mem.name n ⟨n, role, 4096⟩ R.mems i false acc) => And.intro (h.now hi2) (h.not hi2))
            obtain ⟨m, hm⟩ : ∃ m, R.mems[i] = m := ⟨_, rfl⟩
            simp only [hm] at q0 q1 q2 HY HN
            obtain ⟨nm, ro, qu⟩ := m
            simp only [memV, List.getElem?_cons_zero, List.getElem?_cons_succ, ← Nat.add_assoc, Nat.add_zero] at q0 q1 q2
            have hgl : g < wr.heap.size := World.block_lt_of_cell? (u := .string ⟨nm.toArray⟩) wr ⟨g, o + i * 3, none⟩ q0
            have hCl := hO.box.lC
            have HBL : Hid ((!(Op.bytesLess nm n) && !(nm == n)) = decide (n < nm)) := hid (gt_eq n nm)
            have hgW : g < WA.heap.size := by
              have h1 : RdL WA (.slice (some ⟨g, o, none⟩) R.mems.length mc') 3 memV R.mems := by rw [HML.out]; exact HO.out.own.rd.mr
              obtain ⟨g', o', h2, h3⟩ := h1.at_ (by omega)
              cases h2
              have h4 := h3 i hi2 0 (by omega)
              rw [hm] at h4
              exact World.block_lt_of_cell? (u := .string ⟨nm.toArray⟩) WA ⟨g, o + (i * 3 + 0), none⟩ h4
            have hCW : C < WA.heap.size := HO.out.box.lC
            have SK : Hid (∀ w', Frm No WA w' → w'.cell? ⟨C, 0, none⟩ = some (.slice (some ⟨g, o, none⟩) ml mc') ∧ w'.cell? ⟨g, o + i * 3, none⟩ = some (.string ⟨nm.toArray⟩) ∧ w'.cell? ⟨g, o + i * 3 + 1, none⟩ = some (.int .i64 ro) ∧ w'.cell? ⟨g, o + i * 3 + 2, none⟩ = some (.int .i64 qu)) := hid fun w' hf => ⟨((hf.cell (p := ⟨C, 0, none⟩) hCW (fun h => h)).trans (HF.out.cell (p := ⟨C, 0, none⟩) hCW (fun h => h)).symm).trans c0, ((hf.cell (p := ⟨g, o + i * 3, none⟩) hgW (fun h => h)).trans (HF.out.cell (p := ⟨g, o + i * 3, none⟩) hgW (fun h => h)).symm).trans q0, ((hf.cell (p := ⟨g, o + i * 3 + 1, none⟩) hgW (fun h => h)).trans (HF.out.cell (p := ⟨g, o + i * 3 + 1, none⟩) hgW (fun h => h)).symm).trans q1, ((hf.cell (p := ⟨g, o + i * 3 + 2, none⟩) hgW (fun h => h)).trans (HF.out.cell (p := ⟨g, o + i * 3 + 2, none⟩) hgW (fun h => h)).symm).trans q2⟩
            clear hmr hcc hm hO HO HOR
            go_upto_region 16 with fail
            go_cut [58] from 47 to 58 (fun p wq => p = .bool (!d && decide (n < nm)) ∧ wq = wr)
            case first =>
              as_aux_lemma =>
              cases d with
              | true =>
                go_wp2_with fail
                go_meet
                exact ⟨rfl, rfl⟩
              | false =>
                go_wp2_with fail
                go_meet
                exact ⟨by rw [← HBL.out]; rfl, rfl⟩
            case rest =>
            as_aux_lemma =>
            obtain ⟨rfl, hwq⟩ := hcut
            have hwq := hwq.symm
            subst hwq
            cases d with
            | true =>
              as_aux_lemma =>
              have HNX := hid (HY.out HIS.out)
              rw [show (!true && decide (n < nm)) = false from rfl]
              clear HN HY HIS HBL
              go_wp2_with (at_builtin; refine wpList_push _ rfl (.tmp 65) (.tmp 71) 28 rfl WA.heap.size 48 i0 _ 3 32 Tryz.underlying28 gi gz0 gz1 gz2 rfl (.slice lo al lc) (al) (rows memV acc) rfl HOWN.out (memV ⟨nm, ro, qu⟩) rfl rfl (memS.one _) (by omega) (by omega) hsz ?_; intro v4 w4 hown4 hfr4 hv4 hz4)
              have hF4 := frm_own HF.out hfr4 (fun k hk => (HOWN.out.lt k hk).1)
              exact ⟨⟨i + 1, true, _, by omega, by go_num, rfl, HNX.out, by rw [List.length_append, HAL.out, ← rows_snoc]; exact hown4, hF4⟩, by simp only [intOf]; omega⟩
            | false =>
              by_cases hlt : n < nm
              · as_aux_lemma =>
                rw [decide_eq_true hlt]
                have HNX := hid ((HN.out HIS.out).1 hlt)
                clear HN HY HIS hlt HBL
                go_wp2_with (first | (at_builtin; refine wpList_push _ rfl (.tmp 59) (.tmp 63) 28 rfl WA.heap.size 48 i0 _ 3 32 Tryz.underlying28 gi gz0 gz1 gz2 rfl (.slice lo al lc) (al) (rows memV acc) rfl HOWN.out (memV ⟨n, role, 4096⟩) rfl rfl (memS.one _) (by omega) (by omega) hsz ?_; intro v4 w4 hown4 hfr4 hv4 hz4; have hF4 := frm_own HF.out hfr4 (fun k hk => (HOWN.out.lt k hk).1); obtain ⟨d0, d1, d2, d3⟩ := SK.out _ hF4; obtain ⟨lo4, lc4, rfl⟩ := ownsRow_shape hown4; have hsz4 := hF4.size) | (at_builtin; refine wpList_push _ rfl (.tmp 65) (.tmp 71) 28 rfl WA.heap.size 48 i0 _ 3 32 Tryz.underlying28 gi gz0 gz1 gz2 rfl (.slice lo4 (al + 1) lc4) (al + 1) (rows memV acc ++ memV ⟨n, role, 4096⟩) rfl hown4 (memV ⟨nm, ro, qu⟩) rfl rfl (memS.one _) (by omega) (by omega) hsz4 ?_; intro v5 w5 hown5 hfr5 hv5 hz5))
                have hF5 := frm_own hF4 hfr5 (fun k hk => (hown4.lt k hk).1)
                exact ⟨⟨i + 1, true, _, by omega, by go_num, rfl, HNX.out, by rw [List.length_append, List.length_append, HAL.out, ← rows_snoc, ← rows_snoc]; exact hown5, hF5⟩, by simp only [intOf]; omega⟩
              · as_aux_lemma =>
                rw [decide_eq_false hlt]
                have HNX := hid ((HN.out HIS.out).2 hlt)
                clear HN HY HIS hlt HBL
                go_wp2_with (at_builtin; refine wpList_push _ rfl (.tmp 65) (.tmp 71) 28 rfl WA.heap.size 48 i0 _ 3 32 Tryz.underlying28 gi gz0 gz1 gz2 rfl (.slice lo al lc) (al) (rows memV acc) rfl HOWN.out (memV ⟨nm, ro, qu⟩) rfl rfl (memS.one _) (by omega) (by omega) hsz ?_; intro v4 w4 hown4 hfr4 hv4 hz4)
                have hF4 := frm_own HF.out hfr4 (fun k hk => (HOWN.out.lt k hk).1)
                exact ⟨⟨i + 1, false, _, by omega, by go_num, rfl, HNX.out, by rw [List.length_append, HAL.out, ← rows_snoc]; exact hown4, hF4⟩, by simp only [intOf]; omega⟩
          · as_aux_lemma =>
            obtain rfl : i = ml := by omega
            have hilz : ¬ (i : Int) < (i : Int) := by omega
            have c1 := hO.box.cell 1
            have c0f := hO.box.fr
            have a0 := hO.res.cell
            have af := hO.res.fr
            simp only [List.getElem?_cons_zero, List.getElem?_cons_succ] at c1
            cases d with
            | true =>
              as_aux_lemma =>
              have HEND : Hid (acc = insL Mem.name n ⟨n, role, 4096⟩ R.mems) := hid (by have := HIS.out; rw [← HML.out] at this; exact this.endY)
              have hAC := hO.AC
              clear HIS hO
              go_wp2_with fail
              obtain ⟨BE, hre⟩ := end_C (j := 0) (l := .slice lo al lc) (mv' := .slice lo al lc) (cv' := .slice ca' cl cc') (R := ⟨acc, R.clss⟩) HOR.out.res HOR.out.box HOR.out.AC nil3 nil3 ⟨_, _, _, rfl⟩ ⟨_, _, _, rfl⟩ ⟨rdl_own memS (by rw [HAL.out]; exact HOWN.out), HOR.out.own.rd.cr⟩
              have e0 := BE.cell 0
              have e1 := BE.cell 1
              simp only [List.getElem?_cons_zero, List.getElem?_cons_succ] at e0 e1
              refine bodyPost_ret (v := .tuple #[.agg #[.slice lo al lc, .slice ca' cl cc'], .int .i64 0]) (by simp [results, Tryz.results26, go_sem, e0, e1]) rfl ⟨_, _, by rw [HEN.out], by rw [HEN.out, ← HEND.out]; exact hre, BE.frm⟩
            | false =>
              as_aux_lemma =>
              have HEND : Hid (acc ++ [⟨n, role, 4096⟩] = insL Mem.name n ⟨n, role, 4096⟩ R.mems) := hid (by have := HIS.out; rw [← HML.out] at this; exact this.endN)
              clear HIS hO
              go_wp2_with (at_builtin; refine wpList_push _ rfl (.tmp 75) (.tmp 79) 28 rfl WA.heap.size 48 i0 _ 3 32 Tryz.underlying28 gi gz0 gz1 gz2 rfl (.slice lo al lc) (al) (rows memV acc) rfl HOWN.out (memV ⟨n, role, 4096⟩) rfl rfl (memS.one _) (by omega) (by omega) hsz ?_; intro v4 w4 hown4 hfr4 hv4 hz4; have hF4 := frm_own HF.out hfr4 (fun k hk => (HOWN.out.lt k hk).1); obtain ⟨lo4, lc4, rfl⟩ := ownsRow_shape hown4; have hO4 := HO.out.no hF4; have HO4 := hid hO4; have d0 := hO4.box.cell; have d0f := hO4.box.fr; have d1 := hO4.res.cell; have d1f := hO4.res.fr; have hAC := hO4.AC; clear hO4)
              obtain ⟨BE, hre⟩ := end_C (j := 0) (l := .slice lo4 (al + 1) lc4) (mv' := .slice lo4 (al + 1) lc4) (cv' := .slice ca' cl cc') (R := ⟨acc ++ [⟨n, role, 4096⟩], R.clss⟩) HO4.out.res HO4.out.box HO4.out.AC nil3 nil3 ⟨_, _, _, rfl⟩ ⟨_, _, _, rfl⟩ ⟨rdl_own memS (by rw [List.length_append, HAL.out, ← rows_snoc]; exact hown4), HO4.out.own.rd.cr⟩
              have e0 := BE.cell 0
              have e1 := BE.cell 1
              simp only [List.getElem?_cons_zero, List.getElem?_cons_succ] at e0 e1
              refine bodyPost_ret (v := .tuple #[.agg #[.slice lo4 (al + 1) lc4, .slice ca' cl cc'], .int .i64 0]) (by simp [results, Tryz.results26, go_sem, e0, e1]) rfl ⟨_, _, by rw [HEN.out], by rw [HEN.out, ← HEND.out]; exact hre, BE.frm⟩
end Go.Proofs.YtofcmghhmklmiaaGreat
