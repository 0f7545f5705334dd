/- The reference's Put. -/
import Derived.Test.YtofcmghhmklmiaaGreatRefRo1
import Derived.Test.YtofcmghhmklmiaaGreatChain
namespace Go.Proofs.YtofcmghhmklmiaaGreat
open Go.RowKit
open Roll
theorem rotext_any (s : List UInt8) (w : World) (hs : s.length ≤ 65536) : Calls Tryz.prog 47 #[.string ⟨s.toArray⟩] w fun e w' => e = .returned (.string ⟨(Oct.text s).toArray⟩) ∧ Frm No w w' := by
  have ht : Oct.text s = Oct.enc s.length ++ s := if_neg (by omega)
  have HP := hid (fun n w => refput_any n w)
  rw [ht]
  have he := Oct.enc_le (s.length : Int)
  go_enter Tryz.func47, Tryz.ntmps47
  go_wp2_with (go_at_call 46; refine (HP.out _ _).mono ?_; rintro e1 w1 ⟨rfl, hf1⟩)
  go_ret
  exact ⟨by simp, hf1⟩
/-- What stands behind k members, behind k classes, behind n of a class's students. -/
def acM (R : Rl) (k : Nat) : List UInt8 := Oct.enc R.mems.length ++ (R.mems.take k).flatMap memB
def acC (R : Rl) (k : Nat) : List UInt8 := Oct.enc R.mems.length ++ R.mems.flatMap memB ++ (Oct.enc R.clss.length ++ (R.clss.take k).flatMap clsB)
theorem acM_next (R : Rl) (k : Nat) (hk : k < R.mems.length) : acM R (k + 1) = acM R k ++ (Oct.text R.mems[k].name ++ (Oct.enc R.mems[k].role ++ Oct.enc R.mems[k].quota)) := by
  unfold acM
  rw [List.take_succ_eq_append_getElem hk]
  simp only [List.flatMap_append, List.flatMap_cons, List.flatMap_nil, memB, List.append_assoc, List.append_nil]
theorem acC_zero (R : Rl) : acC R 0 = acM R R.mems.length ++ Oct.enc R.clss.length := by simp [acC, acM]
def acS (R : Rl) (k : Nat) (c : Cls) (n : Nat) : List UInt8 := acC R k ++ (Oct.text c.name ++ (Oct.text c.teacher ++ Oct.enc c.students.length)) ++ Oct.texts (c.students.take n)
theorem acC_next (R : Rl) (k : Nat) (hk : k < R.clss.length) : acC R (k + 1) = acS R k R.clss[k] R.clss[k].students.length := by
  unfold acC acS acC
  rw [List.take_succ_eq_append_getElem hk, List.take_length]
  simp only [List.flatMap_append, List.flatMap_cons, List.flatMap_nil, clsB, List.append_assoc, List.append_nil]
theorem acC_all (R : Rl) : acC R R.clss.length = put R := by simp [acC, put]
theorem fm_le {α : Type} (f : α → List UInt8) (c : Nat) : ∀ (l : List α) (_ : ∀ x ∈ l, (f x).length ≤ c), (l.flatMap f).length ≤ l.length * c
  | [], _ => by simp
  | a :: l, h => by
    have h1 := fm_le f c l (fun x hx => h x (by simp [hx]))
    have h2 := h a (by simp)
    rw [List.flatMap_cons, List.length_append, List.length_cons, Nat.succ_mul]
    omega
theorem acM_len {R : Rl} (h : Inv R) (k : Nat) : (acM R k).length ≤ 20000000 := by
  have hml := h.ml
  have h1 := fm_le memB 70000 (R.mems.take k) (fun m _ => by
    have := Oct.text_le m.name
    have := Oct.enc_le m.role
    have := Oct.enc_le m.quota
    simp only [memB, List.length_append]
    omega)
  have h2 : (R.mems.take k).length ≤ 256 := by rw [List.length_take]; omega
  have h3 : (R.mems.take k).length * 70000 ≤ 256 * 70000 := Nat.mul_le_mul_right _ h2
  have := Oct.enc_le (R.mems.length : Int)
  simp only [acM, List.length_append]
  omega
theorem texts_len (l : List B) : (Oct.texts l).length ≤ l.length * 70000 := fm_le Oct.text 70000 l (fun s _ => by have := Oct.text_le s; omega)
theorem acC_len {R : Rl} (h : Inv R) (k : Nat) : (acC R k).length ≤ 700000000 := by
  have hcl := h.cl
  have h0 := acM_len h R.mems.length
  have h1 := fm_le clsB 20000000 (R.clss.take k) (fun c hc => by
    have := Oct.text_le c.name
    have := Oct.text_le c.teacher
    have := Oct.enc_le (c.students.length : Int)
    have hs := h.students (List.mem_of_mem_take hc)
    have h3 := texts_len c.students
    have h4 : c.students.length * 70000 ≤ 256 * 70000 := Nat.mul_le_mul_right _ hs
    simp only [clsB, List.length_append]
    omega)
  have h2 : (R.clss.take k).length ≤ 32 := by rw [List.length_take]; omega
  have h3 : (R.clss.take k).length * 20000000 ≤ 32 * 20000000 := Nat.mul_le_mul_right _ h2
  have := Oct.enc_le (R.clss.length : Int)
  simp only [acM, List.take_length, List.length_append] at h0
  simp only [acC, List.length_append]
  omega
theorem acS_len {R : Rl} (h : Inv R) (k : Nat) (c : Cls) (hc : c ∈ R.clss) (n : Nat) : (acS R k c n).length ≤ 800000000 := by
  have h0 := acC_len h k
  have := Oct.text_le c.name
  have := Oct.text_le c.teacher
  have := Oct.enc_le (c.students.length : Int)
  have hs := h.students hc
  have h3 := texts_len (c.students.take n)
  have h2 : (c.students.take n).length ≤ 256 := by rw [List.length_take]; omega
  have h4 : (c.students.take n).length * 70000 ≤ 256 * 70000 := Nat.mul_le_mul_right _ h2
  simp only [acS, List.length_append]
  omega
theorem acS_next (R : Rl) (k : Nat) (c : Cls) (n : Nat) (hn : n < c.students.length) : acS R k c (n + 1) = acS R k c n ++ Oct.text c.students[n] := by
  unfold acS
  rw [Oct.texts_snoc c.students n hn, ← List.append_assoc]
set_option maxRecDepth 100000 in
set_option maxHeartbeats 8000000 in
theorem roput_any (R : Rl) (mv cv : Value) (w : World) (hr : RlR w mv cv R) (hI : Inv R) :
    Calls Tryz.prog 11 #[.agg #[mv, cv]] w fun e w' => e = .returned (.string ⟨(Roll.put R).toArray⟩) ∧ Frm No w w' := by
  have HP := hid (fun n w => refput_any n w)
  have HT := hid (fun s w hs => rotext_any s w hs)
  have HML0 := hid hI.ml
  have HAM := hid (fun k => acM_len hI k)
  have HAC := hid (fun k => acC_len hI k)
  have HAS := hid (fun k c hc n => acS_len hI k c hc n)
  have HNM := hid (fun m (hm : m ∈ R.mems) => (Cmd.gn_len (hI.mg m hm).1).2)
  have HNC := hid (fun c (hc : c ∈ R.clss) => (Cmd.gn_len (hI.cg c hc).1).2)
  have HNT : Hid (∀ c ∈ R.clss, c.teacher.length ≤ 32) := hid (fun c hc => by
    obtain ⟨m, hm, he, -⟩ := (hI.cg c hc).2.1
    rw [← he]
    exact (Cmd.gn_len (hI.mg m hm).1).2)
  have HNS := hid (fun c (hc : c ∈ R.clss) s (hs : s ∈ c.students) => (Cmd.gn_len (hI.stname hc hs)).2)
  have HSL := hid (fun c (hc : c ∈ R.clss) => hI.students hc)
  have hml := hI.ml
  have hcl0 := hI.cl
  have HMR := hid (fun w1 (hf : Frm No w w1) => (hr.no hf).mr)
  obtain ⟨mao, mcp, rfl⟩ := hr.mr.shape
  obtain ⟨cs, hfs, hc, hst⟩ := hr.cr
  have hcl : cs.length = R.clss.length := by rw [← hfs]; simp
  have HC := hid (fun w1 (hf : Frm No w w1) => hc.frm (fun _ _ => rfl) hf (fun _ _ h => h))
  have HST := hid (fun w1 (hf : Frm No w w1) (x : CV) (hx : x ∈ cs) => (hst x hx).frm (fun _ _ => rfl) hf (fun _ _ h => h))
  obtain ⟨cao, ccp, rfl⟩ := hc.shape
  have HFS := hid hfs
  obtain ⟨ml, hmle⟩ : ∃ ml, R.mems.length = ml := ⟨_, rfl⟩
  obtain ⟨cl, hcle⟩ : ∃ cl, cs.length = cl := ⟨_, rfl⟩
  have HML := hid hmle
  have HCL := hid hcle
  have HCR : Hid (R.clss.length = cl) := hid (by omega)
  have hcl2 : cl ≤ 32 := by omega
  rw [hmle] at hml ⊢
  rw [hcle] at ⊢
  rw [hmle] at HMR
  clear hr hc hst hfs hcl hmle hcle hI hcl0
  go_enter Tryz.func11, Tryz.ntmps11
  go_upto_region 1 with fail
  have X0 := Box.new (Frm.refl No w) [.slice mao ml mcp, .slice cao cl ccp] 31
  obtain ⟨W, hW⟩ : ∃ W, W = w.alloc (.cells #[.slice mao ml mcp, .slice cao cl ccp] 31) := ⟨_, rfl⟩
  have hW2 : W = w.alloc (.cells ([.slice mao ml mcp, .slice cao cl ccp] : List Value).toArray 31) := hW
  rw [← hW] at ⊢
  rw [← hW2] at X0
  clear hW hW2
  obtain ⟨b, hb⟩ : ∃ b, w.heap.size = b := ⟨_, rfl⟩
  rw [hb] at X0
  simp only [hb]
  have HX := hid X0
  have c0 := X0.cell 0
  simp only [List.getElem?_cons_zero] at c0
  clear X0
  go_wp2_with (go_at_call 46; refine (HP.out _ _).mono ?_; rintro e1 w1 ⟨rfl, hf1⟩)
  clear c0
  have HF1 := hid hf1
  clear hf1
  go_loopw [3, 4] (fun v iv wr => ∃ i : Nat, i ≤ ml ∧ iv = .int .i64 (i : Int) ∧ v = .string ⟨(acM R i).toArray⟩ ∧ Frm No W wr)
    (fun _ iv _ => ml - (intOf iv).toNat)
  case atStart => exact ⟨0, by omega, rfl, by simp [acM, HML.out], HF1.out⟩
  case round =>
    clear HF1
    obtain ⟨i, hi, rfl, rfl, hf⟩ := hrel
    have hX := HX.out.no hf
    have c0 := hX.cell 0
    have c1 := hX.cell 1
    have hf0 := hX.frm
    simp only [List.getElem?_cons_zero, List.getElem?_cons_succ] at c0 c1
    by_cases hil : i < ml
    · as_aux_lemma =>
      have hilz : (i : Int) < (ml : Int) := by omega
      have hi2 : i < R.mems.length := by rw [HML.out]; exact hil
      have hmr : RdL wr (.slice mao R.mems.length mcp) 3 memV R.mems := by rw [HML.out]; exact HMR.out wr hf0
      obtain ⟨g, o, rfl, hcc⟩ := hmr.at_ (by omega)
      have q0 := hcc i hi2 0 (by omega)
      have q1 := hcc i hi2 1 (by omega)
      have q2 := hcc i hi2 2 (by omega)
      have hnl := HNM.out _ (List.getElem_mem hi2)
      have HNX := hid (acM_next R i hi2)
      have hal := HAM.out i
      obtain ⟨m, hm⟩ : ∃ m, R.mems[i] = m := ⟨_, rfl⟩
      simp only [hm] at q0 q1 q2 hnl HNX
      obtain ⟨nm, ro, qu⟩ := m
      simp only [memV, List.getElem?_cons_zero, List.getElem?_cons_succ, ← Nat.add_assoc, Nat.add_zero] at q0 q1 q2
      dsimp only at hnl HNX
      have HF := hid hf
      have hnl6 : nm.length ≤ 65536 := by omega
      have l1 := Oct.text_le nm
      have l2 := Oct.enc_le ro
      have l3 := Oct.enc_le qu
      have f0 := Wd.cell q0
      have f1 := Wd.cell q1
      have f2 := Wd.cell q2
      have f3 := Wd.cell c0
      clear hf hcc hm hmr hX hf0 q0 q1 q2 HMR HC HST HFS HX HAM HAC HAS HNM HNC HNT HNS HSL c1 HML HCL HCR HML0
      generalize acM R i = acc at *
      go_upto_region 5 with fail
      refine wp_region_frm (by kernel_rfl) (by kernel_rfl) ?_
      repeat (go_big_quiet_step (first | with_reducible exact Calls.wd (HT.out _ _ hnl6) | with_reducible exact Calls.wd (HP.out _ _)))
      refine wpQuiet_nil ?_
      intro w9 hf9
      clear f0 f1 f2 f3 HT HP
      go_wp2_with fail
      exact ⟨⟨i + 1, by omega, by go_num, by rw [HNX.out], HF.out.thenNo hf9⟩, by simp only [intOf]; omega⟩
    · as_aux_lemma =>
      obtain rfl : i = ml := by omega
      have hiz : ¬ (i : Int) < (i : Int) := by omega
      have hal := HAM.out i
      have hle := Oct.enc_le (cl : Int)
      have HZ : Hid (acC R 0 = acM R i ++ Oct.enc cl) := hid (by rw [acC_zero, HML.out, HCR.out])
      have HF := hid hf
      have HPUT : Hid (acC R cl = Roll.put R) := hid (by rw [← HCR.out]; exact acC_all R)
      generalize acM R i = acc at *
      clear hf hX hf0 HMR HNM HAM
      go_wp2_with (go_at_call 46; refine (HP.out _ _).mono ?_; rintro e1 w5 ⟨rfl, hf5⟩)
      have HF5 := hid (HF.out.thenNo hf5)
      clear hf5 c0 c1 HF
      go_loopw [3, 5, 6, 7] (fun v iv _ _ wr => ∃ k : Nat, k ≤ cl ∧ iv = .int .i64 (k : Int) ∧ v = .string ⟨(acC R k).toArray⟩ ∧ Frm No W wr)
        (fun _ iv _ _ _ => cl - (intOf iv).toNat)
      case atStart => exact ⟨0, by omega, rfl, by rw [HZ.out], HF5.out⟩
      case round =>
        clear HF5 HZ
        obtain ⟨k, hk, rfl, rfl, hf⟩ := hrel
        have hX := HX.out.no hf
        have c1 := hX.cell 1
        have hf0 := hX.frm
        simp only [List.getElem?_cons_zero, List.getElem?_cons_succ] at c1
        by_cases hkl : k < cl
        · as_aux_lemma =>
          have hkz : (k : Int) < (cl : Int) := by omega
          have hk2 : k < cs.length := by rw [HCL.out]; exact hkl
          have hk3 : k < R.clss.length := by rw [HCR.out]; exact hkl
          have hcr : RdL wr (.slice cao cs.length ccp) 3 clsV cs := HC.out wr hf0
          obtain ⟨g, o, rfl, hcc⟩ := hcr.at_ (by omega)
          have q0 := hcc k hk2 0 (by omega)
          have q1 := hcc k hk2 1 (by omega)
          have q2 := hcc k hk2 2 (by omega)
          have hst := HST.out wr hf0 _ (List.getElem_mem hk2)
          have hfk : (cs[k]).1 = R.clss[k] := by
            have := HFS.out
            simp only [← this, List.getElem_map]
          have hmem := List.getElem_mem hk3
          have hnl := HNC.out _ hmem
          have htl := HNT.out _ hmem
          have HNSk := hid (HNS.out _ hmem)
          have hsl := HSL.out _ hmem
          have HNX := hid (acC_next R k hk3)
          have HASk := hid (fun n => HAS.out k _ hmem n)
          have HSN := hid (fun n (hn : n < (R.clss[k]).students.length) => acS_next R k R.clss[k] n hn)
          have HS0 : Hid (acS R k R.clss[k] 0 = acC R k ++ (Oct.text (R.clss[k]).name ++ (Oct.text (R.clss[k]).teacher ++ Oct.enc (R.clss[k]).students.length))) := hid (by simp [acS, Oct.texts])
          rw [← hfk] at hnl htl HNSk hsl HNX HASk HSN HS0
          obtain ⟨x, hx⟩ : ∃ x, cs[k] = x := ⟨_, rfl⟩
          simp only [hx] at q0 q1 q2 hst hnl htl HNSk hsl HNX HASk HSN HS0
          obtain ⟨⟨xn, xt, xs⟩, xo, xc⟩ := x
          simp only [clsV, sv, List.getElem?_cons_zero, List.getElem?_cons_succ, ← Nat.add_assoc, Nat.add_zero] at q0 q1 q2 hst
          dsimp only at hnl htl HNSk hsl HNX HASk HSN HS0
          have HF := hid hf
          have hn6 : xn.length ≤ 65536 := by omega
          have ht6 : xt.length ≤ 65536 := by omega
          have HSX := hid (fun w1 (hf1 : Frm No wr w1) => hst.frm (fun _ _ => rfl) hf1 (fun _ _ h => h))
          have hac := HAC.out k
          have l1 := Oct.text_le xn
          have l2 := Oct.text_le xt
          have l3 := Oct.enc_le (xs.length : Int)
          have BG := Box.new (Frm.refl No wr) [.string ⟨xn.toArray⟩, .string ⟨xt.toArray⟩, .slice xo xs.length xc] 57
          clear hf hcc hcr hX hf0 HC HST HFS HX HAC HAS HNC HNT HNS HSL hst hfk hmem
          generalize acC R k = acc2 at *
          go_upto_region 11 with fail
          obtain ⟨WG, hWG⟩ : ∃ WG, WG = wr.alloc (.cells #[.string ⟨xn.toArray⟩, .string ⟨xt.toArray⟩, .slice xo xs.length xc] 57) := ⟨_, rfl⟩
          have hWG2 : WG = wr.alloc (.cells ([.string ⟨xn.toArray⟩, .string ⟨xt.toArray⟩, .slice xo xs.length xc] : List Value).toArray 57) := hWG
          rw [← hWG] at ⊢
          rw [← hWG2] at BG
          clear hWG hWG2
          obtain ⟨G, hG⟩ : ∃ G, wr.heap.size = G := ⟨_, rfl⟩
          rw [hG] at BG
          (try simp only [hG])
          have HBG := hid BG
          have e0 := BG.cell 0
          have e1 := BG.cell 1
          have e2 := BG.cell 2
          simp only [List.getElem?_cons_zero, List.getElem?_cons_succ] at e0 e1 e2
          have f0 := Wd.cell e0
          have f1 := Wd.cell e1
          have f2 := Wd.cell e2
          clear BG q0 q1 q2 e0 e1 e2 c1 hG
          refine wp_region_frm (by kernel_rfl) (by kernel_rfl) ?_
          repeat (go_big_quiet_step (first | with_reducible exact Calls.wd (HT.out _ _ hn6) | with_reducible exact Calls.wd (HT.out _ _ ht6) | with_reducible exact Calls.wd (HP.out _ _)))
          refine wpQuiet_nil ?_
          intro w9 hf9
          have HBG9 := hid (HBG.out.no hf9)
          have HW9 := hid (HF.out.thenNo (HBG.out.frm.thenNo hf9))
          have HR9 := hid (HBG.out.frm.thenNo hf9)
          clear f0 f1 f2 HBG hf9 hac l1 l2 l3
          obtain ⟨sl, hsle⟩ : ∃ sl, xs.length = sl := ⟨_, rfl⟩
          have HSLE := hid hsle
          rw [hsle] at hsl HBG9
          rw [hsle] at HS0 HNX
          (try rw [hsle])
          clear hsle
          have HS0b := HS0
          go_wp2_with fail
          go_loopw [3, 7] (fun v nv wr => ∃ n : Nat, n ≤ sl ∧ nv = .int .i64 (n : Int) ∧ v = .string ⟨(acS R k ⟨xn, xt, xs⟩ n).toArray⟩ ∧ Frm No w9 wr)
            (fun _ nv _ => sl - (intOf nv).toNat)
          case atStart => exact ⟨0, by omega, rfl, by rw [HS0.out], Frm.refl _ _⟩
          case round =>
            clear HS0 HS0b
            obtain ⟨n, hn, rfl, rfl, hf⟩ := hrel
            have hG2 := (HBG9.out.no hf).cell 2
            simp only [List.getElem?_cons_zero, List.getElem?_cons_succ] at hG2
            by_cases hnl2 : n < sl
            · as_aux_lemma =>
              have hnz : (n : Int) < (sl : Int) := by omega
              have hn2 : n < xs.length := by rw [HSLE.out]; exact hnl2
              have hs3 : RdL wr (.slice xo xs.length xc) 1 strV xs := HSX.out wr (HR9.out.thenNo hf)
              obtain ⟨g2, o2, rfl, hsc⟩ := hs3.at_ (by omega)
              have hsk := hsc n hn2 0 (by omega)
              simp only [strV, List.getElem?_cons_zero, Nat.mul_one, Nat.add_zero] at hsk
              have hsl6 := HNSk.out _ (List.getElem_mem hn2)
              have HSNn := hid (HSN.out n hn2)
              have has := HASk.out n
              obtain ⟨s, hs⟩ : ∃ s, xs[n] = s := ⟨_, rfl⟩
              simp only [hs] at hsk hsl6 HSNn
              have hs6 : s.length ≤ 65536 := by omega
              have l1 := Oct.text_le s
              have HFF := hid hf
              clear hs3 hsc hf HSX HASk HNSk HNX HPUT
              generalize acS R k ⟨xn, xt, xs⟩ n = acc3 at *
              go_wp2_with (go_at_call 47; refine (HT.out _ _ hs6).mono ?_; rintro e1 w10 ⟨rfl, hf10⟩)
              exact ⟨⟨n + 1, by omega, by go_num, by rw [HSNn.out], HFF.out.thenNo hf10⟩, by simp only [intOf]; omega⟩
            · as_aux_lemma =>
              obtain rfl : n = sl := by omega
              have hnz : ¬ (n : Int) < (n : Int) := by omega
              have HNX2 : Hid (acC R (k + 1) = acS R k ⟨xn, xt, xs⟩ n) := hid HNX.out
              have HFin := hid (HW9.out.thenNo hf)
              clear hf HSX HSN HASk HNSk HNX HPUT
              generalize acS R k ⟨xn, xt, xs⟩ n = acc3 at *
              go_wp2_with fail
              exact ⟨⟨k + 1, by omega, by go_num, by rw [HNX2.out], HFin.out⟩, by simp only [intOf]; omega⟩
        · as_aux_lemma =>
          obtain rfl : k = cl := by omega
          have hkz : ¬ (k : Int) < (k : Int) := by omega
          have HF0 := hid hf0
          rw [HPUT.out]
          clear hf hX hf0 HC HST HFS HAC HAS HNC HNT HNS HSL HPUT
          go_wp2_with fail
          go_ret
          exact ⟨rfl, HF0.out⟩
end Go.Proofs.YtofcmghhmklmiaaGreat
