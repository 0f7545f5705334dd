/- The reference's Of and In. -/
import Derived.Test.YtofcmghhmklmiaaGreatRollTT
import Derived.Test.YtofcmghhmklmiaaGreatRollDD
namespace Go.Proofs.YtofcmghhmklmiaaGreat
open Go.RowKit
open Roll
set_option maxRecDepth 100000 in
set_option maxHeartbeats 4000000 in
theorem rof_any (R : Rl) (mv cv : Value) (n : B) (w : World) (hr : RlR w mv cv R) (hI : Inv R) :
    Calls Tryz.prog 15 #[.agg #[mv, cv], .string ⟨n.toArray⟩] w fun e w' => e = .returned (.int .i64 (ofB R n)) ∧ Frm No w w' := by
  obtain ⟨mao, mcp, rfl⟩ := hr.mr.shape
  obtain ⟨cs, hfs, hc, -⟩ := hr.cr
  have hsc : Srt cname cs := srt_fst (by rw [hfs]; exact hI.cs)
  have HSC := hid hsc
  have HOF : Hid (ofB R n = if has cname cs n = true then (place cname cs n : Int) else -1) := hid (by rw [has_fst, place_fst, hfs]; rfl)
  have hcl0 := hI.cl
  have hcl : cs.length ≤ 32 := by
    have : cs.length = R.clss.length := by rw [← hfs]; simp
    omega
  have HC := hid (fun w1 (hf : Frm No w w1) => hc.frm (fun _ _ => rfl) hf (fun _ _ h => h))
  obtain ⟨cao, ccp, rfl⟩ := hc.shape
  obtain ⟨cl, hcle⟩ : ∃ cl, cs.length = cl := ⟨_, rfl⟩
  have HCL := hid hcle
  rw [hcle] at hcl ⊢
  generalize ofB R n = r at *
  generalize R.mems.length = ml at *
  clear hr hc hfs hI hcl0 hcle hsc
  go_enter Tryz.func15, Tryz.ntmps15
  go_upto_region 1 with fail
  have X0 := Box.new (Frm.refl No w) [.slice mao ml mcp, .slice cao cl ccp] 31
  obtain ⟨W, hW⟩ : ∃ W, W = w.alloc (.cells #[.slice mao ml mcp, .slice cao cl ccp] 31) := ⟨_, rfl⟩
  have hW2 : W = w.alloc (.cells ([.slice mao ml mcp, .slice cao cl ccp] : List Value).toArray 31) := hW
  rw [← hW] at ⊢
  rw [← hW2] at X0
  clear hW hW2
  obtain ⟨b, hb⟩ : ∃ b, w.heap.size = b := ⟨_, rfl⟩
  rw [hb] at X0
  simp only [hb]
  have HX := hid X0
  clear X0
  go_wp2_with fail
  go_loopw [5] (fun iv wr => ∃ k : Nat, k ≤ cl ∧ iv = .int .i64 (k : Int) ∧ has cname (cs.take k) n = false ∧ Frm No W wr)
    (fun iv _ => cl - (intOf iv).toNat)
  case atStart => exact ⟨0, by omega, rfl, rfl, Frm.refl _ _⟩
  case round =>
    obtain ⟨k, hk, rfl, hh, hf⟩ := hrel
    have hX := HX.out.no hf
    have c1 := hX.cell 1
    have hf0 := hX.frm
    simp only [List.getElem?_cons_zero, List.getElem?_cons_succ] at c1
    have HF := hid hf
    have HF0 := hid hf0
    have HH := hid hh
    clear hX hf hh
    by_cases hkl : k < cl
    · have hkz : (k : Int) < (cl : Int) := by omega
      have hk2 : k < cs.length := by rw [HCL.out]; exact hkl
      have hcr : RdL wr (.slice cao cs.length ccp) 3 clsV cs := HC.out wr hf0
      obtain ⟨g, o, rfl, hcc⟩ := hcr.at_ (by omega)
      have q0 := hcc k hk2 0 (by omega)
      have HNX := hid (fun (he : ¬ cname cs[k] = n) => has_take hk2 HH.out he)
      have HYS := hid (fun (he : cname cs[k] = n) => And.intro (has_of hk2 he) (place_first HSC.out hk2 he))
      have HDL : Hid (∀ x y : B, (x == y) = decide (x = y)) := hid (fun x y => by rw [Bool.eq_iff_iff]; simp)
      obtain ⟨x, hx⟩ : ∃ x, cs[k] = x := ⟨_, rfl⟩
      simp only [hx] at q0 HNX HYS
      obtain ⟨⟨xn, xt, xs⟩, xo, xc⟩ := x
      simp only [clsV, List.getElem?_cons_zero, Nat.add_zero] at q0
      simp only [cname] at HNX HYS
      clear hcr hcc hx hf0 HX
      by_cases he : xn = n
      · as_aux_lemma =>
        have heb : (xn == n) = true := by rw [HDL.out]; exact decide_eq_true he
        have HYP := hid (HYS.out he)
        clear he HNX HYS HDL
        go_wp2_with fail
        go_ret
        exact ⟨by rw [HOF.out, if_pos HYP.out.1, HYP.out.2]; rfl, HF0.out⟩
      · as_aux_lemma =>
        have heb : (xn == n) = false := by rw [HDL.out]; exact decide_eq_false he
        have HN2 := hid (HNX.out he)
        clear he HNX HYS HDL
        go_wp2_with fail
        exact ⟨⟨k + 1, by omega, by go_num, HN2.out, HF.out⟩, by simp only [intOf]; omega⟩
    · obtain rfl : k = cl := by omega
      have hkz : ¬ (k : Int) < (k : Int) := by omega
      have HNO : Hid (has cname cs n = false) := hid (by have := HH.out; rw [← HCL.out, List.take_length] at this; exact this)
      clear HH hf0
      go_wp2_with fail
      go_ret
      exact ⟨by rw [HOF.out, HNO.out]; rfl, HF0.out⟩
set_option maxRecDepth 100000 in
set_option maxHeartbeats 1000000 in
theorem rin_any (l : List B) (v : Value) (n : B) (w : World) (hv : RdL w v 1 strV l) (hl : l.length ≤ 1000000) :
    Calls Tryz.prog 16 #[v, .string ⟨n.toArray⟩] w fun e w' => e = .returned (.bool (has id l n)) ∧ w = w' := by
  obtain ⟨ao, c, rfl⟩ := hv.shape
  go_enter Tryz.func16, Tryz.ntmps16
  go_wp2_with fail
  go_loopw [5] (fun i wr => ∃ k : Nat, k ≤ l.length ∧ i = .int .i64 (k : Int) ∧ has id (l.take k) n = false ∧ w = wr)
    (fun i _ => l.length - (intOf i).toNat)
  case atStart => exact ⟨0, by omega, rfl, rfl, rfl⟩
  case round =>
    obtain ⟨k, hk, rfl, hb, rfl⟩ := hrel
    have HB := hid hb
    clear hb
    by_cases hkl : k < l.length
    · obtain ⟨b, o, rfl, hc⟩ := hv.at_ (by omega)
      have q := hc k hkl 0 (by omega)
      have HS : Hid (has id (l.take (k + 1)) n = decide (l[k] = n)) := hid (by
        have := HB.out
        unfold has at this ⊢
        rw [List.take_succ_eq_append_getElem hkl, List.any_append, this]
        simp)
      have HM : Hid (l[k] = n → has id l n = true) := hid (fun e => has_iff.2 ⟨l[k], List.getElem_mem hkl, e⟩)
      obtain ⟨x, hxk⟩ : ∃ x, l[k] = x := ⟨_, rfl⟩
      rw [hxk] at q HS HM
      simp only [strV, List.getElem?_cons_zero, Nat.mul_one, Nat.add_zero] at q
      clear hc hv
      by_cases hxn : x = n
      · subst hxn
        have hxx : (x == x) = true := by simp
        go_wp2_with fail
        go_ret
        exact ⟨by rw [HM.out trivial]; rfl, rfl⟩
      · have hxx : (x == n) = false := by simpa using fun e : x = n => hxn e
        have HXN := hid hxn
        clear hxn
        go_wp2_with fail
        exact ⟨⟨k + 1, by omega, by go_num, by rw [HS.out]; exact _root_.decide_eq_false HXN.out, trivial⟩, by simp [intOf]; omega⟩
    · obtain rfl : k = l.length := by omega
      rw [List.take_length] at HB
      go_wp2_with fail
      go_ret
      exact ⟨by rw [HB.out]; rfl, rfl⟩
end Go.Proofs.YtofcmghhmklmiaaGreat
