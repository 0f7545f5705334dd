/- The parser's rules. -/
import Derived.Test.YtebocnpbiiejmaaDoorTwP7
import Derived.Handy
import Derived.WalkSpells
import Derived.Deep.CutRange
import Derived.Deep.DeepCutAuto
namespace Go.Proofs.YtebocnpbiiejmaaDoor
open Go.RowKit
theorem sign_k4 {tl : List Tp} {j : Nat} {c : UInt8} (hlt : j < tl.length) (hs : Gr.sign c (rest tl j) = some true) : tl[j].1.k ≠ 4 := by
  rw [rest_cons hlt] at hs
  obtain ⟨r, hr⟩ := Gr.sign_true hs
  injection hr with e1 e2
  have h2 : (seenAt 4096 j tl[j].1).k = 3 := by rw [e1]; rfl
  have h3 := seen_k (n := 4096) (i := j) (t := tl[j].1) (by omega)
  rw [h3] at h2
  omega
theorem rules_eq (m : Nat) (acc : List (List UInt8 × Gr.Nd)) (t : Gr.Tk) (r : List Gr.Tk) : Gr.pRules (m + 1) acc (t :: r) = (if t.k = 0 then none else if t.k = 4 ∧ acc ≠ [] then some acc else if acc.length = 64 then none else match Gr.pRule (t :: r) with | none => none | some (x, r1) => Gr.pRules m (acc ++ [x]) r1) := by
  rw [Gr.pRules]
  by_cases h0 : t.k = 0
  · rw [if_pos h0, if_pos h0]
  · rw [if_neg h0, if_neg h0]
    by_cases h1 : t.k = 4 ∧ acc ≠ []
    · rw [if_pos h1, if_pos h1]
    · rw [if_neg h1, if_neg h1]
      by_cases h2 : acc.length = 64
      · rw [if_pos h2, if_pos h2]
      · rw [if_neg h2, if_neg h2]
        cases Gr.pRule (t :: r) <;> rfl
theorem four_cells {w : World} {G : Nat} {a b c n u1 u2 u3 : Value} (h0 : w.cell? ⟨G, 0, none⟩ = some n) (h1 : w.cell? ⟨G, 1, none⟩ = some u1) (h2 : w.cell? ⟨G, 2, none⟩ = some u2) (h3 : w.cell? ⟨G, 3, none⟩ = some u3) :
    (((w.setCell ⟨G, 1, none⟩ a).setCell ⟨G, 2, none⟩ b).setCell ⟨G, 3, none⟩ c).cell? ⟨G, 0, none⟩ = some n ∧ (((w.setCell ⟨G, 1, none⟩ a).setCell ⟨G, 2, none⟩ b).setCell ⟨G, 3, none⟩ c).cell? ⟨G, 1, none⟩ = some a ∧ (((w.setCell ⟨G, 1, none⟩ a).setCell ⟨G, 2, none⟩ b).setCell ⟨G, 3, none⟩ c).cell? ⟨G, 2, none⟩ = some b ∧
    (((w.setCell ⟨G, 1, none⟩ a).setCell ⟨G, 2, none⟩ b).setCell ⟨G, 3, none⟩ c).cell? ⟨G, 3, none⟩ = some c := by
  have n12 : (⟨G, 1, none⟩ : Addr) ≠ ⟨G, 2, none⟩ := by simp
  have n13 : (⟨G, 1, none⟩ : Addr) ≠ ⟨G, 3, none⟩ := by simp
  have n23 : (⟨G, 2, none⟩ : Addr) ≠ ⟨G, 3, none⟩ := by simp
  have n10 : (⟨G, 1, none⟩ : Addr) ≠ ⟨G, 0, none⟩ := by simp
  have n20 : (⟨G, 2, none⟩ : Addr) ≠ ⟨G, 0, none⟩ := by simp
  have n30 : (⟨G, 3, none⟩ : Addr) ≠ ⟨G, 0, none⟩ := by simp
  refine ⟨?_, ?_, ?_, ?_⟩
  · rw [World.cell?_setCell_other _ _ _ _ n30, World.cell?_setCell_other _ _ _ _ n20, World.cell?_setCell_other _ _ _ _ n10, h0]
  · rw [World.cell?_setCell_other _ _ _ _ n13.symm, World.cell?_setCell_other _ _ _ _ n12.symm]
    exact World.cell?_setCell_same _ _ _ h1
  · rw [World.cell?_setCell_other _ _ _ _ n23.symm]
    exact World.cell?_setCell_same _ _ _ ((World.cell?_setCell_other _ _ _ _ n12).trans h2)
  · exact World.cell?_setCell_same _ _ _ ((World.cell?_setCell_other _ _ _ _ n23).trans ((World.cell?_setCell_other _ _ _ _ n13).trans h3))
theorem own_first {w : World} {B n c : Nat} {ao : Option Addr} {r : Rv} {rs : List Rv} (h : w.ownsRow B 43 4 (.slice ao n c) n (rows rvC (r :: rs))) : ∃ q, ao = some ⟨q, 0, none⟩ ∧ w.cell? ⟨q, 0, none⟩ = some (.string ⟨r.nm.toArray⟩) := by
  have hc := h
  rcases h.2 with ⟨h1, h2⟩ | ⟨q, cap, cur, e, hq, hh, _⟩
  · have h3 := h.1
    rw [h2] at h3
    cases h3
  · cases e
    have hp : 0 < n * 4 := by rw [← h.1]; simp [rows, rvC]
    exact ⟨q, rfl, hc.cellAt 0 hp⟩
theorem GmS.done {w0 W WZ : World} {p g cap : Nat} {tl : List Tp} {j F T : Nat} {st : List UInt8} {ao : Option Addr} {c : Nat} {acc : List (List UInt8 × Gr.Nd)} {rs : List Rv} (h : GmS w0 W p g cap tl j F T st (.slice ao rs.length c) acc rs) (st' : List UInt8)
    (hf : Frm (fun k => k = F ∨ k = F + 1) W WZ) : Frm (One p) w0 WZ ∧ GmR WZ w0.heap.size (st', acc) (.agg #[.string ⟨st'.toArray⟩, .slice ao rs.length c]) := by
  have hz := h.wz
  have hI := h.its.frm hf (fun k hk _ e => by rcases e with e | e <;> omega)
  refine ⟨h.frm.trans hf (fun _ _ h => h) (fun k hk e => by exfalso; rcases e with e | e <;> omega), rs, ao, c, rfl, ownsRow_base hI.own (fun k hk => by have := (hI.own.lt k hk).1; omega), RlsQ.mono (fun k hk _ => by show w0.heap.size ≤ k; have := hk.1; omega) _ _ hI.kids⟩
theorem wrap_nat {n : Nat} (h : n < 65537) : IntKind.wrap .i64 ((n : Int) + 1) = (n : Int) + 1 := wrap_succ2 h
set_option maxRecDepth 100000 in
set_option maxHeartbeats 8000000 in
theorem grammar_any (p g cap : Nat) (tl : List Tp) (i : Nat) (w : World) (h : Par w p g cap tl i 0) :
    Calls Tryd.prog 11 #[.pointer (some ⟨p, 0, none⟩)] w (GRes w p (Gr.pGram (rest tl i))) := by
  have hl := h.tk.len
  obtain ⟨R, hR⟩ : ∃ R, Gr.pGram (rest tl i) = R := ⟨_, rfl⟩
  rw [hR]
  unfold Gr.pGram at hR
  have HR := hid hR
  have HL := hid hl
  obtain ⟨F, hF⟩ : ∃ F, w.heap.size = F := ⟨_, rfl⟩
  have hpF : p < F := by have := h.size; omega
  have hf1 : Frm No w ((w.alloc (.cells #[.string ⟨#[]⟩, .slice none 0 0] 25)).alloc (.cells #[.string ⟨#[]⟩, .slice none 0 0] 25)) := ((Frm.refl No w).alloc _).alloc _
  have hcF : ∀ j, ((w.alloc (.cells #[.string ⟨#[]⟩, .slice none 0 0] 25)).alloc (.cells #[.string ⟨#[]⟩, .slice none 0 0] 25)).cell? ⟨F, j, none⟩ = (#[.string ⟨#[]⟩, .slice none 0 0] : Array Value)[j]? := fun j => (((Frm.refl No _).alloc _).cell (p := ⟨F, j, none⟩) (by rw [World.size_alloc]; show F < _; omega) (fun h => h)).trans (World.cell?_alloc_at _ _ _ _ hF.symm)
  have hzF : ∀ j, ((w.alloc (.cells #[.string ⟨#[]⟩, .slice none 0 0] 25)).alloc (.cells #[.string ⟨#[]⟩, .slice none 0 0] 25)).frozen? ⟨F, j, none⟩ = false := fun j => (((Frm.refl No _).alloc _).frozen (p := ⟨F, j, none⟩) (by rw [World.size_alloc]; show F < _; omega) (fun h => h)).trans (World.frozen?_alloc_at _ _ _ _ hF.symm)
  have hcG : ∀ j, ((w.alloc (.cells #[.string ⟨#[]⟩, .slice none 0 0] 25)).alloc (.cells #[.string ⟨#[]⟩, .slice none 0 0] 25)).cell? ⟨F + 1, j, none⟩ = (#[.string ⟨#[]⟩, .slice none 0 0] : Array Value)[j]? := fun j => World.cell?_alloc_at _ _ _ _ (by rw [World.size_alloc, hF])
  have hzG : ∀ j, ((w.alloc (.cells #[.string ⟨#[]⟩, .slice none 0 0] 25)).alloc (.cells #[.string ⟨#[]⟩, .slice none 0 0] 25)).frozen? ⟨F + 1, j, none⟩ = false := fun j => World.frozen?_alloc_at _ _ _ _ (by rw [World.size_alloc, hF])
  have hs1 : ((w.alloc (.cells #[.string ⟨#[]⟩, .slice none 0 0] 25)).alloc (.cells #[.string ⟨#[]⟩, .slice none 0 0] 25)).heap.size = F + 2 := by rw [World.size_alloc, World.size_alloc, hF]
  have HS1 : Hid (GmS w ((w.alloc (.cells #[.string ⟨#[]⟩, .slice none 0 0] 25)).alloc (.cells #[.string ⟨#[]⟩, .slice none 0 0] 25)) p g cap tl i F (F + 2) [] (.slice none 0 0) [] []) := hid
    ⟨h.frm hf1, hcF 0, hcF 1, hzF, hcG 0, hcG 1, hzG, Rlz.nil _ _ _, (Frm.refl (One p) w).thenNo hf1, Nat.le_refl _, Nat.le_of_eq hs1.symm, hF, hpF⟩
  have HF := hid hF
  clear hf1 hcF hzF hcG hzG hs1 h hl hR hF
  go_enter Tryd.func11, Tryd.ntmps11
  go_upto_region 2 with fail
  generalize (w.alloc (.cells #[.string ⟨#[]⟩, .slice none 0 0] 25)).alloc (.cells #[.string ⟨#[]⟩, .slice none 0 0] 25) = W1 at *
  try rw [HF.out]
  go_wp2_with fail
  refine (psign_any p g cap tl i 0 37 _ HS1.out.par).mono ?_
  intro e w2 h2
  cases hs : Gr.sign 37 (rest tl i) with
  | none =>
    rw [hs] at h2
    obtain ⟨hwr, hF2⟩ := h2
    have HRN : Hid (R = none) := hid (by rw [← HR.out]; unfold Gr.pStart; rw [hs])
    obtain ⟨ch, rfl, hwr⟩ := wrong_panic hwr
    clear hs HR
    go_wp2_with fail
    refine ⟨rfl, HS1.out.frm.then_ hF2, ?_⟩
    rw [HRN.out]
    exact hwr
  | some sb =>
    rw [hs] at h2
    obtain ⟨rfl, hF2⟩ := h2
    have HS2 := hid (HS1.out.no hF2)
    have hlt := HS1.out.par.lt
    have HSG := hid hs
    clear HS1 hF2 hs
    go_upto_if 7 with fail
    go_cut [] from 8 to 19 (fun wx => ∃ (st : List UInt8) (j : Nat), (Gr.pRules ((rest tl j).length + 1) [] (rest tl j)).map (Gr.startOf st) = R ∧ GmS w wx p g cap tl j F (F + 2) st (.slice none 0 0) [] [])
    case first =>
      cases sb with
      | false =>
        have HRR : Hid ((Gr.pRules ((rest tl i).length + 1) [] (rest tl i)).map (Gr.startOf []) = R) := hid (by rw [← HR.out]; unfold Gr.pStart; rw [HSG.out])
        clear HR HSG
        go_wp2_with fail
        go_meet
        exact ⟨[], i, HRR.out, HS2.out⟩
      | true =>
        have hk4 := sign_k4 hlt HSG.out
        have htl : (rest tl i).tail = rest tl (i + 1) := by rw [rest_cons hlt]; rfl
        have HRR : Hid ((match Gr.name (rest tl (i + 1)) with
          | none => none
          | some (st, r) => match Gr.take 59 r with
            | none => none
            | some r1 => (Gr.pRules (r1.length + 1) [] r1).map (Gr.startOf st)) = R) := hid (by
          rw [← HR.out]
          unfold Gr.pStart
          rw [HSG.out]
          dsimp only
          rw [htl]
          cases Gr.name (rest tl (i + 1)) with
          | none => rfl
          | some q =>
            obtain ⟨q1, q2⟩ := q
            dsimp only
            cases Gr.take 59 q2 <;> rfl)
        have hw := wrap_nat (n := i) (by have := HL.out; omega)
        have c1 := HS2.out.par.c1
        have pf := HS2.out.par.f 1
        have HS3 : Hid (GmS w (w2.setCell ⟨p, 1, none⟩ (.int .i64 ((i : Int) + 1))) p g cap tl (i + 1) F (F + 2) [] (.slice none 0 0) [] []) := hid (HS2.out.on frmOne (HS2.out.par.step hk4))
        clear HR HSG
        go_upto_region 4 with fail
        generalize w2.setCell ⟨p, 1, none⟩ (.int .i64 ((i : Int) + 1)) = W3 at *
        clear c1 pf hw HS2 hk4
        go_wp2_with fail
        refine (pname_any p g cap tl (i + 1) 0 _ HS3.out.par).mono ?_
        intro e w4 h4
        cases hn : Gr.name (rest tl (i + 1)) with
        | none =>
          rw [hn] at h4
          obtain ⟨hF4, hwr⟩ := h4
          have HRN : Hid (R = none) := hid (by rw [← HRR.out, hn])
          obtain ⟨ch, rfl, hwr⟩ := wrong_panic hwr
          clear hn HRR
          go_wp2_with fail
          refine ⟨rfl, HS3.out.frm.then_ hF4, ?_⟩
          rw [HRN.out]
          exact hwr
        | some q =>
          obtain ⟨st, ts⟩ := q
          rw [hn] at h4
          obtain ⟨hF4, rfl, rfl, hP4⟩ := h4
          have HS4 := hid (HS3.out.on hF4 hP4)
          have HR4 : Hid ((match Gr.take 59 (rest tl (i + 1 + 1)) with
            | none => none
            | some r1 => (Gr.pRules (r1.length + 1) [] r1).map (Gr.startOf st)) = R) := hid (by rw [← HRR.out, hn])
          have f0 := HS4.out.f0
          have fz := HS4.out.fz 0
          clear hn HRR hP4 hF4 HS3
          have HS5 : Hid (GmS w (w4.setCell ⟨F + 1, 0, none⟩ (.string ⟨st.toArray⟩)) p g cap tl (i + 1 + 1) F (F + 2) st (.slice none 0 0) [] []) := hid (HS4.out.start st)
          go_upto_region 5 with fail
          generalize w4.setCell ⟨F + 1, 0, none⟩ (.string ⟨st.toArray⟩) = W5 at *
          clear f0 fz HS4
          go_wp2_with fail
          refine (ptake_any p g cap tl (i + 1 + 1) 0 59 _ HS5.out.par).mono ?_
          intro e w6 h6
          cases hn : Gr.take 59 (rest tl (i + 1 + 1)) with
          | none =>
            rw [hn] at h6
            obtain ⟨hF6, hwr⟩ := h6
            have HRN : Hid (R = none) := hid (by rw [← HR4.out, hn])
            obtain ⟨ch, rfl, hwr⟩ := wrong_panic hwr
            clear hn HR4
            go_wp2_with fail
            refine ⟨rfl, HS5.out.frm.then_ hF6, ?_⟩
            rw [HRN.out]
            exact hwr
          | some ts =>
            rw [hn] at h6
            obtain ⟨hF6, rfl, rfl, hP6⟩ := h6
            have HS6 := hid (HS5.out.on hF6 hP6)
            have HR6 : Hid ((Gr.pRules ((rest tl (i + 1 + 1 + 1)).length + 1) [] (rest tl (i + 1 + 1 + 1))).map (Gr.startOf st) = R) := hid (by rw [← HR4.out, hn])
            clear hn HR4 hP6 hF6 HS5
            go_wp2_with fail
            go_meet
            exact ⟨st, i + 1 + 1 + 1, HR6.out, HS6.out⟩
    case rest =>
      obtain ⟨st, j0, hR0, hS0⟩ := hcut
      have HR0 := hid hR0
      have HS0 := hid hS0
      clear hR0 hS0 HR HS2 HSG hlt
      go_wp2_with fail
      go_loopw [4] (fun f wr => ∃ (m j T : Nat) (v : Value) (acc : List (List UInt8 × Gr.Nd)) (rs : List Rv), tl.length - j + 1 ≤ m ∧ (Gr.pRules m acc (rest tl j)).map (Gr.startOf st) = R ∧ f = .bool acc.isEmpty ∧ acc.length ≤ 64 ∧ GmS w wr p g cap tl j F T st v acc rs) (fun _ wr => tl.length - posOf p wr)
      case atStart => exact ⟨(rest tl j0).length + 1, j0, F + 2, .slice none 0 0, [], [], by rw [rest_len]; omega, HR0.out, rfl, by simp, HS0.out⟩
      case round =>
        obtain ⟨m, j, T, v, acc, rs, hmj, hal, hf4, hac, hS⟩ := hrel
        subst hf4
        obtain ⟨m', rfl⟩ : ∃ m', m = m' + 1 := ⟨m - 1, by omega⟩
        have hlt := hS.par.lt
        have hp1 : posOf p wr = j := by unfold posOf; rw [hS.par.c1]; rfl
        obtain ⟨ao, c, rfl⟩ := ownsRow_shape hS.its.own
        have HRL : Hid (rs.length = acc.length) := hid (RlsQ.len hS.its.kids)
        obtain ⟨⟨⟨tk, ts⟩, tx, ty⟩, ht⟩ : ∃ t, tl[j] = t := ⟨_, rfl⟩
        obtain ⟨s, hs⟩ : ∃ s, seenAt 4096 j ⟨tk, ts⟩ = s := ⟨_, rfl⟩
        have hrc := rest_cons hlt
        rw [ht, hs] at hrc
        have HQ : Hid ((if s.k = 0 then none else if s.k = 4 ∧ acc ≠ [] then some acc else if acc.length = 64 then none else match Gr.pRule (rest tl j) with | none => none | some (x, r1) => Gr.pRules m' (acc ++ [x]) r1).map (Gr.startOf st) = R) := hid (by rw [← hal, hrc, rules_eq])
        have HNM : Hid (Gr.name (rest tl j) = if s.k = 1 then some (s.s, rest tl (j + 1)) else none) := hid (by rw [hrc]; rfl)
        have HT := hid ht
        have HSE := hid hs
        have HS := hid hS
        have HAC := hid hac
        have HMJ := hid hmj
        clear hal hS hrc ht hs hac hmj
        have hfd : ∀ w : World, (Instr.field 38 (.agg #[.int .i64 (tk : Int), .string ⟨ts.toArray⟩, .int .i64 tx, .int .i64 ty]) 0).run Tryd.prog w = .ok (.int .i64 (tk : Int)) w := fun _ => by kernel_rfl
        cases hacc : acc with
        | nil =>
          rw [hacc] at HS HQ HAC HRL
          clear hacc
          have hrs : rs = [] := List.length_eq_zero_iff.mp HRL.out
          rw [hrs] at HS HRL
          clear hrs
          have HN4 : Hid (¬ (s.k = 4 ∧ ([] : List (List UInt8 × Gr.Nd)) ≠ [])) := hid (fun e => e.2 rfl)
          go_wp2_with fail
          refine (peek_any p g cap tl j 0 _ HS.out.par).mono ?_
          intro e w8 h8
          rw [HT.out, HSE.out] at h8
          rcases peeked_or h8 with ⟨h0, hwr, hF8⟩ | ⟨h0, rfl, hst, hF8⟩
          · have HRN : Hid (R = none) := hid (by rw [← HQ.out, if_pos h0]; rfl)
            obtain ⟨ch, rfl, hwr⟩ := wrong_panic hwr
            clear h8
            go_wp2_with fail
            refine ⟨rfl, HS.out.frm.then_ hF8, ?_⟩
            rw [HRN.out]
            exact hwr
          · have HS8 := hid (HS.out.no hF8)
            simp only [tokA]
            have hsk1 : s.k = tk := by rw [hst]
            by_cases hk1 : tk = 1
            · have z1 : (((tk : Nat) : Int) == 1) = true := by rw [hk1]; rfl
              have f1 := HS8.out.f1
              by_cases h64 : ([] : List Rv).length = 64
              · exact absurd h64 (by simp)
              · have z64 : (((([] : List Rv).length : Nat) : Int) == 64) = false := by rw [beq_eq_false_iff_ne]; omega
                have HRT : Hid ((match Gr.pRule (rest tl j) with | none => none | some (x, r1) => Gr.pRules m' ([] ++ [x]) r1).map (Gr.startOf st) = R) := hid (by rw [← HQ.out, if_neg h0, if_neg HN4.out, if_neg (by rw [← HRL.out]; exact h64)])
                have HN1 : Hid (Gr.name (rest tl j) = some (s.s, rest tl (j + 1))) := hid (by rw [HNM.out, if_pos (hsk1.trans hk1)])
                have HL64 : Hid (([] : List Rv).length < 64) := hid (by have := HRL.out; have := HAC.out; omega)
                clear h8 h0 hst hsk1 hk1 hF8 h64 HS HQ HNM HT HSE HN4
                go_wp2_with fail
                refine (pname_any p g cap tl j 0 _ HS8.out.par).mono ?_
                intro e w9 h9
                rw [HN1.out] at h9
                obtain ⟨hF9, rfl, -, hP9⟩ := h9
                clear f1 z1 z64
                have HS9 := hid (HS8.out.on hF9 hP9)
                clear hF9 hP9 HS8
                have HTG : Hid (T ≤ w9.heap.size) := hid HS9.out.tz
                have HG9 : Hid (p < w9.heap.size ∧ F + 2 ≤ w9.heap.size) := hid ⟨by have := HS9.out.pz; have := HS9.out.sz; have := HS9.out.tz; omega, by have := HS9.out.sz; have := HS9.out.tz; omega⟩
                have hFA : Frm No w9 (w9.alloc (.cells #[.string ⟨s.s.toArray⟩, .int .i64 0, .string ⟨#[]⟩, .slice none 0 0] 43)) := (Frm.refl No w9).alloc _
                have HSA := hid (HS9.out.no hFA)
                have hka : ∀ a, (w9.alloc (.cells #[.string ⟨s.s.toArray⟩, .int .i64 0, .string ⟨#[]⟩, .slice none 0 0] 43)).cell? ⟨w9.heap.size, a, none⟩ = (#[.string ⟨s.s.toArray⟩, .int .i64 0, .string ⟨#[]⟩, .slice none 0 0] : Array Value)[a]? := fun a => World.cell?_alloc_at _ _ _ _ rfl
                have hza : ∀ a, (w9.alloc (.cells #[.string ⟨s.s.toArray⟩, .int .i64 0, .string ⟨#[]⟩, .slice none 0 0] 43)).frozen? ⟨w9.heap.size, a, none⟩ = false := fun a => World.frozen?_alloc_at _ _ _ _ rfl
                have hsa : w9.heap.size < (w9.alloc (.cells #[.string ⟨s.s.toArray⟩, .int .i64 0, .string ⟨#[]⟩, .slice none 0 0] 43)).heap.size := by rw [World.size_alloc]; exact Nat.lt_succ_self _
                go_upto_region 12 with fail
                generalize w9.alloc (.cells #[.string ⟨s.s.toArray⟩, .int .i64 0, .string ⟨#[]⟩, .slice none 0 0] 43) = WA at *
                obtain ⟨G, hG⟩ : ∃ G, w9.heap.size = G := ⟨_, rfl⟩
                rw [hG] at hka hza hsa HTG HG9
                simp only [hG]
                clear hG hFA HS9
                have HKA := hid hka
                have HZA := hid hza
                have hpG : ¬ G = p := by have := HG9.out; omega
                clear hka hza
                go_wp2_with fail
                refine (ptake_any p g cap tl (j + 1) 0 58 _ HSA.out.par).mono ?_
                intro e wb hb
                cases hn : Gr.take 58 (rest tl (j + 1)) with
                | none =>
                  rw [hn] at hb
                  obtain ⟨hFB, hwr⟩ := hb
                  have HRN : Hid (R = none) := hid (by rw [← HRT.out]; unfold Gr.pRule; rw [HN1.out]; dsimp only; rw [hn]; rfl)
                  obtain ⟨ch, rfl, hwr⟩ := wrong_panic hwr
                  clear hn HRT
                  go_wp2_with fail
                  refine ⟨rfl, HSA.out.frm.then_ hFB, ?_⟩
                  rw [HRN.out]
                  exact hwr
                | some tt =>
                  rw [hn] at hb
                  obtain ⟨hFB, rfl, rfl, hPB⟩ := hb
                  have HSB := hid (HSA.out.on hFB hPB)
                  have HKB : Hid (∀ a, wb.cell? ⟨G, a, none⟩ = (#[.string ⟨s.s.toArray⟩, .int .i64 0, .string ⟨#[]⟩, .slice none 0 0] : Array Value)[a]?) := hid fun a => (hFB.cell (p := ⟨G, a, none⟩) hsa (fun e => hpG e)).trans (HKA.out a)
                  have HZB : Hid (∀ a, wb.frozen? ⟨G, a, none⟩ = false) := hid fun a => (hFB.frozen (p := ⟨G, a, none⟩) hsa (fun e => hpG e)).trans (HZA.out a)
                  have hsb := Nat.lt_of_lt_of_le hsa hFB.size
                  have HN2 := hid hn
                  clear hn hFB hPB HSA HKA HZA hsa
                  go_wp2_with fail
                  refine ((parse_all (Gr.fuel (rest tl (j + 1 + 1)))).1 p g cap tl (j + 1 + 1) 0 wb.heap.size wb HSB.out.par (by have := HSB.out.pz; have := HSB.out.sz; have := HSB.out.tz; omega) (Nat.le_refl _) (by unfold Gr.fuel; rw [rest_len]; omega)).mono ?_
                  intro e wd hd
                  obtain ⟨hFD, hd⟩ := hd
                  cases hn : Gr.pAlt (Gr.fuel (rest tl (j + 1 + 1))) 0 (rest tl (j + 1 + 1)) with
                  | none =>
                    rw [hn] at hd
                    have HRN : Hid (R = none) := hid (by rw [← HRT.out]; unfold Gr.pRule; rw [HN1.out]; dsimp only; rw [HN2.out]; dsimp only; rw [hn]; rfl)
                    obtain ⟨ch, rfl, hwr⟩ := wrong_panic hd
                    clear hn HRT
                    go_wp2_with fail
                    refine ⟨rfl, HSB.out.frm.then_ hFD, ?_⟩
                    rw [HRN.out]
                    exact hwr
                  | some pd =>
                    obtain ⟨d, tt⟩ := pd
                    rw [hn] at hd
                    obtain ⟨x, jd, rfl, hN, hPD, rfl, hjd⟩ := hd
                    have HSD := hid (HSB.out.on hFD hPD)
                    have HKD : Hid (∀ a, wd.cell? ⟨G, a, none⟩ = (#[.string ⟨s.s.toArray⟩, .int .i64 0, .string ⟨#[]⟩, .slice none 0 0] : Array Value)[a]?) := hid fun a => (hFD.cell (p := ⟨G, a, none⟩) hsb (fun e => hpG e)).trans (HKB.out a)
                    have hzd : ∀ a, wd.frozen? ⟨G, a, none⟩ = false := fun a => (hFD.frozen (p := ⟨G, a, none⟩) hsb (fun e => hpG e)).trans (HZB.out a)
                    have hsd := Nat.lt_of_lt_of_le hsb hFD.size
                    have HN3 := hid hn
                    have HJD := hid hjd
                    have HTB : Hid (T ≤ wb.heap.size) := hid HSB.out.tz
                    have k0 : wd.cell? ⟨G, 0, none⟩ = some (.string ⟨s.s.toArray⟩) := HKD.out 0
                    have k1 : wd.cell? ⟨G, 1, none⟩ = some (.int .i64 0) := HKD.out 1
                    have k2 : wd.cell? ⟨G, 2, none⟩ = some (.string ⟨#[]⟩) := HKD.out 2
                    have k3 : wd.cell? ⟨G, 3, none⟩ = some (.slice none 0 0) := HKD.out 3
                    have hq := four_cells (w := wd) (G := G) (a := .int .i64 (x.k : Int)) (b := .string ⟨x.s.toArray⟩) (c := .slice x.ao x.n x.c) k0 k1 k2 k3
                    have hfq : Frm (One G) wd (((wd.setCell ⟨G, 1, none⟩ (.int .i64 (x.k : Int))).setCell ⟨G, 2, none⟩ (.string ⟨x.s.toArray⟩)).setCell ⟨G, 3, none⟩ (.slice x.ao x.n x.c)) := (frmOne.then_ frmOne).then_ frmOne
                    have HSE2 := hid (HSD.out.far HTG.out hfq)
                    have HNE2 := hid (NdR.frm hfq (fun k hk _ e => by have e : k = G := e; omega) _ _ hN)
                    have hqs := hfq.size
                    unfold nvA
                    have HQQ := hid hq
                    have HZD : Hid (∀ a, (((wd.setCell ⟨G, 1, none⟩ (.int .i64 (x.k : Int))).setCell ⟨G, 2, none⟩ (.string ⟨x.s.toArray⟩)).setCell ⟨G, 3, none⟩ (.slice x.ao x.n x.c)).frozen? ⟨G, a, none⟩ = false) := hid fun a => by rw [World.frozen?_setCell, World.frozen?_setCell, World.frozen?_setCell]; exact hzd a
                    clear hn hFD hPD HSB HKB HZB HSD HKD hjd hN hfq hq
                    go_upto_region 14 with fail
                    clear k0 k1 k2 k3 hzd
                    generalize ((wd.setCell ⟨G, 1, none⟩ (.int .i64 (x.k : Int))).setCell ⟨G, 2, none⟩ (.string ⟨x.s.toArray⟩)).setCell ⟨G, 3, none⟩ (.slice x.ao x.n x.c) = WE at *
                    go_wp2_with fail
                    refine (ptake_any p g cap tl jd 0 59 _ HSE2.out.par).mono ?_
                    intro e wf hf
                    cases hn : Gr.take 59 (rest tl jd) with
                    | none =>
                      rw [hn] at hf
                      obtain ⟨hFF, hwr⟩ := hf
                      have HRN : Hid (R = none) := hid (by rw [← HRT.out]; unfold Gr.pRule; rw [HN1.out]; dsimp only; rw [HN2.out]; dsimp only; rw [HN3.out]; dsimp only; rw [hn]; rfl)
                      obtain ⟨ch, rfl, hwr⟩ := wrong_panic hwr
                      clear hn HRT
                      go_wp2_with fail
                      refine ⟨rfl, HSE2.out.frm.then_ hFF, ?_⟩
                      rw [HRN.out]
                      exact hwr
                    | some tt =>
                      rw [hn] at hf
                      obtain ⟨hFF, rfl, rfl, hPF⟩ := hf
                      have HRF : Hid ((Gr.pRules m' ([] ++ [(s.s, d)]) (rest tl (jd + 1))).map (Gr.startOf st) = R) := hid (by rw [← HRT.out]; unfold Gr.pRule; rw [HN1.out]; dsimp only; rw [HN2.out]; dsimp only; rw [HN3.out]; dsimp only; rw [hn]; rfl)
                      have HSF := hid (HSE2.out.on hFF hPF)
                      have hGe : G < WE.heap.size := by omega
                      have k0 := (hFF.cell (p := ⟨G, 0, none⟩) hGe (fun e => hpG e)).trans HQQ.out.1
                      have k1 := (hFF.cell (p := ⟨G, 1, none⟩) hGe (fun e => hpG e)).trans HQQ.out.2.1
                      have k2 := (hFF.cell (p := ⟨G, 2, none⟩) hGe (fun e => hpG e)).trans HQQ.out.2.2.1
                      have k3 := (hFF.cell (p := ⟨G, 3, none⟩) hGe (fun e => hpG e)).trans HQQ.out.2.2.2
                      have HNF := hid (NdR.frm hFF (fun k hk _ e => by have e : k = p := e; have := HG9.out; omega) _ _ HNE2.out)
                      have f1 := HSF.out.f1
                      have fz := HSF.out.fz
                      have hown := HSF.out.its.own
                      have HP2 := hid (HSF.out.par)
                      have hszf : F + 2 ≤ wf.heap.size := by have := HSF.out.sz; have := HSF.out.tz; omega
                      have HPZ : Hid (p < F) := hid hpF
                      have hb1 : ¬ (Value.slice ao ([] : List Rv).length c).ownBlock = some (F + 1) := fun e => by have := (hown.lt _ e).1; omega
                      obtain ⟨i0, gi, gz0, gz1, gz2⟩ := info_parts info_rule
                      clear hn HRT hFF hPF HSE2 HNE2 HQQ HZD HN1 HN2 HN3
                      go_wp2_with (at_builtin; go_must (refine wpList_push _ rfl _ _ 23 rfl (F + 2) 43 i0 _ 4 64 Tryd.underlying23 gi gz0 gz1 gz2 rfl (.slice ao ([] : List Rv).length c) ([] : List Rv).length (rows rvC ([] : List Rv)) rfl hown [.string ⟨s.s.toArray⟩, .int .i64 (x.k : Int), .string ⟨x.s.toArray⟩, .slice x.ao x.n x.c] rfl rfl (rv_shp.one ⟨s.s, x⟩) (by have := HL64.out; omega) (by have := HL64.out; omega) (by omega) ?_); intro v7 wg hown7 hd7 hv7 hs7; obtain ⟨ao7, c7, rfl⟩ := ownsRow_shape hown7; have q1 := (hd7.cell (p := ⟨F + 1, 1, none⟩) (by show F + 1 < _; omega) hb1).trans f1; have qz := fun a => (hd7.frozen (p := ⟨F + 1, a, none⟩) (by show F + 1 < _; omega) hb1).trans (fz a))
                      go_wp2_with fail
                      have hG := HSF.out.push (a := (s.s, d)) (r := ⟨s.s, x⟩) rfl HNF.out HTB.out hown7 hd7 hv7
                      have hGl := hG.par.lt
                      refine ⟨⟨m', jd + 1, wg.heap.size, .slice ao7 (([] : List Rv).length + 1) c7, [] ++ [(s.s, d)], ([] : List Rv) ++ [⟨s.s, x⟩], ?_, HRF.out, ?_, ?_, hG⟩, ?_⟩
                      · have := HMJ.out
                        have := HJD.out
                        omega
                      · simp
                      · rw [List.length_append]
                        show _ + 1 ≤ 64
                        have := HL64.out
                        have := HRL.out
                        omega
                      · have e7 : posOf p (wg.setCell ⟨F + 1, 1, none⟩ (.slice ao7 (([] : List Rv).length + 1) c7)) = jd + 1 := by unfold posOf; rw [hG.par.c1]; rfl
                        show _ - posOf p (wg.setCell ⟨F + 1, 1, none⟩ (.slice ao7 (([] : List Rv).length + 1) c7)) < _
                        rw [e7, hp1]
                        have := HJD.out
                        omega
            · have z1 : (((tk : Nat) : Int) == 1) = false := by rw [beq_eq_false_iff_ne]; omega
              have HN1 : Hid (Gr.name (rest tl j) = none) := hid (by rw [HNM.out, if_neg (fun e => hk1 (hsk1.symm.trans e))])
              have HRN : Hid (R = none) := hid (by
                have e1 : Gr.pRule (rest tl j) = none := by unfold Gr.pRule; rw [HN1.out]
                rw [← HQ.out, if_neg h0, if_neg HN4.out, e1]
                by_cases h64 : ([] : List (List UInt8 × Gr.Nd)).length = 64
                · rw [if_pos h64]; rfl
                · rw [if_neg h64]; rfl)
              clear h8 h0 hst hsk1 hk1 hF8 HS HQ HNM HT HSE HN4
              go_wp2_with fail
              refine (pname_any p g cap tl j 0 _ HS8.out.par).mono ?_
              intro e w9 h9
              rw [HN1.out] at h9
              obtain ⟨hF9, hwr⟩ := h9
              obtain ⟨ch, rfl, hwr⟩ := wrong_panic hwr
              go_wp2_with fail
              refine ⟨rfl, HS8.out.frm.then_ hF9, ?_⟩
              rw [HRN.out]
              exact hwr
        | cons a0 al =>
          have HNE : Hid (acc ≠ []) := hid (by rw [hacc]; simp)
          rw [← hacc]
          have hie : acc.isEmpty = false := by rw [hacc]; rfl
          rw [hie]
          clear hacc hie
          go_wp2_with fail
          refine (peek_any p g cap tl j 0 _ HS.out.par).mono ?_
          intro e w7 h7
          rw [HT.out, HSE.out] at h7
          rcases peeked_or h7 with ⟨h0, hwr, hF7⟩ | ⟨h0, rfl, hst, hF7⟩
          · have HRN : Hid (R = none) := hid (by rw [← HQ.out, if_pos h0]; rfl)
            obtain ⟨ch, rfl, hwr⟩ := wrong_panic hwr
            clear h7
            go_wp2_with fail
            refine ⟨rfl, HS.out.frm.then_ hF7, ?_⟩
            rw [HRN.out]
            exact hwr
          · have HS7 := hid (HS.out.no hF7)
            simp only [tokA]
            have HST := hid hst
            have hsk : s.k = tk := by rw [hst]
            by_cases hk4 : tk = 4
            · have hk5 : s.k = 4 := hsk.trans hk4
              have HRS : Hid (R = some (Gr.startOf st acc)) := hid (by rw [← HQ.out, if_neg h0, if_pos ⟨hk5, HNE.out⟩]; rfl)
              have z4 : (((tk : Nat) : Int) == 4) = true := by rw [hk4]; rfl
              have z4' : (((tk : Nat) : Int) != 4) = false := by rw [hk4]; rfl
              clear h7 h0 hst hsk hk4 hk5 hF7 HS HQ HNM HT HSE
              have f0 := HS7.out.f0
              have f1 := HS7.out.f1
              have fz := HS7.out.fz
              have e0 := HS7.out.e0
              have e1 := HS7.out.e1
              have ez := HS7.out.ez
              obtain ⟨a0', al', hac'⟩ := List.exists_cons_of_ne_nil HNE.out
              obtain ⟨r0, ys, hrs, hn0, -⟩ : ∃ (r : Rv) (ys : List Rv), rs = r :: ys ∧ r.nm = a0'.1 ∧ True := by
                have hk := HS7.out.its.kids
                rw [hac'] at hk
                obtain ⟨r, ys, e, hn, -⟩ := hk
                exact ⟨r, ys, e, hn, trivial⟩
              have HN0 := hid hn0
              have HAC' := hid hac'
              have hown := HS7.out.its.own
              rw [hrs] at hown
              obtain ⟨q, rfl, hq0⟩ := own_first hown
              have hlen : 0 < rs.length := by rw [hrs, List.length_cons]; omega
              have HRSS := hid hrs
              clear hn0 hac' hown hrs
              by_cases hst0 : st = []
              · subst hst0
                go_wp2_with fail
                refine bodyPost_ret (v := .agg #[.string ⟨r0.nm.toArray⟩, .slice (some ⟨q, 0, none⟩) rs.length c]) (by simp [results, Tryd.results11, go_sem, e0, e1]) rfl ?_
                have hz := HS7.out.done (WZ := ((w7.setCell ⟨F + 1, 0, none⟩ (.string ⟨r0.nm.toArray⟩)).setCell ⟨F, 0, none⟩ (.string ⟨r0.nm.toArray⟩)).setCell ⟨F, 1, none⟩ (.slice (some ⟨q, 0, none⟩) rs.length c)) r0.nm (((frmOne.weak (fun _ _ e => Or.inr e)).then_ (frmOne.weak (fun _ _ e => Or.inl e))).then_ (frmOne.weak (fun _ _ e => Or.inl e)))
                refine ⟨hz.1, ?_⟩
                rw [HRS.out]
                refine ⟨_, rfl, ?_⟩
                have e9 : Gr.startOf [] acc = (r0.nm, acc) := by
                  rw [HAC'.out, HN0.out]
                  rfl
                rw [e9]
                exact hz.2
              · have zst : (st == []) = false := by rw [beq_eq_false_iff_ne]; exact hst0
                go_wp2_with fail
                refine bodyPost_ret (v := .agg #[.string ⟨st.toArray⟩, .slice (some ⟨q, 0, none⟩) rs.length c]) (by simp [results, Tryd.results11, go_sem, e0, e1]) rfl ?_
                have hz := HS7.out.done (WZ := (w7.setCell ⟨F, 0, none⟩ (.string ⟨st.toArray⟩)).setCell ⟨F, 1, none⟩ (.slice (some ⟨q, 0, none⟩) rs.length c)) st ((frmOne.weak (fun _ _ e => Or.inl e)).then_ (frmOne.weak (fun _ _ e => Or.inl e)))
                refine ⟨hz.1, ?_⟩
                rw [HRS.out]
                refine ⟨_, rfl, ?_⟩
                have e9 : Gr.startOf st acc = (st, acc) := by unfold Gr.startOf; rw [if_neg hst0]
                rw [e9]
                exact hz.2
            · have HN4 : Hid (¬ (s.k = 4 ∧ acc ≠ [])) := hid (fun e => hk4 (hsk.symm.trans e.1))
              have z4 : (((tk : Nat) : Int) == 4) = false := by rw [beq_eq_false_iff_ne]; omega
              have z4' : (((tk : Nat) : Int) != 4) = true := by rw [bne_iff_ne]; omega
              clear h7 h0 hst hsk hk4 hF7 HS
              have HS := HS7
              clear HS7
              go_wp2_with fail
              refine (peek_any p g cap tl j 0 _ HS.out.par).mono ?_
              intro e w8 h8
              rw [HT.out, HSE.out] at h8
              rcases peeked_or h8 with ⟨h0, hwr, hF8⟩ | ⟨h0, rfl, hst, hF8⟩
              · have HRN : Hid (R = none) := hid (by rw [← HQ.out, if_pos h0]; rfl)
                obtain ⟨ch, rfl, hwr⟩ := wrong_panic hwr
                clear h8
                go_wp2_with fail
                refine ⟨rfl, HS.out.frm.then_ hF8, ?_⟩
                rw [HRN.out]
                exact hwr
              · have HS8 := hid (HS.out.no hF8)
                simp only [tokA]
                have hsk1 : s.k = tk := by rw [hst]
                by_cases hk1 : tk = 1
                · have z1 : (((tk : Nat) : Int) == 1) = true := by rw [hk1]; rfl
                  have f1 := HS8.out.f1
                  by_cases h64 : rs.length = 64
                  · have z64 : (((rs.length : Nat) : Int) == 64) = true := by rw [h64]; rfl
                    have HRN : Hid (R = none) := hid (by rw [← HQ.out, if_neg h0, if_neg HN4.out, if_pos (by rw [← HRL.out]; exact h64)]; rfl)
                    clear h8 h0 hst hsk1 hk1 hF8 h64
                    go_wp2_with fail
                    refine (pfail_any p g cap tl j 0 6 _ HS8.out.par (by decide)).mono ?_
                    rintro e w9 ⟨⟨x, y, z, hz, rfl⟩, hF9⟩
                    go_wp2_with fail
                    refine ⟨rfl, HS8.out.frm.then_ hF9, ?_⟩
                    rw [HRN.out]
                    exact ⟨x, y, z, hz, rfl⟩
                  · have z64 : (((rs.length : Nat) : Int) == 64) = false := by rw [beq_eq_false_iff_ne]; omega
                    have HRT : Hid ((match Gr.pRule (rest tl j) with | none => none | some (x, r1) => Gr.pRules m' (acc ++ [x]) r1).map (Gr.startOf st) = R) := hid (by rw [← HQ.out, if_neg h0, if_neg HN4.out, if_neg (by rw [← HRL.out]; exact h64)])
                    have HN1 : Hid (Gr.name (rest tl j) = some (s.s, rest tl (j + 1))) := hid (by rw [HNM.out, if_pos (hsk1.trans hk1)])
                    have HL64 : Hid (rs.length < 64) := hid (by have := HRL.out; have := HAC.out; omega)
                    clear h8 h0 hst hsk1 hk1 hF8 h64 HS HQ HNM HT HSE HN4
                    go_wp2_with fail
                    refine (pname_any p g cap tl j 0 _ HS8.out.par).mono ?_
                    intro e w9 h9
                    rw [HN1.out] at h9
                    obtain ⟨hF9, rfl, -, hP9⟩ := h9
                    clear f1 z1 z64
                    have HS9 := hid (HS8.out.on hF9 hP9)
                    clear hF9 hP9 HS8
                    have HTG : Hid (T ≤ w9.heap.size) := hid HS9.out.tz
                    have HG9 : Hid (p < w9.heap.size ∧ F + 2 ≤ w9.heap.size) := hid ⟨by have := HS9.out.pz; have := HS9.out.sz; have := HS9.out.tz; omega, by have := HS9.out.sz; have := HS9.out.tz; omega⟩
                    have hFA : Frm No w9 (w9.alloc (.cells #[.string ⟨s.s.toArray⟩, .int .i64 0, .string ⟨#[]⟩, .slice none 0 0] 43)) := (Frm.refl No w9).alloc _
                    have HSA := hid (HS9.out.no hFA)
                    have hka : ∀ a, (w9.alloc (.cells #[.string ⟨s.s.toArray⟩, .int .i64 0, .string ⟨#[]⟩, .slice none 0 0] 43)).cell? ⟨w9.heap.size, a, none⟩ = (#[.string ⟨s.s.toArray⟩, .int .i64 0, .string ⟨#[]⟩, .slice none 0 0] : Array Value)[a]? := fun a => World.cell?_alloc_at _ _ _ _ rfl
                    have hza : ∀ a, (w9.alloc (.cells #[.string ⟨s.s.toArray⟩, .int .i64 0, .string ⟨#[]⟩, .slice none 0 0] 43)).frozen? ⟨w9.heap.size, a, none⟩ = false := fun a => World.frozen?_alloc_at _ _ _ _ rfl
                    have hsa : w9.heap.size < (w9.alloc (.cells #[.string ⟨s.s.toArray⟩, .int .i64 0, .string ⟨#[]⟩, .slice none 0 0] 43)).heap.size := by rw [World.size_alloc]; exact Nat.lt_succ_self _
                    go_upto_region 12 with fail
                    generalize w9.alloc (.cells #[.string ⟨s.s.toArray⟩, .int .i64 0, .string ⟨#[]⟩, .slice none 0 0] 43) = WA at *
                    obtain ⟨G, hG⟩ : ∃ G, w9.heap.size = G := ⟨_, rfl⟩
                    rw [hG] at hka hza hsa HTG HG9
                    simp only [hG]
                    clear hG hFA HS9
                    have HKA := hid hka
                    have HZA := hid hza
                    have hpG : ¬ G = p := by have := HG9.out; omega
                    clear hka hza
                    go_wp2_with fail
                    refine (ptake_any p g cap tl (j + 1) 0 58 _ HSA.out.par).mono ?_
                    intro e wb hb
                    cases hn : Gr.take 58 (rest tl (j + 1)) with
                    | none =>
                      rw [hn] at hb
                      obtain ⟨hFB, hwr⟩ := hb
                      have HRN : Hid (R = none) := hid (by rw [← HRT.out]; unfold Gr.pRule; rw [HN1.out]; dsimp only; rw [hn]; rfl)
                      obtain ⟨ch, rfl, hwr⟩ := wrong_panic hwr
                      clear hn HRT
                      go_wp2_with fail
                      refine ⟨rfl, HSA.out.frm.then_ hFB, ?_⟩
                      rw [HRN.out]
                      exact hwr
                    | some tt =>
                      rw [hn] at hb
                      obtain ⟨hFB, rfl, rfl, hPB⟩ := hb
                      have HSB := hid (HSA.out.on hFB hPB)
                      have HKB : Hid (∀ a, wb.cell? ⟨G, a, none⟩ = (#[.string ⟨s.s.toArray⟩, .int .i64 0, .string ⟨#[]⟩, .slice none 0 0] : Array Value)[a]?) := hid fun a => (hFB.cell (p := ⟨G, a, none⟩) hsa (fun e => hpG e)).trans (HKA.out a)
                      have HZB : Hid (∀ a, wb.frozen? ⟨G, a, none⟩ = false) := hid fun a => (hFB.frozen (p := ⟨G, a, none⟩) hsa (fun e => hpG e)).trans (HZA.out a)
                      have hsb := Nat.lt_of_lt_of_le hsa hFB.size
                      have HN2 := hid hn
                      clear hn hFB hPB HSA HKA HZA hsa
                      go_wp2_with fail
                      refine ((parse_all (Gr.fuel (rest tl (j + 1 + 1)))).1 p g cap tl (j + 1 + 1) 0 wb.heap.size wb HSB.out.par (by have := HSB.out.pz; have := HSB.out.sz; have := HSB.out.tz; omega) (Nat.le_refl _) (by unfold Gr.fuel; rw [rest_len]; omega)).mono ?_
                      intro e wd hd
                      obtain ⟨hFD, hd⟩ := hd
                      cases hn : Gr.pAlt (Gr.fuel (rest tl (j + 1 + 1))) 0 (rest tl (j + 1 + 1)) with
                      | none =>
                        rw [hn] at hd
                        have HRN : Hid (R = none) := hid (by rw [← HRT.out]; unfold Gr.pRule; rw [HN1.out]; dsimp only; rw [HN2.out]; dsimp only; rw [hn]; rfl)
                        obtain ⟨ch, rfl, hwr⟩ := wrong_panic hd
                        clear hn HRT
                        go_wp2_with fail
                        refine ⟨rfl, HSB.out.frm.then_ hFD, ?_⟩
                        rw [HRN.out]
                        exact hwr
                      | some pd =>
                        obtain ⟨d, tt⟩ := pd
                        rw [hn] at hd
                        obtain ⟨x, jd, rfl, hN, hPD, rfl, hjd⟩ := hd
                        have HSD := hid (HSB.out.on hFD hPD)
                        have HKD : Hid (∀ a, wd.cell? ⟨G, a, none⟩ = (#[.string ⟨s.s.toArray⟩, .int .i64 0, .string ⟨#[]⟩, .slice none 0 0] : Array Value)[a]?) := hid fun a => (hFD.cell (p := ⟨G, a, none⟩) hsb (fun e => hpG e)).trans (HKB.out a)
                        have hzd : ∀ a, wd.frozen? ⟨G, a, none⟩ = false := fun a => (hFD.frozen (p := ⟨G, a, none⟩) hsb (fun e => hpG e)).trans (HZB.out a)
                        have hsd := Nat.lt_of_lt_of_le hsb hFD.size
                        have HN3 := hid hn
                        have HJD := hid hjd
                        have HTB : Hid (T ≤ wb.heap.size) := hid HSB.out.tz
                        have k0 : wd.cell? ⟨G, 0, none⟩ = some (.string ⟨s.s.toArray⟩) := HKD.out 0
                        have k1 : wd.cell? ⟨G, 1, none⟩ = some (.int .i64 0) := HKD.out 1
                        have k2 : wd.cell? ⟨G, 2, none⟩ = some (.string ⟨#[]⟩) := HKD.out 2
                        have k3 : wd.cell? ⟨G, 3, none⟩ = some (.slice none 0 0) := HKD.out 3
                        have hq := four_cells (w := wd) (G := G) (a := .int .i64 (x.k : Int)) (b := .string ⟨x.s.toArray⟩) (c := .slice x.ao x.n x.c) k0 k1 k2 k3
                        have hfq : Frm (One G) wd (((wd.setCell ⟨G, 1, none⟩ (.int .i64 (x.k : Int))).setCell ⟨G, 2, none⟩ (.string ⟨x.s.toArray⟩)).setCell ⟨G, 3, none⟩ (.slice x.ao x.n x.c)) := (frmOne.then_ frmOne).then_ frmOne
                        have HSE2 := hid (HSD.out.far HTG.out hfq)
                        have HNE2 := hid (NdR.frm hfq (fun k hk _ e => by have e : k = G := e; omega) _ _ hN)
                        have hqs := hfq.size
                        unfold nvA
                        have HQQ := hid hq
                        have HZD : Hid (∀ a, (((wd.setCell ⟨G, 1, none⟩ (.int .i64 (x.k : Int))).setCell ⟨G, 2, none⟩ (.string ⟨x.s.toArray⟩)).setCell ⟨G, 3, none⟩ (.slice x.ao x.n x.c)).frozen? ⟨G, a, none⟩ = false) := hid fun a => by rw [World.frozen?_setCell, World.frozen?_setCell, World.frozen?_setCell]; exact hzd a
                        clear hn hFD hPD HSB HKB HZB HSD HKD hjd hN hfq hq
                        go_upto_region 14 with fail
                        clear k0 k1 k2 k3 hzd
                        generalize ((wd.setCell ⟨G, 1, none⟩ (.int .i64 (x.k : Int))).setCell ⟨G, 2, none⟩ (.string ⟨x.s.toArray⟩)).setCell ⟨G, 3, none⟩ (.slice x.ao x.n x.c) = WE at *
                        go_wp2_with fail
                        refine (ptake_any p g cap tl jd 0 59 _ HSE2.out.par).mono ?_
                        intro e wf hf
                        cases hn : Gr.take 59 (rest tl jd) with
                        | none =>
                          rw [hn] at hf
                          obtain ⟨hFF, hwr⟩ := hf
                          have HRN : Hid (R = none) := hid (by rw [← HRT.out]; unfold Gr.pRule; rw [HN1.out]; dsimp only; rw [HN2.out]; dsimp only; rw [HN3.out]; dsimp only; rw [hn]; rfl)
                          obtain ⟨ch, rfl, hwr⟩ := wrong_panic hwr
                          clear hn HRT
                          go_wp2_with fail
                          refine ⟨rfl, HSE2.out.frm.then_ hFF, ?_⟩
                          rw [HRN.out]
                          exact hwr
                        | some tt =>
                          rw [hn] at hf
                          obtain ⟨hFF, rfl, rfl, hPF⟩ := hf
                          have HRF : Hid ((Gr.pRules m' (acc ++ [(s.s, d)]) (rest tl (jd + 1))).map (Gr.startOf st) = R) := hid (by rw [← HRT.out]; unfold Gr.pRule; rw [HN1.out]; dsimp only; rw [HN2.out]; dsimp only; rw [HN3.out]; dsimp only; rw [hn]; rfl)
                          have HSF := hid (HSE2.out.on hFF hPF)
                          have hGe : G < WE.heap.size := by omega
                          have k0 := (hFF.cell (p := ⟨G, 0, none⟩) hGe (fun e => hpG e)).trans HQQ.out.1
                          have k1 := (hFF.cell (p := ⟨G, 1, none⟩) hGe (fun e => hpG e)).trans HQQ.out.2.1
                          have k2 := (hFF.cell (p := ⟨G, 2, none⟩) hGe (fun e => hpG e)).trans HQQ.out.2.2.1
                          have k3 := (hFF.cell (p := ⟨G, 3, none⟩) hGe (fun e => hpG e)).trans HQQ.out.2.2.2
                          have HNF := hid (NdR.frm hFF (fun k hk _ e => by have e : k = p := e; have := HG9.out; omega) _ _ HNE2.out)
                          have f1 := HSF.out.f1
                          have fz := HSF.out.fz
                          have hown := HSF.out.its.own
                          have HP2 := hid (HSF.out.par)
                          have hszf : F + 2 ≤ wf.heap.size := by have := HSF.out.sz; have := HSF.out.tz; omega
                          have HPZ : Hid (p < F) := hid hpF
                          have hb1 : ¬ (Value.slice ao rs.length c).ownBlock = some (F + 1) := fun e => by have := (hown.lt _ e).1; omega
                          obtain ⟨i0, gi, gz0, gz1, gz2⟩ := info_parts info_rule
                          clear hn HRT hFF hPF HSE2 HNE2 HQQ HZD HN1 HN2 HN3
                          go_wp2_with (at_builtin; go_must (refine wpList_push _ rfl _ _ 23 rfl (F + 2) 43 i0 _ 4 64 Tryd.underlying23 gi gz0 gz1 gz2 rfl (.slice ao rs.length c) rs.length (rows rvC rs) rfl hown [.string ⟨s.s.toArray⟩, .int .i64 (x.k : Int), .string ⟨x.s.toArray⟩, .slice x.ao x.n x.c] rfl rfl (rv_shp.one ⟨s.s, x⟩) (by have := HL64.out; omega) (by have := HL64.out; omega) (by omega) ?_); intro v7 wg hown7 hd7 hv7 hs7; obtain ⟨ao7, c7, rfl⟩ := ownsRow_shape hown7; have q1 := (hd7.cell (p := ⟨F + 1, 1, none⟩) (by show F + 1 < _; omega) hb1).trans f1; have qz := fun a => (hd7.frozen (p := ⟨F + 1, a, none⟩) (by show F + 1 < _; omega) hb1).trans (fz a))
                          go_wp2_with fail
                          have hG := HSF.out.push (a := (s.s, d)) (r := ⟨s.s, x⟩) rfl HNF.out HTB.out hown7 hd7 hv7
                          have hGl := hG.par.lt
                          refine ⟨⟨m', jd + 1, wg.heap.size, .slice ao7 (rs.length + 1) c7, acc ++ [(s.s, d)], rs ++ [⟨s.s, x⟩], ?_, HRF.out, ?_, ?_, hG⟩, ?_⟩
                          · have := HMJ.out
                            have := HJD.out
                            omega
                          · simp
                          · rw [List.length_append]
                            show _ + 1 ≤ 64
                            have := HL64.out
                            have := HRL.out
                            omega
                          · have e7 : posOf p (wg.setCell ⟨F + 1, 1, none⟩ (.slice ao7 (rs.length + 1) c7)) = jd + 1 := by unfold posOf; rw [hG.par.c1]; rfl
                            show _ - posOf p (wg.setCell ⟨F + 1, 1, none⟩ (.slice ao7 (rs.length + 1) c7)) < _
                            rw [e7, hp1]
                            have := HJD.out
                            omega
                · have z1 : (((tk : Nat) : Int) == 1) = false := by rw [beq_eq_false_iff_ne]; omega
                  have HN1 : Hid (Gr.name (rest tl j) = none) := hid (by rw [HNM.out, if_neg (fun e => hk1 (hsk1.symm.trans e))])
                  have HRN : Hid (R = none) := hid (by
                    have e1 : Gr.pRule (rest tl j) = none := by unfold Gr.pRule; rw [HN1.out]
                    rw [← HQ.out, if_neg h0, if_neg HN4.out, e1]
                    by_cases h64 : (acc : List (List UInt8 × Gr.Nd)).length = 64
                    · rw [if_pos h64]; rfl
                    · rw [if_neg h64]; rfl)
                  clear h8 h0 hst hsk1 hk1 hF8 HS HQ HNM HT HSE HN4
                  go_wp2_with fail
                  refine (pname_any p g cap tl j 0 _ HS8.out.par).mono ?_
                  intro e w9 h9
                  rw [HN1.out] at h9
                  obtain ⟨hF9, hwr⟩ := h9
                  obtain ⟨ch, rfl, hwr⟩ := wrong_panic hwr
                  go_wp2_with fail
                  refine ⟨rfl, HS8.out.frm.then_ hF9, ?_⟩
                  rw [HRN.out]
                  exact hwr
end Go.Proofs.YtebocnpbiiejmaaDoor
