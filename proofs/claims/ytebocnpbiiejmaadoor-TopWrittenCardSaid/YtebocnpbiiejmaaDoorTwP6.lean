/- The parser's rows. -/
import Derived.Test.YtebocnpbiiejmaaDoorTwP5
import Derived.Handy
import Derived.WalkSpells
namespace Go.Proofs.YtebocnpbiiejmaaDoor
open Go.RowKit
theorem tk_sg {t : Gr.Tk} {c : UInt8} (h3 : t.k = 3) (hs : t.s = [c]) : t = Gr.sg c := by
  obtain ⟨k, s⟩ := t
  cases h3
  cases hs
  rfl
theorem atom_step (n : Nat) (hA : AroundOK n) : AtomOK (n + 1) := by
  intro p g cap tl i o B w h hpB hBw hn
  have hlt := h.lt
  have hr := rest_cons hlt
  have hu : Gr.pAtom (n + 1) o (rest tl i) = (if (seenAt 4096 i tl[i].1).k = 0 then none
      else if (seenAt 4096 i tl[i].1).k = 1 then some (some (.mk 1 (seenAt 4096 i tl[i].1).s []), rest tl (i + 1))
      else if (seenAt 4096 i tl[i].1).k = 2 then some (some (.mk 2 (seenAt 4096 i tl[i].1).s []), rest tl (i + 1))
      else if seenAt 4096 i tl[i].1 = Gr.sg 40 then (Gr.pAround n o 41 (rest tl (i + 1))).map fun p => (some p.1, p.2)
      else if seenAt 4096 i tl[i].1 = Gr.sg 91 then (Gr.pAround n o 93 (rest tl (i + 1))).map fun p => (some (.mk 5 [] [p.1]), p.2)
      else if seenAt 4096 i tl[i].1 = Gr.sg 123 then (Gr.pAround n o 125 (rest tl (i + 1))).map fun p => (some (.mk 6 [] [p.1]), p.2)
      else some (none, rest tl i)) := by
    rw [hr, Gr.pAtom]
  rw [hu]
  by_cases h0 : (seenAt 4096 i tl[i].1).k = 0
  · rw [if_pos h0]
    exact atom_bad n p g cap tl i o B w h hpB hBw hlt _ rfl h0
  · rw [if_neg h0]
    have hs : seenAt 4096 i tl[i].1 = tl[i].1 := seen_k h0
    have hok := h0
    rw [hs]
    rw [hs] at h0
    by_cases h1 : tl[i].1.k = 1
    · rw [if_pos h1]
      exact atom_ref n p g cap tl i o B w h hpB hBw hlt _ rfl hok h1
    · rw [if_neg h1]
      by_cases h2 : tl[i].1.k = 2
      · rw [if_pos h2]
        exact atom_lit n p g cap tl i o B w h hpB hBw hlt _ rfl hok h2
      · rw [if_neg h2]
        by_cases h3 : tl[i].1 = Gr.sg 40
        · rw [if_pos h3]
          exact atom_paren n hA p g cap tl i o B w h hpB hBw hlt _ rfl hok (by rw [h3]; rfl) (by rw [h3]; rfl) hn
        · rw [if_neg h3]
          by_cases h4 : tl[i].1 = Gr.sg 91
          · rw [if_pos h4]
            exact atom_brack n hA p g cap tl i o B w h hpB hBw hlt _ rfl hok (by rw [h4]; rfl) (by rw [h4]; rfl) hn
          · rw [if_neg h4]
            by_cases h5 : tl[i].1 = Gr.sg 123
            · rw [if_pos h5]
              exact atom_brace n hA p g cap tl i o B w h hpB hBw hlt _ rfl hok (by rw [h5]; rfl) (by rw [h5]; rfl) hn
            · rw [if_neg h5]
              have hkk := h.tk.ks i hlt
              by_cases h6 : tl[i].1.k = 4
              · exact atom_end n p g cap tl i o B w h hpB hBw hlt _ rfl hok h6
              · have hk3 : tl[i].1.k = 3 := by omega
                refine atom_other n p g cap tl i o B w h hpB hBw hlt _ rfl hok hk3 ?_
                have hne : ∀ c : UInt8, tl[i].1 ≠ Gr.sg c → tl[i].1.s ≠ [c] := fun c hc e => hc (tk_sg hk3 e)
                intro c hc
                simp only [List.mem_cons, List.not_mem_nil, or_false] at hc
                rcases hc with rfl | rfl | rfl
                · exact hne 40 h3
                · exact hne 91 h4
                · exact hne 123 h5
theorem sg3_0 (w : World) : (Instr.index 125 (.agg #[.string ⟨#[63]⟩, .string ⟨#[42]⟩, .string ⟨#[43]⟩]) (.int .i64 0)).run Tryd.prog w = .ok (.string ⟨#[63]⟩) w := by kernel_rfl
theorem sg3_1 (w : World) : (Instr.index 125 (.agg #[.string ⟨#[63]⟩, .string ⟨#[42]⟩, .string ⟨#[43]⟩]) (.int .i64 1)).run Tryd.prog w = .ok (.string ⟨#[42]⟩) w := by kernel_rfl
theorem sg3_2 (w : World) : (Instr.index 125 (.agg #[.string ⟨#[63]⟩, .string ⟨#[42]⟩, .string ⟨#[43]⟩]) (.int .i64 2)).run Tryd.prog w = .ok (.string ⟨#[43]⟩) w := by kernel_rfl
theorem kid_ndq {w : World} {Q : Nat → Prop} {k : Nat} {d : Gr.Nd} {x : Nv} (hB : Q w.heap.size) (h : NdQ w Q d x) : NdQ (w.alloc (.cells #[.int .i64 (x.k : Int), .string ⟨x.s.toArray⟩, .slice x.ao x.n x.c] 41)) Q (.mk k [] [d]) ⟨k, [], some ⟨w.heap.size, 0, none⟩, 1, 1⟩ :=
  ⟨rfl, rfl, fun b hb => by have e : some w.heap.size = some b := hb; cases e; exact hB, [x], World.ownsRow_lit w #[.int .i64 (x.k : Int), .string ⟨x.s.toArray⟩, .slice x.ao x.n x.c] 1 (Nat.zero_le _) (by unfold maxLen; omega) rfl, ⟨x, [], rfl, NdQ.frm ((Frm.refl No w).alloc _) (fun _ _ _ h => h) d x h, rfl⟩⟩
theorem three_cells {w : World} {G : Nat} {a b c u0 u1 u2 : Value} (h0 : w.cell? ⟨G, 0, none⟩ = some u0) (h1 : w.cell? ⟨G, 1, none⟩ = some u1) (h2 : w.cell? ⟨G, 2, none⟩ = some u2) :
    (((w.setCell ⟨G, 0, none⟩ a).setCell ⟨G, 1, none⟩ b).setCell ⟨G, 2, none⟩ c).cell? ⟨G, 0, none⟩ = some a ∧ (((w.setCell ⟨G, 0, none⟩ a).setCell ⟨G, 1, none⟩ b).setCell ⟨G, 2, none⟩ c).cell? ⟨G, 1, none⟩ = some b ∧
    (((w.setCell ⟨G, 0, none⟩ a).setCell ⟨G, 1, none⟩ b).setCell ⟨G, 2, none⟩ c).cell? ⟨G, 2, none⟩ = some c := by
  have n01 : (⟨G, 0, none⟩ : Addr) ≠ ⟨G, 1, none⟩ := by simp
  have n02 : (⟨G, 0, none⟩ : Addr) ≠ ⟨G, 2, none⟩ := by simp
  have n12 : (⟨G, 1, none⟩ : Addr) ≠ ⟨G, 2, none⟩ := by simp
  refine ⟨?_, ?_, ?_⟩
  · rw [World.cell?_setCell_other _ _ _ _ n02.symm, World.cell?_setCell_other _ _ _ _ n01.symm]
    exact World.cell?_setCell_same _ _ _ h0
  · rw [World.cell?_setCell_other _ _ _ _ n12.symm]
    exact World.cell?_setCell_same _ _ _ ((World.cell?_setCell_other _ _ _ _ n01).trans h1)
  · exact World.cell?_setCell_same _ _ _ ((World.cell?_setCell_other _ _ _ _ n12).trans ((World.cell?_setCell_other _ _ _ _ n02).trans h2))
/-- trees under way, with a block aside -/
structure Itz (w : World) (B : Nat) (v : Value) (acc : List Gr.Nd) (xs : List Nv) (G : Nat) : Prop where
  own : w.ownsRow B 41 3 v xs.length (rows nvC xs)
  ob : v.ownBlock ≠ some G
  kids : NdRs w (fun k => B ≤ k ∧ v.ownBlock ≠ some k ∧ k ≠ G) acc xs
theorem Itz.of {w : World} {B : Nat} {v : Value} {acc : List Gr.Nd} {xs : List Nv} (h : Its w B v acc xs) : Itz w B v acc xs w.heap.size :=
  ⟨h.own, fun e => by have := (h.own.lt _ e).2; omega, NdRs.mono (fun k hk hlt => ⟨hk.1, hk.2, by omega⟩) _ _ h.kids⟩
theorem Itz.frm {w w1 : World} {B G : Nat} {v : Value} {acc : List Gr.Nd} {xs : List Nv} {S : Nat → Prop} (h : Itz w B v acc xs G) (hf : Frm S w w1) (hS : ∀ k, B ≤ k → k < w.heap.size → k ≠ G → ¬ S k) : Itz w1 B v acc xs G :=
  ⟨hf.row h.own (fun k hk => hS k (h.own.lt k hk).1 (h.own.lt k hk).2 (fun e => h.ob (e ▸ hk))), h.ob, NdRs.frm hf (fun k hk hlt => hS k hk.1 hlt hk.2.2) acc xs h.kids⟩
theorem Itz.its {w : World} {B G : Nat} {v : Value} {acc : List Gr.Nd} {xs : List Nv} (h : Itz w B v acc xs G) : Its w B v acc xs := ⟨h.own, NdRs.mono (fun _k hk _ => ⟨hk.1, hk.2.1⟩) _ _ h.kids⟩
set_option maxRecDepth 100000 in
set_option maxHeartbeats 8000000 in
theorem row_step (n : Nat) (hA : ∀ m, m ≤ n → AtomOK m) : RowOK (n + 1) := by
  intro p g cap tl i o B w h hpB hBw hn
  have hl := h.tk.len
  obtain ⟨R, hR⟩ : ∃ R, Gr.pRow (n + 1) o [] (rest tl i) = R := ⟨_, rfl⟩
  rw [hR]
  have HR := hid hR
  have HH := hid h
  have HN := hid hn
  have HL := hid hl
  have HBW := hid hBw
  have HPB := hid hpB
  have HSZ := hid h.size
  have hFp : ¬ w.heap.size = p := by have := h.size; omega
  clear hR h hn hl hBw hpB
  go_enter Tryd.func60, Tryd.ntmps60
  go_wp2_with fail
  obtain ⟨F, hFe⟩ : ∃ F, w.heap.size = F := ⟨_, rfl⟩
  have hf1 : ∀ j, (w.alloc (.cells #[.int .i64 0, .string ⟨#[]⟩, .slice none 0 0] 41)).cell? ⟨F, j, none⟩ = (#[.int .i64 0, .string ⟨#[]⟩, .slice none 0 0] : Array Value)[j]? := fun j => by rw [← hFe]; exact World.cell?_alloc_at _ _ _ _ rfl
  have hz1 : ∀ j, (w.alloc (.cells #[.int .i64 0, .string ⟨#[]⟩, .slice none 0 0] 41)).frozen? ⟨F, j, none⟩ = false := fun j => by rw [← hFe]; exact World.frozen?_alloc_at _ _ _ _ rfl
  have hF1 : Frm No w (w.alloc (.cells #[.int .i64 0, .string ⟨#[]⟩, .slice none 0 0] 41)) := (Frm.refl No w).alloc _
  have hs1 : (w.alloc (.cells #[.int .i64 0, .string ⟨#[]⟩, .slice none 0 0] 41)).heap.size = F + 1 := by rw [World.size_alloc, hFe]
  obtain ⟨W1, hW1⟩ : ∃ W1, w.alloc (.cells #[.int .i64 0, .string ⟨#[]⟩, .slice none 0 0] 41) = W1 := ⟨_, rfl⟩
  rw [hW1] at hf1 hz1 hF1 hs1
  rw [hFe] at hFp
  have HFE := hid hFe
  try simp only [hW1, hFe]
  have HP1 := hid (HH.out.frm hF1)
  have hpF : ¬ p = F := fun e => hFp e.symm
  clear hFe hW1
  go_loopw [3] (fun v wr => ∃ (m j : Nat) (acc : List Gr.Nd) (xs : List Nv), m ≤ n + 1 ∧ 4 * (tl.length - j) + 2 ≤ m ∧ Gr.pRow m o acc (rest tl j) = R ∧ i ≤ j ∧ acc.length ≤ j ∧ Par wr p g cap tl j o ∧ Its wr (F + 1) v acc xs ∧ Frm (One p) W1 wr) (fun _ wr => tl.length - posOf p wr)
  case atStart => exact ⟨n + 1, i, [], [], Nat.le_refl _, by have := HN.out; omega, HR.out, Nat.le_refl _, Nat.zero_le _, HP1.out, Its.nil _ _, Frm.refl _ _⟩
  case round =>
    obtain ⟨m, j, acc, xs, hmn, hmj, hal, hij, hne, hP, hI, hG⟩ := hrel
    obtain ⟨m', rfl⟩ : ∃ m', m = m' + 1 := ⟨m - 1, by omega⟩
    rw [Gr.pRow] at hal
    have hp1 : posOf p wr = j := by unfold posOf; rw [hP.c1]; rfl
    have HAL := hid hal
    have HG := hid hG
    have HI := hid hI
    have hFF : ∀ a, wr.cell? ⟨F, a, none⟩ = (#[.int .i64 0, .string ⟨#[]⟩, .slice none 0 0] : Array Value)[a]? := fun a => (hG.cell (p := ⟨F, a, none⟩) (by show F < _; omega) (fun e => hFp e)).trans (hf1 a)
    have hZZ : ∀ a, wr.frozen? ⟨F, a, none⟩ = false := fun a => (hG.frozen (p := ⟨F, a, none⟩) (by show F < _; omega) (fun e => hFp e)).trans (hz1 a)
    have hsr := hG.size
    have HPR := hid hP
    have hltj := hP.lt
    have hgp := hP.gp
    clear hal hG hP hf1 hz1 hI
    go_wp2_with fail
    refine (hA m' (by omega) p g cap tl j o wr.heap.size wr HPR.out (by have := HSZ.out; have := HFE.out; omega) (Nat.le_refl _) (by omega)).mono ?_
    intro e w4 hp4
    obtain ⟨hF4, hp4⟩ := hp4
    have HG4 := hid (HG.out.then_ hF4)
    have hs4 := hF4.size
    have hf4 : ∀ a, w4.cell? ⟨F, a, none⟩ = (#[.int .i64 0, .string ⟨#[]⟩, .slice none 0 0] : Array Value)[a]? := fun a => (hF4.cell (p := ⟨F, a, none⟩) (by show F < _; omega) (fun e => hFp e)).trans (hFF a)
    have hz4 : ∀ a, w4.frozen? ⟨F, a, none⟩ = false := fun a => (hF4.frozen (p := ⟨F, a, none⟩) (by show F < _; omega) (fun e => hFp e)).trans (hZZ a)
    have hI4 := HI.out.frm hF4 (fun k hk _ e => by have e : k = p := e; have := HSZ.out; have := HFE.out; omega)
    cases ha : Gr.pAtom m' o (rest tl j) with
    | none =>
      rw [ha] at hp4
      have HRN : Hid (R = none) := hid (by rw [← HAL.out, ha])
      obtain ⟨ch, rfl, hwr⟩ := wrong_panic hp4
      clear ha HAL
      go_wp2_with fail
      refine ⟨rfl, hF1.trans HG4.out (fun _ _ h => h.elim) (fun _ _ h => h), ?_⟩
      rw [HRN.out]
      exact hwr
    | some pr =>
      obtain ⟨od, ts⟩ := pr
      rw [ha] at hp4
      cases od with
      | none =>
        obtain ⟨rfl, hP4, rfl⟩ := hp4
        have HRN : Hid (R = some (Gr.one 3 acc, rest tl j)) := hid (by rw [← HAL.out, ha])
        have HZ4 := hid (Frm.alloc (Frm.refl No w4) (.cells #[.int .i64 0, .string ⟨#[]⟩, .slice none 0 0] 41))
        have hI5 := hI4.frm HZ4.out (fun _ _ _ h => h)
        have HP5 := hid (hP4.frm HZ4.out)
        have HG5 := hid (HG4.out.thenNo HZ4.out)
        have hs5 : (w4.alloc (.cells #[.int .i64 0, .string ⟨#[]⟩, .slice none 0 0] 41)).heap.size = w4.heap.size + 1 := World.size_alloc _ _
        have hf5 : ∀ a, (w4.alloc (.cells #[.int .i64 0, .string ⟨#[]⟩, .slice none 0 0] 41)).cell? ⟨F, a, none⟩ = (#[.int .i64 0, .string ⟨#[]⟩, .slice none 0 0] : Array Value)[a]? := fun a => (HZ4.out.cell (p := ⟨F, a, none⟩) (by show F < _; omega) (fun h => h)).trans (hf4 a)
        have hz5 : ∀ a, (w4.alloc (.cells #[.int .i64 0, .string ⟨#[]⟩, .slice none 0 0] 41)).frozen? ⟨F, a, none⟩ = false := fun a => (HZ4.out.frozen (p := ⟨F, a, none⟩) (by show F < _; omega) (fun h => h)).trans (hz4 a)
        have f0 := hf5 0
        have f1 := hf5 1
        have f2 := hf5 2
        clear ha HAL hP4 HZ4 hFF hZZ hf4 hz4 hI4
        rw [show nvA ⟨0, [], none, 0, 0⟩ = .agg #[.int .i64 0, .string ⟨#[]⟩, .slice none 0 0] from rfl]
        by_cases h1 : xs.length = 1
        · obtain ⟨x1, hx1⟩ : ∃ x1, xs = [x1] := List.length_eq_one_iff.mp h1
          obtain ⟨d1, hd1⟩ : ∃ d1, acc = [d1] := List.length_eq_one_iff.mp (by rw [← NdRs.len hI5.kids]; exact h1)
          subst hx1
          subst hd1
          obtain ⟨ao, c, rfl⟩ := ownsRow_shape hI5.own
          obtain ⟨q, rfl, hq1, hq2, k0, k1, k2⟩ := own_cells hI5.own
          obtain ⟨y, ys, hy1, hy2, hy3⟩ := hI5.kids
          have HKD : Hid (NdR (w4.alloc (.cells #[.int .i64 0, .string ⟨#[]⟩, .slice none 0 0] 41)) (F + 1) d1 x1) := hid (by cases hy1; exact NdQ.mono (fun k hk _ => hk.1) _ _ hy2)
          clear hI5 hy1 hy2 hy3 h1
          go_wp2_with fail
          refine bodyPost_ret (v := nvA x1) (by simp [results, Tryd.results60, go_sem, f0, f1, f2, nvA]) rfl ⟨?_, ?_⟩
          · exact (hF1.trans HG5.out (fun _ _ h => h.elim) (fun _ _ h => h)).trans (frm3 (F := F)) (fun _ _ h => h) (fun k hk e => by have e : k = F := e; have := HFE.out; omega)
          · rw [HRN.out]
            refine ⟨x1, j, rfl, ?_, ?_, rfl, hij⟩
            · exact NdR.base (by have := HBW.out; have := HFE.out; omega) _ _ (NdR.frm frm3 (fun k hk _ e => by have e : k = F := e; omega) _ _ HKD.out)
            · exact HP5.out.frmS frm3 (fun e => by have e : p = F := e; omega) (fun e => by have e : g = F := e; have := HSZ.out; have := HFE.out; omega)
        · obtain ⟨ao, c, rfl⟩ := ownsRow_shape hI5.own
          have zl : (((xs.length : Nat) : Int) == 1) = false := by rw [beq_eq_false_iff_ne]; omega
          have HNE : Hid (Gr.one 3 acc = .mk 3 [] acc) := hid (one_ne4 (by rw [← NdRs.len hI5.kids]; exact h1))
          have HKD := hid (Its.node (k := 3) hI5)
          clear hI5 h1
          go_wp2_with fail
          refine bodyPost_ret (v := nvA ⟨3, [], ao, xs.length, c⟩) (by simp [results, Tryd.results60, go_sem, f0, f1, f2, nvA]) rfl ⟨?_, ?_⟩
          · exact (hF1.trans HG5.out (fun _ _ h => h.elim) (fun _ _ h => h)).trans (frm3 (F := F)) (fun _ _ h => h) (fun k hk e => by have e : k = F := e; have := HFE.out; omega)
          · rw [HRN.out, HNE.out]
            refine ⟨⟨3, [], ao, xs.length, c⟩, j, rfl, ?_, ?_, rfl, hij⟩
            · exact NdR.base (by have := HBW.out; have := HFE.out; omega) _ _ (NdR.frm frm3 (fun k hk _ e => by have e : k = F := e; omega) _ _ HKD.out)
            · exact HP5.out.frmS frm3 (fun e => by have e : p = F := e; omega) (fun e => by have e : g = F := e; have := HSZ.out; have := HFE.out; omega)
      | some d6 =>
        obtain ⟨x6, j6, rfl, hN6, hP6, rfl, hj6⟩ := hp4
        have HRT : Hid ((match Gr.suf d6 (rest tl j6) with | none => none | some (d1, r1) => Gr.pRow m' o (acc ++ [d1]) r1) = R) := hid (by
          rw [← HAL.out, ha]
          dsimp only
          cases Gr.suf d6 (rest tl j6) <;> rfl)
        have hsuf := rest_cons (hP6.lt)
        obtain ⟨st, hst⟩ : ∃ st, seenAt 4096 j6 (tl[j6]'hP6.lt).1 = st := ⟨_, rfl⟩
        rw [hst] at hsuf
        have HSG : Hid (∀ c : UInt8, Gr.sign c (rest tl j6) = if st.k = 0 then none else some (decide (st = Gr.sg c))) := hid (fun c => by rw [hsuf]; rfl)
        have HSF : Hid (Gr.suf d6 (rest tl j6) = if st.k = 0 then none else if st = Gr.sg 63 then some (.mk 5 [] [d6], rest tl (j6 + 1)) else if st = Gr.sg 42 then some (.mk 6 [] [d6], rest tl (j6 + 1)) else if st = Gr.sg 43 then some (.mk 7 [] [d6], rest tl (j6 + 1)) else some (d6, rest tl j6)) := hid (by rw [hsuf]; rfl)
        have hlt6 := hP6.lt
        have HK4 : Hid (st.k = 3 → tl[j6].1.k ≠ 4) := hid (fun h3 => by
          have h4 := seen_k (n := 4096) (i := j6) (t := tl[j6].1) (by rw [hst]; omega)
          rw [hst] at h4
          rw [← h4]
          omega)
        have hA7 : Frm No w4 (w4.alloc (.cells #[.int .i64 (x6.k : Int), .string ⟨x6.s.toArray⟩, .slice x6.ao x6.n x6.c] 41)) := (Frm.refl No w4).alloc _
        have HP7 := hid (hP6.frm hA7)
        have HI7 := hid ((Itz.of hI4).frm hA7 (fun _ _ _ _ h => h))
        have HG7 := hid (HG4.out.thenNo hA7)
        have hs7 : (w4.alloc (.cells #[.int .i64 (x6.k : Int), .string ⟨x6.s.toArray⟩, .slice x6.ao x6.n x6.c] 41)).heap.size = w4.heap.size + 1 := World.size_alloc _ _
        have HN7 := hid (NdQ.frm hA7 (fun _ _ _ h => h) _ _ (NdQ.mono (Q' := fun k => F + 1 ≤ k ∧ u3.ownBlock ≠ some k ∧ k ≠ w4.heap.size) (fun k hk hlt => ⟨by have hk : wr.heap.size ≤ k := hk; omega, fun e => by have := (HI.out.own.lt k e).2; have hk : wr.heap.size ≤ k := hk; omega, by omega⟩) _ _ hN6))
        have hk7 : ∀ a, (w4.alloc (.cells #[.int .i64 (x6.k : Int), .string ⟨x6.s.toArray⟩, .slice x6.ao x6.n x6.c] 41)).cell? ⟨w4.heap.size, a, none⟩ = (#[.int .i64 (x6.k : Int), .string ⟨x6.s.toArray⟩, .slice x6.ao x6.n x6.c] : Array Value)[a]? := fun a => World.cell?_alloc_at _ _ _ _ rfl
        have hz7 : ∀ a, (w4.alloc (.cells #[.int .i64 (x6.k : Int), .string ⟨x6.s.toArray⟩, .slice x6.ao x6.n x6.c] 41)).frozen? ⟨w4.heap.size, a, none⟩ = false := fun a => World.frozen?_alloc_at _ _ _ _ rfl
        have HOV : Hid (∀ k, u3.ownBlock = some k → F + 1 ≤ k ∧ k < w4.heap.size) := hid (fun k hk => ⟨(hI4.own.lt k hk).1, (hI4.own.lt k hk).2⟩)
        have hxl : xs.length ≤ 65538 := by rw [NdRs.len hI4.kids]; have := HL.out; omega
        have HXL := hid hxl
        obtain ⟨i0, gi, gz0, gz1, gz2⟩ := info_parts info_node
        clear ha HAL hP6 hI4 hN6 hf4 hz4 hFF hZZ hsuf hst hxl hA7
        have ix0 := sg3_0
        have ix1 := sg3_1
        have ix2 := sg3_2
        unfold nvA
        by_cases h0 : st.k = 0
        · have HR0 : Hid (R = none) := hid (by rw [← HRT.out, HSF.out, if_pos h0])
          have HS0 : Hid (Gr.sign 63 (rest tl j6) = none) := hid (by rw [HSG.out, if_pos h0])
          clear h0 hk7 hz7
          go_wp2_with fail
          refine wp_loop_rounds 4 ?_
          rw [rounds_succ]
          go_wp2_with fail
          refine (psign_any p g cap tl j6 o 63 _ HP7.out).mono ?_
          intro e w8 h8
          rw [HS0.out] at h8
          obtain ⟨hwr, hF8⟩ := h8
          obtain ⟨ch, rfl, hwr⟩ := wrong_panic hwr
          go_wp2_with fail
          refine ⟨rfl, hF1.trans (HG7.out.then_ hF8) (fun _ _ h => h.elim) (fun _ _ h => h), ?_⟩
          rw [HR0.out]
          exact hwr
        · have HNZ := hid h0
          by_cases hq : st = Gr.sg 63
          · have hx : True := trivial
            have HS0 : Hid (Gr.sign 63 (rest tl j6) = some true) := hid (by rw [HSG.out, if_neg HNZ.out, _root_.decide_eq_true hq])
            have HRQ : Hid (Gr.pRow m' o (acc ++ [.mk 5 [] [d6]]) (rest tl (j6 + 1)) = R) := hid (by rw [← HRT.out, HSF.out, if_neg HNZ.out, if_pos hq])
            have HKK := hid (HK4.out (by rw [hq]; rfl))
            have HK6 := hid hk7
            have HZ6 := hid hz7
            clear HRT h0 hq hk7 hz7 HK4
            go_wp2_with fail
            refine wp_loop_rounds 4 ?_
            rw [rounds_succ]
            go_wp2_with fail
            refine (psign_any p g cap tl j6 o 63 _ HP7.out).mono ?_
            intro e w8 h8
            rw [HS0.out] at h8
            obtain ⟨rfl, hF8⟩ := h8
            have hs8 := hF8.size
            have HP8 := hid (HP7.out.frm hF8)
            have HI8 := hid (HI7.out.frm hF8 (fun _ _ _ _ h => h))
            have HG8 := hid (HG7.out.thenNo hF8)
            have HN8 := hid (NdQ.frm hF8 (fun _ _ _ h => h) _ _ HN7.out)
            have HK8 : Hid (∀ a, w8.cell? ⟨w4.heap.size, a, none⟩ = (#[.int .i64 (x6.k : Int), .string ⟨x6.s.toArray⟩, .slice x6.ao x6.n x6.c] : Array Value)[a]?) := hid fun a => (hF8.cell (p := ⟨w4.heap.size, a, none⟩) (by show w4.heap.size < _; omega) (fun h => h)).trans (HK6.out a)
            have HZ8 : Hid (∀ a, w8.frozen? ⟨w4.heap.size, a, none⟩ = false) := hid fun a => (hF8.frozen (p := ⟨w4.heap.size, a, none⟩) (by show w4.heap.size < _; omega) (fun h => h)).trans (HZ6.out a)
            clear hF8
            have c1 := HP8.out.c1
            have pf := HP8.out.f 1
            have hw := wrap_succ2 (n := j6) (by have := HL.out; omega)
            go_upto_region 9 with fail
            clear c1 pf hw
            have hGp : ¬ w4.heap.size = p := by have := HSZ.out; have := HFE.out; omega
            have HPW : Hid (Par (w8.setCell ⟨p, 1, none⟩ (.int .i64 ((j6 : Int) + 1))) p g cap tl (j6 + 1) o) := hid (HP8.out.step HKK.out)
            have hFW : Frm (One p) w8 (w8.setCell ⟨p, 1, none⟩ (.int .i64 ((j6 : Int) + 1))) := frmOne
            have HIW := hid (HI8.out.frm hFW (fun k hk _ _ e => by have e : k = p := e; have := HSZ.out; have := HFE.out; omega))
            have HGW := hid (HG8.out.then_ hFW)
            have HNW := hid (NdQ.frm hFW (fun k hk _ e => by have e : k = p := e; have := hk.1; have := HSZ.out; have := HFE.out; omega) _ _ HN8.out)
            have hKW : ∀ a, (w8.setCell ⟨p, 1, none⟩ (.int .i64 ((j6 : Int) + 1))).cell? ⟨w4.heap.size, a, none⟩ = (#[.int .i64 (x6.k : Int), .string ⟨x6.s.toArray⟩, .slice x6.ao x6.n x6.c] : Array Value)[a]? := fun a => (hFW.cell (p := ⟨w4.heap.size, a, none⟩) (by show w4.heap.size < _; omega) (fun e => hGp e)).trans (HK8.out a)
            have hZW : ∀ a, (w8.setCell ⟨p, 1, none⟩ (.int .i64 ((j6 : Int) + 1))).frozen? ⟨w4.heap.size, a, none⟩ = false := fun a => (hFW.frozen (p := ⟨w4.heap.size, a, none⟩) (by show w4.heap.size < _; omega) (fun e => hGp e)).trans (HZ8.out a)
            have hsW := hFW.size
            clear hFW
            have hs0 : w4.heap.size < (w8.setCell ⟨p, 1, none⟩ (.int .i64 ((j6 : Int) + 1))).heap.size := by omega
            clear hsW
            clear hs8
            clear HP8 HI8 HG8 HN8 HK8 HZ8
            generalize (w8.setCell ⟨p, 1, none⟩ (.int .i64 ((j6 : Int) + 1))) = W9 at *
            obtain ⟨G, hG⟩ : ∃ G, w4.heap.size = G := ⟨_, rfl⟩
            rw [hG] at hKW hZW hs0 HNW HIW
            simp only [hG]
            have HGE := hid hG
            clear hG
            have hpG : ¬ p = G := by have := HSZ.out; have := HFE.out; have := HGE.out; have := HOV; omega
            have r0 : (W9.alloc (.cells #[.int .i64 (x6.k : Int), .string ⟨x6.s.toArray⟩, .slice x6.ao x6.n x6.c] 41)).cell? ⟨G, 0, none⟩ = some (.int .i64 (x6.k : Int)) := (((Frm.refl No W9).alloc _).cell (p := ⟨G, 0, none⟩) hs0 (fun h => h)).trans (hKW 0)
            have r1 : (W9.alloc (.cells #[.int .i64 (x6.k : Int), .string ⟨x6.s.toArray⟩, .slice x6.ao x6.n x6.c] 41)).cell? ⟨G, 1, none⟩ = some (.string ⟨x6.s.toArray⟩) := (((Frm.refl No W9).alloc _).cell (p := ⟨G, 1, none⟩) hs0 (fun h => h)).trans (hKW 1)
            have r2 : (W9.alloc (.cells #[.int .i64 (x6.k : Int), .string ⟨x6.s.toArray⟩, .slice x6.ao x6.n x6.c] 41)).cell? ⟨G, 2, none⟩ = some (.slice x6.ao x6.n x6.c) := (((Frm.refl No W9).alloc _).cell (p := ⟨G, 2, none⟩) hs0 (fun h => h)).trans (hKW 2)
            have rz : ∀ a, (W9.alloc (.cells #[.int .i64 (x6.k : Int), .string ⟨x6.s.toArray⟩, .slice x6.ao x6.n x6.c] 41)).frozen? ⟨G, a, none⟩ = false := fun a => (((Frm.refl No W9).alloc _).frozen (p := ⟨G, a, none⟩) hs0 (fun h => h)).trans (hZW a)
            have k0 := hKW 0
            have k1 := hKW 1
            have k2 := hKW 2
            go_upto_region 11 with fail
            clear r0 r1 r2 rz hKW hZW
            have hFG : F + 1 ≤ G := by have := HGE.out; omega
            have hfA : Frm (One G) W9 (((W9.setCell ⟨G, 0, none⟩ (.int .i64 5)).setCell ⟨G, 1, none⟩ (.string ⟨#[]⟩)).setCell ⟨G, 2, none⟩ (.slice (some ⟨W9.heap.size, 0, none⟩) 1 1)) := frm3
            have hszA : (((W9.setCell ⟨G, 0, none⟩ (.int .i64 5)).setCell ⟨G, 1, none⟩ (.string ⟨#[]⟩)).setCell ⟨G, 2, none⟩ (.slice (some ⟨W9.heap.size, 0, none⟩) 1 1)).heap.size = W9.heap.size := by simp [World.setCell]
            have hfB : Frm No (((W9.setCell ⟨G, 0, none⟩ (.int .i64 5)).setCell ⟨G, 1, none⟩ (.string ⟨#[]⟩)).setCell ⟨G, 2, none⟩ (.slice (some ⟨W9.heap.size, 0, none⟩) 1 1)) ((((W9.setCell ⟨G, 0, none⟩ (.int .i64 5)).setCell ⟨G, 1, none⟩ (.string ⟨#[]⟩)).setCell ⟨G, 2, none⟩ (.slice (some ⟨W9.heap.size, 0, none⟩) 1 1)).alloc (.cells #[.int .i64 (x6.k : Int), .string ⟨x6.s.toArray⟩, .slice x6.ao x6.n x6.c] 41)) := (Frm.refl No _).alloc _
            have HI12 := hid ((HIW.out.frm hfA (fun k _ _ hk (e : k = G) => hk e)).frm hfB (fun _ _ _ _ h => h))
            have HP12 := hid ((HPW.out.frmS hfA (fun e => by have e : p = G := e; omega) (fun e => by have e : g = G := e; have := HSZ.out; have := HFE.out; omega)).frm hfB)
            have HG12 := hid ((HGW.out.trans (U := One p) hfA (fun _ _ h => h) (fun k hk e => by have e : k = G := e; omega)).thenNo hfB)
            have HN12 : Hid (NdQ ((((W9.setCell ⟨G, 0, none⟩ (.int .i64 5)).setCell ⟨G, 1, none⟩ (.string ⟨#[]⟩)).setCell ⟨G, 2, none⟩ (.slice (some ⟨W9.heap.size, 0, none⟩) 1 1)).alloc (.cells #[.int .i64 (x6.k : Int), .string ⟨x6.s.toArray⟩, .slice x6.ao x6.n x6.c] 41)) (fun k => F + 1 ≤ k ∧ u3.ownBlock ≠ some k ∧ k ≠ G) (.mk 5 [] [d6]) ⟨5, [], some ⟨W9.heap.size, 0, none⟩, 1, 1⟩) := hid (by
              have hh := kid_ndq (w := (((W9.setCell ⟨G, 0, none⟩ (.int .i64 5)).setCell ⟨G, 1, none⟩ (.string ⟨#[]⟩)).setCell ⟨G, 2, none⟩ (.slice (some ⟨W9.heap.size, 0, none⟩) 1 1))) (Q := fun k => F + 1 ≤ k ∧ u3.ownBlock ≠ some k ∧ k ≠ G) (k := 5) (d := d6) (x := x6) ⟨by omega, fun e => by have := (HIW.out.own.lt _ e).2; omega, by omega⟩ (NdQ.frm hfA (fun k hk _ e => hk.2.2 e) _ _ HNW.out)
              rw [hszA] at hh
              exact hh)
            have ht := three_cells (w := W9) (G := G) (a := .int .i64 5) (b := .string ⟨#[]⟩) (c := .slice (some ⟨W9.heap.size, 0, none⟩) 1 1) k0 k1 k2
            clear k0 k1 k2
            have hGA : G < (((W9.setCell ⟨G, 0, none⟩ (.int .i64 5)).setCell ⟨G, 1, none⟩ (.string ⟨#[]⟩)).setCell ⟨G, 2, none⟩ (.slice (some ⟨W9.heap.size, 0, none⟩) 1 1)).heap.size := by omega
            have k0 : ((((W9.setCell ⟨G, 0, none⟩ (.int .i64 5)).setCell ⟨G, 1, none⟩ (.string ⟨#[]⟩)).setCell ⟨G, 2, none⟩ (.slice (some ⟨W9.heap.size, 0, none⟩) 1 1)).alloc (.cells #[.int .i64 (x6.k : Int), .string ⟨x6.s.toArray⟩, .slice x6.ao x6.n x6.c] 41)).cell? ⟨G, 0, none⟩ = some (.int .i64 5) := (hfB.cell (p := ⟨G, 0, none⟩) hGA (fun h => h)).trans ht.1
            have k1 : ((((W9.setCell ⟨G, 0, none⟩ (.int .i64 5)).setCell ⟨G, 1, none⟩ (.string ⟨#[]⟩)).setCell ⟨G, 2, none⟩ (.slice (some ⟨W9.heap.size, 0, none⟩) 1 1)).alloc (.cells #[.int .i64 (x6.k : Int), .string ⟨x6.s.toArray⟩, .slice x6.ao x6.n x6.c] 41)).cell? ⟨G, 1, none⟩ = some (.string ⟨#[]⟩) := (hfB.cell (p := ⟨G, 1, none⟩) hGA (fun h => h)).trans ht.2.1
            have k2 : ((((W9.setCell ⟨G, 0, none⟩ (.int .i64 5)).setCell ⟨G, 1, none⟩ (.string ⟨#[]⟩)).setCell ⟨G, 2, none⟩ (.slice (some ⟨W9.heap.size, 0, none⟩) 1 1)).alloc (.cells #[.int .i64 (x6.k : Int), .string ⟨x6.s.toArray⟩, .slice x6.ao x6.n x6.c] 41)).cell? ⟨G, 2, none⟩ = some (.slice (some ⟨W9.heap.size, 0, none⟩) 1 1) := (hfB.cell (p := ⟨G, 2, none⟩) hGA (fun h => h)).trans ht.2.2
            have hs12 : G < ((((W9.setCell ⟨G, 0, none⟩ (.int .i64 5)).setCell ⟨G, 1, none⟩ (.string ⟨#[]⟩)).setCell ⟨G, 2, none⟩ (.slice (some ⟨W9.heap.size, 0, none⟩) 1 1)).alloc (.cells #[.int .i64 (x6.k : Int), .string ⟨x6.s.toArray⟩, .slice x6.ao x6.n x6.c] 41)).heap.size := Nat.lt_of_lt_of_le hGA hfB.size
            clear hfA hfB ht hszA hGA
            generalize (((W9.setCell ⟨G, 0, none⟩ (.int .i64 5)).setCell ⟨G, 1, none⟩ (.string ⟨#[]⟩)).setCell ⟨G, 2, none⟩ (.slice (some ⟨W9.heap.size, 0, none⟩) 1 1)).alloc (.cells #[.int .i64 (x6.k : Int), .string ⟨x6.s.toArray⟩, .slice x6.ao x6.n x6.c] 41) = W12 at *
            obtain ⟨M, hM⟩ : ∃ M, W9.heap.size = M := ⟨_, rfl⟩
            rw [hM] at k2 HN12
            simp only [hM]
            clear hM
            have hown12 := HI12.out.own
            go_wp2_with (at_builtin; go_must (refine wpList_push _ rfl _ _ 39 rfl (F + 1) 41 i0 _ 3 48 Tryd.underlying39 gi gz0 gz1 gz2 rfl u3 xs.length (rows nvC xs) rfl hown12 [.int .i64 5, .string ⟨#[]⟩, .slice (some ⟨M, 0, none⟩) 1 1] rfl rfl (nv_shp.one ⟨5, [], some ⟨M, 0, none⟩, 1, 1⟩) (by have := HXL.out; omega) (by have := HXL.out; omega) (by omega) ?_); intro v7 w13 hown13 hd7 hv7 hs13)
            go_wp2_with fail
            have hOB : u3.ownBlock ≠ some p ∧ u3.ownBlock ≠ some g := ⟨fun e => by have := (HOV.out p e).1; have := HSZ.out; have := HFE.out; omega, fun e => by have := (HOV.out g e).1; have := HSZ.out; have := HFE.out; omega⟩
            have hP13 := HP12.out.frmS hd7 hOB.1 hOB.2
            refine ⟨⟨m', j6 + 1, acc ++ [.mk 5 [] [d6]], xs ++ [⟨5, [], some ⟨M, 0, none⟩, 1, 1⟩], by omega, by omega, HRQ.out, by omega, by rw [List.length_append]; show acc.length + 1 ≤ _; omega, hP13, HI12.out.its.push (d := .mk 5 [] [d6]) (x := ⟨5, [], some ⟨M, 0, none⟩, 1, 1⟩) (NdQ.mono (fun k hk _ => ⟨hk.1, hk.2.1⟩) _ _ HN12.out) hown13 hd7 hv7, ?_⟩, ?_⟩
            · exact HG12.out.trans hd7 (fun _ _ h => h) (fun k hk e => by have e : u3.ownBlock = some k := e; have := (HOV.out k e).1; omega)
            · have e7 : posOf p w13 = j6 + 1 := by unfold posOf; rw [hP13.c1]; rfl
              rw [e7, hp1]
              omega
          · have hn0 := hq
            clear hq
            by_cases hq : st = Gr.sg 42
            · have hx : True := trivial
              have HS0 : Hid (Gr.sign 63 (rest tl j6) = some false) := hid (by rw [HSG.out, if_neg HNZ.out, _root_.decide_eq_false hn0])
              have HS1 : Hid (Gr.sign 42 (rest tl j6) = some true) := hid (by rw [HSG.out, if_neg HNZ.out, _root_.decide_eq_true hq])
              have HRQ : Hid (Gr.pRow m' o (acc ++ [.mk 6 [] [d6]]) (rest tl (j6 + 1)) = R) := hid (by rw [← HRT.out, HSF.out, if_neg HNZ.out, if_neg hn0, if_pos hq])
              have HKK := hid (HK4.out (by rw [hq]; rfl))
              have HK6 := hid hk7
              have HZ6 := hid hz7
              clear HRT h0 hq hk7 hz7 HK4
              clear hn0
              go_wp2_with fail
              refine wp_loop_rounds 4 ?_
              rw [rounds_succ]
              go_wp2_with fail
              refine (psign_any p g cap tl j6 o 63 _ HP7.out).mono ?_
              intro e w8 h8
              rw [HS0.out] at h8
              obtain ⟨rfl, hF8⟩ := h8
              have hs8 := hF8.size
              have HP8 := hid (HP7.out.frm hF8)
              have HI8 := hid (HI7.out.frm hF8 (fun _ _ _ _ h => h))
              have HG8 := hid (HG7.out.thenNo hF8)
              have HN8 := hid (NdQ.frm hF8 (fun _ _ _ h => h) _ _ HN7.out)
              have HK8 : Hid (∀ a, w8.cell? ⟨w4.heap.size, a, none⟩ = (#[.int .i64 (x6.k : Int), .string ⟨x6.s.toArray⟩, .slice x6.ao x6.n x6.c] : Array Value)[a]?) := hid fun a => (hF8.cell (p := ⟨w4.heap.size, a, none⟩) (by show w4.heap.size < _; omega) (fun h => h)).trans (HK6.out a)
              have HZ8 : Hid (∀ a, w8.frozen? ⟨w4.heap.size, a, none⟩ = false) := hid fun a => (hF8.frozen (p := ⟨w4.heap.size, a, none⟩) (by show w4.heap.size < _; omega) (fun h => h)).trans (HZ6.out a)
              clear hF8
              go_wp2_with fail
              rw [rounds_succ]
              go_wp2_with fail
              refine (psign_any p g cap tl j6 o 42 _ HP8.out).mono ?_
              intro e w9 h8
              rw [HS1.out] at h8
              obtain ⟨rfl, hF8⟩ := h8
              have hs9 := hF8.size
              have HP9 := hid (HP8.out.frm hF8)
              have HI9 := hid (HI8.out.frm hF8 (fun _ _ _ _ h => h))
              have HG9 := hid (HG8.out.thenNo hF8)
              have HN9 := hid (NdQ.frm hF8 (fun _ _ _ h => h) _ _ HN8.out)
              have HK9 : Hid (∀ a, w9.cell? ⟨w4.heap.size, a, none⟩ = (#[.int .i64 (x6.k : Int), .string ⟨x6.s.toArray⟩, .slice x6.ao x6.n x6.c] : Array Value)[a]?) := hid fun a => (hF8.cell (p := ⟨w4.heap.size, a, none⟩) (by show w4.heap.size < _; omega) (fun h => h)).trans (HK8.out a)
              have HZ9 : Hid (∀ a, w9.frozen? ⟨w4.heap.size, a, none⟩ = false) := hid fun a => (hF8.frozen (p := ⟨w4.heap.size, a, none⟩) (by show w4.heap.size < _; omega) (fun h => h)).trans (HZ8.out a)
              clear hF8
              have c1 := HP9.out.c1
              have pf := HP9.out.f 1
              have hw := wrap_succ2 (n := j6) (by have := HL.out; omega)
              go_upto_region 9 with fail
              clear c1 pf hw
              have hGp : ¬ w4.heap.size = p := by have := HSZ.out; have := HFE.out; omega
              have HPW : Hid (Par (w9.setCell ⟨p, 1, none⟩ (.int .i64 ((j6 : Int) + 1))) p g cap tl (j6 + 1) o) := hid (HP9.out.step HKK.out)
              have hFW : Frm (One p) w9 (w9.setCell ⟨p, 1, none⟩ (.int .i64 ((j6 : Int) + 1))) := frmOne
              have HIW := hid (HI9.out.frm hFW (fun k hk _ _ e => by have e : k = p := e; have := HSZ.out; have := HFE.out; omega))
              have HGW := hid (HG9.out.then_ hFW)
              have HNW := hid (NdQ.frm hFW (fun k hk _ e => by have e : k = p := e; have := hk.1; have := HSZ.out; have := HFE.out; omega) _ _ HN9.out)
              have hKW : ∀ a, (w9.setCell ⟨p, 1, none⟩ (.int .i64 ((j6 : Int) + 1))).cell? ⟨w4.heap.size, a, none⟩ = (#[.int .i64 (x6.k : Int), .string ⟨x6.s.toArray⟩, .slice x6.ao x6.n x6.c] : Array Value)[a]? := fun a => (hFW.cell (p := ⟨w4.heap.size, a, none⟩) (by show w4.heap.size < _; omega) (fun e => hGp e)).trans (HK9.out a)
              have hZW : ∀ a, (w9.setCell ⟨p, 1, none⟩ (.int .i64 ((j6 : Int) + 1))).frozen? ⟨w4.heap.size, a, none⟩ = false := fun a => (hFW.frozen (p := ⟨w4.heap.size, a, none⟩) (by show w4.heap.size < _; omega) (fun e => hGp e)).trans (HZ9.out a)
              have hsW := hFW.size
              clear hFW
              have hs0 : w4.heap.size < (w9.setCell ⟨p, 1, none⟩ (.int .i64 ((j6 : Int) + 1))).heap.size := by omega
              clear hsW
              clear hs8
              clear hs9
              clear HP9 HI9 HG9 HN9 HK9 HZ9
              generalize (w9.setCell ⟨p, 1, none⟩ (.int .i64 ((j6 : Int) + 1))) = W9 at *
              obtain ⟨G, hG⟩ : ∃ G, w4.heap.size = G := ⟨_, rfl⟩
              rw [hG] at hKW hZW hs0 HNW HIW
              simp only [hG]
              have HGE := hid hG
              clear hG
              have hpG : ¬ p = G := by have := HSZ.out; have := HFE.out; have := HGE.out; have := HOV; omega
              have r0 : (W9.alloc (.cells #[.int .i64 (x6.k : Int), .string ⟨x6.s.toArray⟩, .slice x6.ao x6.n x6.c] 41)).cell? ⟨G, 0, none⟩ = some (.int .i64 (x6.k : Int)) := (((Frm.refl No W9).alloc _).cell (p := ⟨G, 0, none⟩) hs0 (fun h => h)).trans (hKW 0)
              have r1 : (W9.alloc (.cells #[.int .i64 (x6.k : Int), .string ⟨x6.s.toArray⟩, .slice x6.ao x6.n x6.c] 41)).cell? ⟨G, 1, none⟩ = some (.string ⟨x6.s.toArray⟩) := (((Frm.refl No W9).alloc _).cell (p := ⟨G, 1, none⟩) hs0 (fun h => h)).trans (hKW 1)
              have r2 : (W9.alloc (.cells #[.int .i64 (x6.k : Int), .string ⟨x6.s.toArray⟩, .slice x6.ao x6.n x6.c] 41)).cell? ⟨G, 2, none⟩ = some (.slice x6.ao x6.n x6.c) := (((Frm.refl No W9).alloc _).cell (p := ⟨G, 2, none⟩) hs0 (fun h => h)).trans (hKW 2)
              have rz : ∀ a, (W9.alloc (.cells #[.int .i64 (x6.k : Int), .string ⟨x6.s.toArray⟩, .slice x6.ao x6.n x6.c] 41)).frozen? ⟨G, a, none⟩ = false := fun a => (((Frm.refl No W9).alloc _).frozen (p := ⟨G, a, none⟩) hs0 (fun h => h)).trans (hZW a)
              have k0 := hKW 0
              have k1 := hKW 1
              have k2 := hKW 2
              go_upto_region 11 with fail
              clear r0 r1 r2 rz hKW hZW
              have hFG : F + 1 ≤ G := by have := HGE.out; omega
              have hfA : Frm (One G) W9 (((W9.setCell ⟨G, 0, none⟩ (.int .i64 6)).setCell ⟨G, 1, none⟩ (.string ⟨#[]⟩)).setCell ⟨G, 2, none⟩ (.slice (some ⟨W9.heap.size, 0, none⟩) 1 1)) := frm3
              have hszA : (((W9.setCell ⟨G, 0, none⟩ (.int .i64 6)).setCell ⟨G, 1, none⟩ (.string ⟨#[]⟩)).setCell ⟨G, 2, none⟩ (.slice (some ⟨W9.heap.size, 0, none⟩) 1 1)).heap.size = W9.heap.size := by simp [World.setCell]
              have hfB : Frm No (((W9.setCell ⟨G, 0, none⟩ (.int .i64 6)).setCell ⟨G, 1, none⟩ (.string ⟨#[]⟩)).setCell ⟨G, 2, none⟩ (.slice (some ⟨W9.heap.size, 0, none⟩) 1 1)) ((((W9.setCell ⟨G, 0, none⟩ (.int .i64 6)).setCell ⟨G, 1, none⟩ (.string ⟨#[]⟩)).setCell ⟨G, 2, none⟩ (.slice (some ⟨W9.heap.size, 0, none⟩) 1 1)).alloc (.cells #[.int .i64 (x6.k : Int), .string ⟨x6.s.toArray⟩, .slice x6.ao x6.n x6.c] 41)) := (Frm.refl No _).alloc _
              have HI12 := hid ((HIW.out.frm hfA (fun k _ _ hk (e : k = G) => hk e)).frm hfB (fun _ _ _ _ h => h))
              have HP12 := hid ((HPW.out.frmS hfA (fun e => by have e : p = G := e; omega) (fun e => by have e : g = G := e; have := HSZ.out; have := HFE.out; omega)).frm hfB)
              have HG12 := hid ((HGW.out.trans (U := One p) hfA (fun _ _ h => h) (fun k hk e => by have e : k = G := e; omega)).thenNo hfB)
              have HN12 : Hid (NdQ ((((W9.setCell ⟨G, 0, none⟩ (.int .i64 6)).setCell ⟨G, 1, none⟩ (.string ⟨#[]⟩)).setCell ⟨G, 2, none⟩ (.slice (some ⟨W9.heap.size, 0, none⟩) 1 1)).alloc (.cells #[.int .i64 (x6.k : Int), .string ⟨x6.s.toArray⟩, .slice x6.ao x6.n x6.c] 41)) (fun k => F + 1 ≤ k ∧ u3.ownBlock ≠ some k ∧ k ≠ G) (.mk 6 [] [d6]) ⟨6, [], some ⟨W9.heap.size, 0, none⟩, 1, 1⟩) := hid (by
                have hh := kid_ndq (w := (((W9.setCell ⟨G, 0, none⟩ (.int .i64 6)).setCell ⟨G, 1, none⟩ (.string ⟨#[]⟩)).setCell ⟨G, 2, none⟩ (.slice (some ⟨W9.heap.size, 0, none⟩) 1 1))) (Q := fun k => F + 1 ≤ k ∧ u3.ownBlock ≠ some k ∧ k ≠ G) (k := 6) (d := d6) (x := x6) ⟨by omega, fun e => by have := (HIW.out.own.lt _ e).2; omega, by omega⟩ (NdQ.frm hfA (fun k hk _ e => hk.2.2 e) _ _ HNW.out)
                rw [hszA] at hh
                exact hh)
              have ht := three_cells (w := W9) (G := G) (a := .int .i64 6) (b := .string ⟨#[]⟩) (c := .slice (some ⟨W9.heap.size, 0, none⟩) 1 1) k0 k1 k2
              clear k0 k1 k2
              have hGA : G < (((W9.setCell ⟨G, 0, none⟩ (.int .i64 6)).setCell ⟨G, 1, none⟩ (.string ⟨#[]⟩)).setCell ⟨G, 2, none⟩ (.slice (some ⟨W9.heap.size, 0, none⟩) 1 1)).heap.size := by omega
              have k0 : ((((W9.setCell ⟨G, 0, none⟩ (.int .i64 6)).setCell ⟨G, 1, none⟩ (.string ⟨#[]⟩)).setCell ⟨G, 2, none⟩ (.slice (some ⟨W9.heap.size, 0, none⟩) 1 1)).alloc (.cells #[.int .i64 (x6.k : Int), .string ⟨x6.s.toArray⟩, .slice x6.ao x6.n x6.c] 41)).cell? ⟨G, 0, none⟩ = some (.int .i64 6) := (hfB.cell (p := ⟨G, 0, none⟩) hGA (fun h => h)).trans ht.1
              have k1 : ((((W9.setCell ⟨G, 0, none⟩ (.int .i64 6)).setCell ⟨G, 1, none⟩ (.string ⟨#[]⟩)).setCell ⟨G, 2, none⟩ (.slice (some ⟨W9.heap.size, 0, none⟩) 1 1)).alloc (.cells #[.int .i64 (x6.k : Int), .string ⟨x6.s.toArray⟩, .slice x6.ao x6.n x6.c] 41)).cell? ⟨G, 1, none⟩ = some (.string ⟨#[]⟩) := (hfB.cell (p := ⟨G, 1, none⟩) hGA (fun h => h)).trans ht.2.1
              have k2 : ((((W9.setCell ⟨G, 0, none⟩ (.int .i64 6)).setCell ⟨G, 1, none⟩ (.string ⟨#[]⟩)).setCell ⟨G, 2, none⟩ (.slice (some ⟨W9.heap.size, 0, none⟩) 1 1)).alloc (.cells #[.int .i64 (x6.k : Int), .string ⟨x6.s.toArray⟩, .slice x6.ao x6.n x6.c] 41)).cell? ⟨G, 2, none⟩ = some (.slice (some ⟨W9.heap.size, 0, none⟩) 1 1) := (hfB.cell (p := ⟨G, 2, none⟩) hGA (fun h => h)).trans ht.2.2
              have hs12 : G < ((((W9.setCell ⟨G, 0, none⟩ (.int .i64 6)).setCell ⟨G, 1, none⟩ (.string ⟨#[]⟩)).setCell ⟨G, 2, none⟩ (.slice (some ⟨W9.heap.size, 0, none⟩) 1 1)).alloc (.cells #[.int .i64 (x6.k : Int), .string ⟨x6.s.toArray⟩, .slice x6.ao x6.n x6.c] 41)).heap.size := Nat.lt_of_lt_of_le hGA hfB.size
              clear hfA hfB ht hszA hGA
              generalize (((W9.setCell ⟨G, 0, none⟩ (.int .i64 6)).setCell ⟨G, 1, none⟩ (.string ⟨#[]⟩)).setCell ⟨G, 2, none⟩ (.slice (some ⟨W9.heap.size, 0, none⟩) 1 1)).alloc (.cells #[.int .i64 (x6.k : Int), .string ⟨x6.s.toArray⟩, .slice x6.ao x6.n x6.c] 41) = W12 at *
              obtain ⟨M, hM⟩ : ∃ M, W9.heap.size = M := ⟨_, rfl⟩
              rw [hM] at k2 HN12
              simp only [hM]
              clear hM
              have hown12 := HI12.out.own
              go_wp2_with (at_builtin; go_must (refine wpList_push _ rfl _ _ 39 rfl (F + 1) 41 i0 _ 3 48 Tryd.underlying39 gi gz0 gz1 gz2 rfl u3 xs.length (rows nvC xs) rfl hown12 [.int .i64 6, .string ⟨#[]⟩, .slice (some ⟨M, 0, none⟩) 1 1] rfl rfl (nv_shp.one ⟨6, [], some ⟨M, 0, none⟩, 1, 1⟩) (by have := HXL.out; omega) (by have := HXL.out; omega) (by omega) ?_); intro v7 w13 hown13 hd7 hv7 hs13)
              go_wp2_with fail
              have hOB : u3.ownBlock ≠ some p ∧ u3.ownBlock ≠ some g := ⟨fun e => by have := (HOV.out p e).1; have := HSZ.out; have := HFE.out; omega, fun e => by have := (HOV.out g e).1; have := HSZ.out; have := HFE.out; omega⟩
              have hP13 := HP12.out.frmS hd7 hOB.1 hOB.2
              refine ⟨⟨m', j6 + 1, acc ++ [.mk 6 [] [d6]], xs ++ [⟨6, [], some ⟨M, 0, none⟩, 1, 1⟩], by omega, by omega, HRQ.out, by omega, by rw [List.length_append]; show acc.length + 1 ≤ _; omega, hP13, HI12.out.its.push (d := .mk 6 [] [d6]) (x := ⟨6, [], some ⟨M, 0, none⟩, 1, 1⟩) (NdQ.mono (fun k hk _ => ⟨hk.1, hk.2.1⟩) _ _ HN12.out) hown13 hd7 hv7, ?_⟩, ?_⟩
              · exact HG12.out.trans hd7 (fun _ _ h => h) (fun k hk e => by have e : u3.ownBlock = some k := e; have := (HOV.out k e).1; omega)
              · have e7 : posOf p w13 = j6 + 1 := by unfold posOf; rw [hP13.c1]; rfl
                rw [e7, hp1]
                omega
            · have hn1 := hq
              clear hq
              by_cases hq : st = Gr.sg 43
              · have hx : True := trivial
                have HS0 : Hid (Gr.sign 63 (rest tl j6) = some false) := hid (by rw [HSG.out, if_neg HNZ.out, _root_.decide_eq_false hn0])
                have HS1 : Hid (Gr.sign 42 (rest tl j6) = some false) := hid (by rw [HSG.out, if_neg HNZ.out, _root_.decide_eq_false hn1])
                have HS2 : Hid (Gr.sign 43 (rest tl j6) = some true) := hid (by rw [HSG.out, if_neg HNZ.out, _root_.decide_eq_true hq])
                have HRQ : Hid (Gr.pRow m' o (acc ++ [.mk 7 [] [d6]]) (rest tl (j6 + 1)) = R) := hid (by rw [← HRT.out, HSF.out, if_neg HNZ.out, if_neg hn0, if_neg hn1, if_pos hq])
                have HKK := hid (HK4.out (by rw [hq]; rfl))
                have HK6 := hid hk7
                have HZ6 := hid hz7
                clear HRT h0 hq hk7 hz7 HK4
                clear hn0
                clear hn1
                go_wp2_with fail
                refine wp_loop_rounds 4 ?_
                rw [rounds_succ]
                go_wp2_with fail
                refine (psign_any p g cap tl j6 o 63 _ HP7.out).mono ?_
                intro e w8 h8
                rw [HS0.out] at h8
                obtain ⟨rfl, hF8⟩ := h8
                have hs8 := hF8.size
                have HP8 := hid (HP7.out.frm hF8)
                have HI8 := hid (HI7.out.frm hF8 (fun _ _ _ _ h => h))
                have HG8 := hid (HG7.out.thenNo hF8)
                have HN8 := hid (NdQ.frm hF8 (fun _ _ _ h => h) _ _ HN7.out)
                have HK8 : Hid (∀ a, w8.cell? ⟨w4.heap.size, a, none⟩ = (#[.int .i64 (x6.k : Int), .string ⟨x6.s.toArray⟩, .slice x6.ao x6.n x6.c] : Array Value)[a]?) := hid fun a => (hF8.cell (p := ⟨w4.heap.size, a, none⟩) (by show w4.heap.size < _; omega) (fun h => h)).trans (HK6.out a)
                have HZ8 : Hid (∀ a, w8.frozen? ⟨w4.heap.size, a, none⟩ = false) := hid fun a => (hF8.frozen (p := ⟨w4.heap.size, a, none⟩) (by show w4.heap.size < _; omega) (fun h => h)).trans (HZ6.out a)
                clear hF8
                go_wp2_with fail
                rw [rounds_succ]
                go_wp2_with fail
                refine (psign_any p g cap tl j6 o 42 _ HP8.out).mono ?_
                intro e w9 h8
                rw [HS1.out] at h8
                obtain ⟨rfl, hF8⟩ := h8
                have hs9 := hF8.size
                have HP9 := hid (HP8.out.frm hF8)
                have HI9 := hid (HI8.out.frm hF8 (fun _ _ _ _ h => h))
                have HG9 := hid (HG8.out.thenNo hF8)
                have HN9 := hid (NdQ.frm hF8 (fun _ _ _ h => h) _ _ HN8.out)
                have HK9 : Hid (∀ a, w9.cell? ⟨w4.heap.size, a, none⟩ = (#[.int .i64 (x6.k : Int), .string ⟨x6.s.toArray⟩, .slice x6.ao x6.n x6.c] : Array Value)[a]?) := hid fun a => (hF8.cell (p := ⟨w4.heap.size, a, none⟩) (by show w4.heap.size < _; omega) (fun h => h)).trans (HK8.out a)
                have HZ9 : Hid (∀ a, w9.frozen? ⟨w4.heap.size, a, none⟩ = false) := hid fun a => (hF8.frozen (p := ⟨w4.heap.size, a, none⟩) (by show w4.heap.size < _; omega) (fun h => h)).trans (HZ8.out a)
                clear hF8
                go_wp2_with fail
                rw [rounds_succ]
                go_wp2_with fail
                refine (psign_any p g cap tl j6 o 43 _ HP9.out).mono ?_
                intro e w10 h8
                rw [HS2.out] at h8
                obtain ⟨rfl, hF8⟩ := h8
                have hs10 := hF8.size
                have HP10 := hid (HP9.out.frm hF8)
                have HI10 := hid (HI9.out.frm hF8 (fun _ _ _ _ h => h))
                have HG10 := hid (HG9.out.thenNo hF8)
                have HN10 := hid (NdQ.frm hF8 (fun _ _ _ h => h) _ _ HN9.out)
                have HK10 : Hid (∀ a, w10.cell? ⟨w4.heap.size, a, none⟩ = (#[.int .i64 (x6.k : Int), .string ⟨x6.s.toArray⟩, .slice x6.ao x6.n x6.c] : Array Value)[a]?) := hid fun a => (hF8.cell (p := ⟨w4.heap.size, a, none⟩) (by show w4.heap.size < _; omega) (fun h => h)).trans (HK9.out a)
                have HZ10 : Hid (∀ a, w10.frozen? ⟨w4.heap.size, a, none⟩ = false) := hid fun a => (hF8.frozen (p := ⟨w4.heap.size, a, none⟩) (by show w4.heap.size < _; omega) (fun h => h)).trans (HZ9.out a)
                clear hF8
                have c1 := HP10.out.c1
                have pf := HP10.out.f 1
                have hw := wrap_succ2 (n := j6) (by have := HL.out; omega)
                go_upto_region 9 with fail
                clear c1 pf hw
                have hGp : ¬ w4.heap.size = p := by have := HSZ.out; have := HFE.out; omega
                have HPW : Hid (Par (w10.setCell ⟨p, 1, none⟩ (.int .i64 ((j6 : Int) + 1))) p g cap tl (j6 + 1) o) := hid (HP10.out.step HKK.out)
                have hFW : Frm (One p) w10 (w10.setCell ⟨p, 1, none⟩ (.int .i64 ((j6 : Int) + 1))) := frmOne
                have HIW := hid (HI10.out.frm hFW (fun k hk _ _ e => by have e : k = p := e; have := HSZ.out; have := HFE.out; omega))
                have HGW := hid (HG10.out.then_ hFW)
                have HNW := hid (NdQ.frm hFW (fun k hk _ e => by have e : k = p := e; have := hk.1; have := HSZ.out; have := HFE.out; omega) _ _ HN10.out)
                have hKW : ∀ a, (w10.setCell ⟨p, 1, none⟩ (.int .i64 ((j6 : Int) + 1))).cell? ⟨w4.heap.size, a, none⟩ = (#[.int .i64 (x6.k : Int), .string ⟨x6.s.toArray⟩, .slice x6.ao x6.n x6.c] : Array Value)[a]? := fun a => (hFW.cell (p := ⟨w4.heap.size, a, none⟩) (by show w4.heap.size < _; omega) (fun e => hGp e)).trans (HK10.out a)
                have hZW : ∀ a, (w10.setCell ⟨p, 1, none⟩ (.int .i64 ((j6 : Int) + 1))).frozen? ⟨w4.heap.size, a, none⟩ = false := fun a => (hFW.frozen (p := ⟨w4.heap.size, a, none⟩) (by show w4.heap.size < _; omega) (fun e => hGp e)).trans (HZ10.out a)
                have hsW := hFW.size
                clear hFW
                have hs0 : w4.heap.size < (w10.setCell ⟨p, 1, none⟩ (.int .i64 ((j6 : Int) + 1))).heap.size := by omega
                clear hsW
                clear hs8
                clear hs9
                clear hs10
                clear HP10 HI10 HG10 HN10 HK10 HZ10
                generalize (w10.setCell ⟨p, 1, none⟩ (.int .i64 ((j6 : Int) + 1))) = W9 at *
                obtain ⟨G, hG⟩ : ∃ G, w4.heap.size = G := ⟨_, rfl⟩
                rw [hG] at hKW hZW hs0 HNW HIW
                simp only [hG]
                have HGE := hid hG
                clear hG
                have hpG : ¬ p = G := by have := HSZ.out; have := HFE.out; have := HGE.out; have := HOV; omega
                have r0 : (W9.alloc (.cells #[.int .i64 (x6.k : Int), .string ⟨x6.s.toArray⟩, .slice x6.ao x6.n x6.c] 41)).cell? ⟨G, 0, none⟩ = some (.int .i64 (x6.k : Int)) := (((Frm.refl No W9).alloc _).cell (p := ⟨G, 0, none⟩) hs0 (fun h => h)).trans (hKW 0)
                have r1 : (W9.alloc (.cells #[.int .i64 (x6.k : Int), .string ⟨x6.s.toArray⟩, .slice x6.ao x6.n x6.c] 41)).cell? ⟨G, 1, none⟩ = some (.string ⟨x6.s.toArray⟩) := (((Frm.refl No W9).alloc _).cell (p := ⟨G, 1, none⟩) hs0 (fun h => h)).trans (hKW 1)
                have r2 : (W9.alloc (.cells #[.int .i64 (x6.k : Int), .string ⟨x6.s.toArray⟩, .slice x6.ao x6.n x6.c] 41)).cell? ⟨G, 2, none⟩ = some (.slice x6.ao x6.n x6.c) := (((Frm.refl No W9).alloc _).cell (p := ⟨G, 2, none⟩) hs0 (fun h => h)).trans (hKW 2)
                have rz : ∀ a, (W9.alloc (.cells #[.int .i64 (x6.k : Int), .string ⟨x6.s.toArray⟩, .slice x6.ao x6.n x6.c] 41)).frozen? ⟨G, a, none⟩ = false := fun a => (((Frm.refl No W9).alloc _).frozen (p := ⟨G, a, none⟩) hs0 (fun h => h)).trans (hZW a)
                have k0 := hKW 0
                have k1 := hKW 1
                have k2 := hKW 2
                go_upto_region 11 with fail
                clear r0 r1 r2 rz hKW hZW
                have hFG : F + 1 ≤ G := by have := HGE.out; omega
                have hfA : Frm (One G) W9 (((W9.setCell ⟨G, 0, none⟩ (.int .i64 7)).setCell ⟨G, 1, none⟩ (.string ⟨#[]⟩)).setCell ⟨G, 2, none⟩ (.slice (some ⟨W9.heap.size, 0, none⟩) 1 1)) := frm3
                have hszA : (((W9.setCell ⟨G, 0, none⟩ (.int .i64 7)).setCell ⟨G, 1, none⟩ (.string ⟨#[]⟩)).setCell ⟨G, 2, none⟩ (.slice (some ⟨W9.heap.size, 0, none⟩) 1 1)).heap.size = W9.heap.size := by simp [World.setCell]
                have hfB : Frm No (((W9.setCell ⟨G, 0, none⟩ (.int .i64 7)).setCell ⟨G, 1, none⟩ (.string ⟨#[]⟩)).setCell ⟨G, 2, none⟩ (.slice (some ⟨W9.heap.size, 0, none⟩) 1 1)) ((((W9.setCell ⟨G, 0, none⟩ (.int .i64 7)).setCell ⟨G, 1, none⟩ (.string ⟨#[]⟩)).setCell ⟨G, 2, none⟩ (.slice (some ⟨W9.heap.size, 0, none⟩) 1 1)).alloc (.cells #[.int .i64 (x6.k : Int), .string ⟨x6.s.toArray⟩, .slice x6.ao x6.n x6.c] 41)) := (Frm.refl No _).alloc _
                have HI12 := hid ((HIW.out.frm hfA (fun k _ _ hk (e : k = G) => hk e)).frm hfB (fun _ _ _ _ h => h))
                have HP12 := hid ((HPW.out.frmS hfA (fun e => by have e : p = G := e; omega) (fun e => by have e : g = G := e; have := HSZ.out; have := HFE.out; omega)).frm hfB)
                have HG12 := hid ((HGW.out.trans (U := One p) hfA (fun _ _ h => h) (fun k hk e => by have e : k = G := e; omega)).thenNo hfB)
                have HN12 : Hid (NdQ ((((W9.setCell ⟨G, 0, none⟩ (.int .i64 7)).setCell ⟨G, 1, none⟩ (.string ⟨#[]⟩)).setCell ⟨G, 2, none⟩ (.slice (some ⟨W9.heap.size, 0, none⟩) 1 1)).alloc (.cells #[.int .i64 (x6.k : Int), .string ⟨x6.s.toArray⟩, .slice x6.ao x6.n x6.c] 41)) (fun k => F + 1 ≤ k ∧ u3.ownBlock ≠ some k ∧ k ≠ G) (.mk 7 [] [d6]) ⟨7, [], some ⟨W9.heap.size, 0, none⟩, 1, 1⟩) := hid (by
                  have hh := kid_ndq (w := (((W9.setCell ⟨G, 0, none⟩ (.int .i64 7)).setCell ⟨G, 1, none⟩ (.string ⟨#[]⟩)).setCell ⟨G, 2, none⟩ (.slice (some ⟨W9.heap.size, 0, none⟩) 1 1))) (Q := fun k => F + 1 ≤ k ∧ u3.ownBlock ≠ some k ∧ k ≠ G) (k := 7) (d := d6) (x := x6) ⟨by omega, fun e => by have := (HIW.out.own.lt _ e).2; omega, by omega⟩ (NdQ.frm hfA (fun k hk _ e => hk.2.2 e) _ _ HNW.out)
                  rw [hszA] at hh
                  exact hh)
                have ht := three_cells (w := W9) (G := G) (a := .int .i64 7) (b := .string ⟨#[]⟩) (c := .slice (some ⟨W9.heap.size, 0, none⟩) 1 1) k0 k1 k2
                clear k0 k1 k2
                have hGA : G < (((W9.setCell ⟨G, 0, none⟩ (.int .i64 7)).setCell ⟨G, 1, none⟩ (.string ⟨#[]⟩)).setCell ⟨G, 2, none⟩ (.slice (some ⟨W9.heap.size, 0, none⟩) 1 1)).heap.size := by omega
                have k0 : ((((W9.setCell ⟨G, 0, none⟩ (.int .i64 7)).setCell ⟨G, 1, none⟩ (.string ⟨#[]⟩)).setCell ⟨G, 2, none⟩ (.slice (some ⟨W9.heap.size, 0, none⟩) 1 1)).alloc (.cells #[.int .i64 (x6.k : Int), .string ⟨x6.s.toArray⟩, .slice x6.ao x6.n x6.c] 41)).cell? ⟨G, 0, none⟩ = some (.int .i64 7) := (hfB.cell (p := ⟨G, 0, none⟩) hGA (fun h => h)).trans ht.1
                have k1 : ((((W9.setCell ⟨G, 0, none⟩ (.int .i64 7)).setCell ⟨G, 1, none⟩ (.string ⟨#[]⟩)).setCell ⟨G, 2, none⟩ (.slice (some ⟨W9.heap.size, 0, none⟩) 1 1)).alloc (.cells #[.int .i64 (x6.k : Int), .string ⟨x6.s.toArray⟩, .slice x6.ao x6.n x6.c] 41)).cell? ⟨G, 1, none⟩ = some (.string ⟨#[]⟩) := (hfB.cell (p := ⟨G, 1, none⟩) hGA (fun h => h)).trans ht.2.1
                have k2 : ((((W9.setCell ⟨G, 0, none⟩ (.int .i64 7)).setCell ⟨G, 1, none⟩ (.string ⟨#[]⟩)).setCell ⟨G, 2, none⟩ (.slice (some ⟨W9.heap.size, 0, none⟩) 1 1)).alloc (.cells #[.int .i64 (x6.k : Int), .string ⟨x6.s.toArray⟩, .slice x6.ao x6.n x6.c] 41)).cell? ⟨G, 2, none⟩ = some (.slice (some ⟨W9.heap.size, 0, none⟩) 1 1) := (hfB.cell (p := ⟨G, 2, none⟩) hGA (fun h => h)).trans ht.2.2
                have hs12 : G < ((((W9.setCell ⟨G, 0, none⟩ (.int .i64 7)).setCell ⟨G, 1, none⟩ (.string ⟨#[]⟩)).setCell ⟨G, 2, none⟩ (.slice (some ⟨W9.heap.size, 0, none⟩) 1 1)).alloc (.cells #[.int .i64 (x6.k : Int), .string ⟨x6.s.toArray⟩, .slice x6.ao x6.n x6.c] 41)).heap.size := Nat.lt_of_lt_of_le hGA hfB.size
                clear hfA hfB ht hszA hGA
                generalize (((W9.setCell ⟨G, 0, none⟩ (.int .i64 7)).setCell ⟨G, 1, none⟩ (.string ⟨#[]⟩)).setCell ⟨G, 2, none⟩ (.slice (some ⟨W9.heap.size, 0, none⟩) 1 1)).alloc (.cells #[.int .i64 (x6.k : Int), .string ⟨x6.s.toArray⟩, .slice x6.ao x6.n x6.c] 41) = W12 at *
                obtain ⟨M, hM⟩ : ∃ M, W9.heap.size = M := ⟨_, rfl⟩
                rw [hM] at k2 HN12
                simp only [hM]
                clear hM
                have hown12 := HI12.out.own
                go_wp2_with (at_builtin; go_must (refine wpList_push _ rfl _ _ 39 rfl (F + 1) 41 i0 _ 3 48 Tryd.underlying39 gi gz0 gz1 gz2 rfl u3 xs.length (rows nvC xs) rfl hown12 [.int .i64 7, .string ⟨#[]⟩, .slice (some ⟨M, 0, none⟩) 1 1] rfl rfl (nv_shp.one ⟨7, [], some ⟨M, 0, none⟩, 1, 1⟩) (by have := HXL.out; omega) (by have := HXL.out; omega) (by omega) ?_); intro v7 w13 hown13 hd7 hv7 hs13)
                go_wp2_with fail
                have hOB : u3.ownBlock ≠ some p ∧ u3.ownBlock ≠ some g := ⟨fun e => by have := (HOV.out p e).1; have := HSZ.out; have := HFE.out; omega, fun e => by have := (HOV.out g e).1; have := HSZ.out; have := HFE.out; omega⟩
                have hP13 := HP12.out.frmS hd7 hOB.1 hOB.2
                refine ⟨⟨m', j6 + 1, acc ++ [.mk 7 [] [d6]], xs ++ [⟨7, [], some ⟨M, 0, none⟩, 1, 1⟩], by omega, by omega, HRQ.out, by omega, by rw [List.length_append]; show acc.length + 1 ≤ _; omega, hP13, HI12.out.its.push (d := .mk 7 [] [d6]) (x := ⟨7, [], some ⟨M, 0, none⟩, 1, 1⟩) (NdQ.mono (fun k hk _ => ⟨hk.1, hk.2.1⟩) _ _ HN12.out) hown13 hd7 hv7, ?_⟩, ?_⟩
                · exact HG12.out.trans hd7 (fun _ _ h => h) (fun k hk e => by have e : u3.ownBlock = some k := e; have := (HOV.out k e).1; omega)
                · have e7 : posOf p w13 = j6 + 1 := by unfold posOf; rw [hP13.c1]; rfl
                  rw [e7, hp1]
                  omega
              · have hn2 := hq
                clear hq
                have HS0 : Hid (Gr.sign 63 (rest tl j6) = some false) := hid (by rw [HSG.out, if_neg HNZ.out, _root_.decide_eq_false hn0])
                have HS1 : Hid (Gr.sign 42 (rest tl j6) = some false) := hid (by rw [HSG.out, if_neg HNZ.out, _root_.decide_eq_false hn1])
                have HS2 : Hid (Gr.sign 43 (rest tl j6) = some false) := hid (by rw [HSG.out, if_neg HNZ.out, _root_.decide_eq_false hn2])
                have HRQ : Hid (Gr.pRow m' o (acc ++ [d6]) (rest tl j6) = R) := hid (by rw [← HRT.out, HSF.out, if_neg HNZ.out, if_neg hn0, if_neg hn1, if_neg hn2])
                have HK6 := hid hk7
                have HZ6 := hid hz7
                clear HRT h0 hk7 hz7 HK4
                clear hn0
                clear hn1
                clear hn2
                go_wp2_with fail
                refine wp_loop_rounds 4 ?_
                rw [rounds_succ]
                go_wp2_with fail
                refine (psign_any p g cap tl j6 o 63 _ HP7.out).mono ?_
                intro e w8 h8
                rw [HS0.out] at h8
                obtain ⟨rfl, hF8⟩ := h8
                have hs8 := hF8.size
                have HP8 := hid (HP7.out.frm hF8)
                have HI8 := hid (HI7.out.frm hF8 (fun _ _ _ _ h => h))
                have HG8 := hid (HG7.out.thenNo hF8)
                have HN8 := hid (NdQ.frm hF8 (fun _ _ _ h => h) _ _ HN7.out)
                have HK8 : Hid (∀ a, w8.cell? ⟨w4.heap.size, a, none⟩ = (#[.int .i64 (x6.k : Int), .string ⟨x6.s.toArray⟩, .slice x6.ao x6.n x6.c] : Array Value)[a]?) := hid fun a => (hF8.cell (p := ⟨w4.heap.size, a, none⟩) (by show w4.heap.size < _; omega) (fun h => h)).trans (HK6.out a)
                have HZ8 : Hid (∀ a, w8.frozen? ⟨w4.heap.size, a, none⟩ = false) := hid fun a => (hF8.frozen (p := ⟨w4.heap.size, a, none⟩) (by show w4.heap.size < _; omega) (fun h => h)).trans (HZ6.out a)
                clear hF8
                go_wp2_with fail
                rw [rounds_succ]
                go_wp2_with fail
                refine (psign_any p g cap tl j6 o 42 _ HP8.out).mono ?_
                intro e w9 h8
                rw [HS1.out] at h8
                obtain ⟨rfl, hF8⟩ := h8
                have hs9 := hF8.size
                have HP9 := hid (HP8.out.frm hF8)
                have HI9 := hid (HI8.out.frm hF8 (fun _ _ _ _ h => h))
                have HG9 := hid (HG8.out.thenNo hF8)
                have HN9 := hid (NdQ.frm hF8 (fun _ _ _ h => h) _ _ HN8.out)
                have HK9 : Hid (∀ a, w9.cell? ⟨w4.heap.size, a, none⟩ = (#[.int .i64 (x6.k : Int), .string ⟨x6.s.toArray⟩, .slice x6.ao x6.n x6.c] : Array Value)[a]?) := hid fun a => (hF8.cell (p := ⟨w4.heap.size, a, none⟩) (by show w4.heap.size < _; omega) (fun h => h)).trans (HK8.out a)
                have HZ9 : Hid (∀ a, w9.frozen? ⟨w4.heap.size, a, none⟩ = false) := hid fun a => (hF8.frozen (p := ⟨w4.heap.size, a, none⟩) (by show w4.heap.size < _; omega) (fun h => h)).trans (HZ8.out a)
                clear hF8
                go_wp2_with fail
                rw [rounds_succ]
                go_wp2_with fail
                refine (psign_any p g cap tl j6 o 43 _ HP9.out).mono ?_
                intro e w10 h8
                rw [HS2.out] at h8
                obtain ⟨rfl, hF8⟩ := h8
                have hs10 := hF8.size
                have HP10 := hid (HP9.out.frm hF8)
                have HI10 := hid (HI9.out.frm hF8 (fun _ _ _ _ h => h))
                have HG10 := hid (HG9.out.thenNo hF8)
                have HN10 := hid (NdQ.frm hF8 (fun _ _ _ h => h) _ _ HN9.out)
                have HK10 : Hid (∀ a, w10.cell? ⟨w4.heap.size, a, none⟩ = (#[.int .i64 (x6.k : Int), .string ⟨x6.s.toArray⟩, .slice x6.ao x6.n x6.c] : Array Value)[a]?) := hid fun a => (hF8.cell (p := ⟨w4.heap.size, a, none⟩) (by show w4.heap.size < _; omega) (fun h => h)).trans (HK9.out a)
                have HZ10 : Hid (∀ a, w10.frozen? ⟨w4.heap.size, a, none⟩ = false) := hid fun a => (hF8.frozen (p := ⟨w4.heap.size, a, none⟩) (by show w4.heap.size < _; omega) (fun h => h)).trans (HZ9.out a)
                clear hF8
                have k0 := HK10.out 0
                have k1 := HK10.out 1
                have k2 := HK10.out 2
                go_wp2_with fail
                rw [rounds_succ]
                have hown10 := HI10.out.own
                go_wp2_with (at_builtin; refine wpList_push _ rfl _ _ 39 rfl (F + 1) 41 i0 _ 3 48 Tryd.underlying39 gi gz0 gz1 gz2 rfl u3 xs.length (rows nvC xs) rfl hown10 [.int .i64 (x6.k : Int), .string ⟨x6.s.toArray⟩, .slice x6.ao x6.n x6.c] rfl rfl (nv_shp.one x6) (by have := HXL.out; omega) (by have := HXL.out; omega) (by omega) ?_; intro v7 w11 hown11 hd7 hv7 hs11)
                go_wp2_with fail
                have hP11 := HP10.out.frmS hd7 (fun e => by have e : u3.ownBlock = some p := e; have := (HOV.out p e).1; have := HSZ.out; have := HFE.out; omega) (fun e => by have e : u3.ownBlock = some g := e; have := (HOV.out g e).1; have := HSZ.out; have := HFE.out; omega)
                refine ⟨⟨m', j6, acc ++ [d6], xs ++ [x6], by omega, by omega, HRQ.out, by omega, by rw [List.length_append]; show acc.length + 1 ≤ _; omega, hP11, HI10.out.its.push (NdQ.mono (fun k hk _ => ⟨hk.1, hk.2.1⟩) _ _ HN10.out) hown11 hd7 hv7, ?_⟩, ?_⟩
                · exact HG10.out.trans hd7 (fun _ _ h => h) (fun k hk e => by have e : u3.ownBlock = some k := e; have := (HOV.out k e).1; omega)
                · have e7 : posOf p w11 = j6 := by unfold posOf; rw [hP11.c1]; rfl
                  rw [e7, hp1]
                  omega
end Go.Proofs.YtebocnpbiiejmaaDoor
