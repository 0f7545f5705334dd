/- The parser's choices. -/
import Derived.Test.YtebocnpbiiejmaaDoorTwP4
namespace Go.Proofs.YtebocnpbiiejmaaDoor
open Go.RowKit
/-- trees under way in a row of the call's own -/
structure Its (w : World) (B : Nat) (v : Value) (acc : List Gr.Nd) (xs : List Nv) : Prop where
  own : w.ownsRow B 41 3 v xs.length (rows nvC xs)
  kids : NdRs w (fun k => B ≤ k ∧ v.ownBlock ≠ some k) acc xs
theorem Its.frm {w w1 : World} {B : Nat} {v : Value} {acc : List Gr.Nd} {xs : List Nv} {S : Nat → Prop} (h : Its w B v acc xs) (hf : Frm S w w1) (hS : ∀ k, B ≤ k → k < w.heap.size → ¬ S k) : Its w1 B v acc xs :=
  ⟨hf.row h.own (fun k hk => hS k (h.own.lt k hk).1 (h.own.lt k hk).2), NdRs.frm hf (fun k hk hlt => hS k hk.1 hlt) acc xs h.kids⟩
theorem Its.nil (w : World) (B : Nat) : Its w B (.slice none 0 0) [] [] := ⟨World.ownsRow_nil _ _ _ _, rfl⟩
theorem Its.one {w : World} {B : Nat} {d : Gr.Nd} {x : Nv} (hB : B ≤ w.heap.size) (h : NdR w B d x) : Its (w.alloc (.cells #[.int .i64 (x.k : Int), .string ⟨x.s.toArray⟩, .slice x.ao x.n x.c] 41)) B (.slice (some ⟨w.heap.size, 0, none⟩) 1 1) [d] [x] := by
  refine ⟨World.ownsRow_lit w #[.int .i64 (x.k : Int), .string ⟨x.s.toArray⟩, .slice x.ao x.n x.c] 1 hB (by unfold maxLen; omega) rfl, x, [], rfl, ?_, rfl⟩
  exact NdQ.frm ((Frm.refl No w).alloc _) (fun _ _ _ h => h) d x (NdQ.mono (fun k hk hlt => ⟨hk, fun e => by have e : some w.heap.size = some k := e; cases e; omega⟩) d x h)
theorem Its.push {W w' : World} {B : Nat} {v v' : Value} {acc : List Gr.Nd} {xs : List Nv} {d : Gr.Nd} {x : Nv} (h : Its W B v acc xs) (hx : NdQ W (fun k => B ≤ k ∧ v.ownBlock ≠ some k) d x)
    (hown : w'.ownsRow B 41 3 v' (xs.length + 1) (rows nvC xs ++ nvC x)) (hd : Frm (Own v) W w') (hv : v'.ownBlock = v.ownBlock ∨ ∃ k, v'.ownBlock = some k ∧ W.heap.size ≤ k) : Its w' B v' (acc ++ [d]) (xs ++ [x]) := by
  have e1 : (xs ++ [x]).length = xs.length + 1 := by simp
  have e2 : rows nvC (xs ++ [x]) = rows nvC xs ++ nvC x := by rw [rows_append]; simp [rows]
  refine ⟨by rw [e1, e2]; exact hown, ?_⟩
  have hm : ∀ k, (B ≤ k ∧ v.ownBlock ≠ some k) → k < W.heap.size → (B ≤ k ∧ v.ownBlock ≠ some k ∧ v'.ownBlock ≠ some k) := fun k hk hlt => ⟨hk.1, hk.2, fun e => by
    rcases hv with hv | ⟨j, hj, hjk⟩
    · exact hk.2 (hv ▸ e)
    · rw [hj] at e; cases e; omega⟩
  have h1 := NdRs.frm hd (fun k hk _ e => hk.2.1 e) _ _ (NdRs.mono hm _ _ h.kids)
  have h2 := NdQ.frm hd (fun k hk _ e => hk.2.1 e) _ _ (NdQ.mono hm _ _ hx)
  exact NdRs.snoc (NdRs.mono (fun k hk _ => ⟨hk.1, hk.2.2⟩) _ _ h1) (NdQ.mono (fun k hk _ => ⟨hk.1, hk.2.2⟩) _ _ h2)
/-- they become a node -/
theorem Its.node {w : World} {B k : Nat} {ao : Option Addr} {n c : Nat} {acc : List Gr.Nd} {xs : List Nv} (h : Its w B (.slice ao n c) acc xs) : NdR w B (.mk k [] acc) ⟨k, [], ao, n, c⟩ :=
  ⟨rfl, rfl, fun b hb => (h.own.lt b hb).1, xs, ownsRow_base h.own (fun _ _ => Nat.zero_le _), NdRs.mono (fun _k hk _ => hk.1) _ _ h.kids⟩
theorem info_node : (Tryd.prog.info? 41).map (fun i => (i.zero, i.size, i.bytes)) = some (some (.agg #[.int .i64 0, .string ByteArray.empty, .slice none 0 0]), 3, 48) := by kernel_rfl
theorem alts_eq (n o : Nat) (acc : List Gr.Nd) (ts : List Gr.Tk) : Gr.pAlts (n + 1) o acc ts = (match Gr.sign 124 ts with
    | none => none
    | some false => some (Gr.one 4 acc, ts)
    | some true => match Gr.pRow n o [] ts.tail with
      | none => none
      | some (d, r) => Gr.pAlts n o (acc ++ [d]) r) := by
  rw [Gr.pAlts]
  cases Gr.sign 124 ts with
  | none => rfl
  | some b =>
    cases b with
    | false => rfl
    | true => cases Gr.pRow n o [] ts.tail <;> rfl
theorem own_cells {w : World} {B : Nat} {ao : Option Addr} {c : Nat} {x : Nv} (h : w.ownsRow B 41 3 (.slice ao 1 c) 1 (rows nvC [x])) : ∃ q, ao = some ⟨q, 0, none⟩ ∧ B ≤ q ∧ q < w.heap.size ∧ w.cell? ⟨q, 0, none⟩ = some (.int .i64 (x.k : Int)) ∧ w.cell? ⟨q, 1, none⟩ = some (.string ⟨x.s.toArray⟩) ∧ w.cell? ⟨q, 2, none⟩ = some (.slice x.ao x.n x.c) := by
  have hc := h
  rcases h.2 with ⟨_, h2⟩ | ⟨q, cap, cur, e, hq, hh, _⟩
  · cases h2
  · cases e
    have hlt := hc.lt q rfl
    exact ⟨q, rfl, hq, hlt.2, hc.cellAt 0 (by decide), hc.cellAt 1 (by decide), hc.cellAt 2 (by decide)⟩
theorem one_ne4 {k : Nat} {l : List Gr.Nd} (h : l.length ≠ 1) : Gr.one k l = .mk k [] l := Gr.one_ne h
set_option maxRecDepth 100000 in
set_option maxHeartbeats 2000000 in
theorem alt_step (n : Nat) (hA : ∀ m, m ≤ n → RowOK m) : AltOK (n + 1) := by
  intro p g cap tl i o B w h hpB hBw hn
  have hl := h.tk.len
  obtain ⟨R, hR⟩ : ∃ R, Gr.pAlt (n + 1) o (rest tl i) = R := ⟨_, rfl⟩
  rw [hR]
  rw [Gr.pAlt] at hR
  have HR := hid hR
  have HH := hid h
  have HN := hid hn
  have HL := hid hl
  have HBW := hid hBw
  have HPB := hid hpB
  have HSZ := hid h.size
  have hFp : ¬ w.heap.size = p := by have := h.size; omega
  clear hR h hn hl hBw hpB
  go_enter Tryd.func34, Tryd.ntmps34
  go_wp2_with fail
  obtain ⟨F, hFe⟩ : ∃ F, w.heap.size = F := ⟨_, rfl⟩
  have hf1 : ∀ j, (w.alloc (.cells #[.int .i64 0, .string ⟨#[]⟩, .slice none 0 0] 41)).cell? ⟨F, j, none⟩ = (#[.int .i64 0, .string ⟨#[]⟩, .slice none 0 0] : Array Value)[j]? := fun j => by rw [← hFe]; exact World.cell?_alloc_at _ _ _ _ rfl
  have hz1 : ∀ j, (w.alloc (.cells #[.int .i64 0, .string ⟨#[]⟩, .slice none 0 0] 41)).frozen? ⟨F, j, none⟩ = false := fun j => by rw [← hFe]; exact World.frozen?_alloc_at _ _ _ _ rfl
  have hF1 : Frm No w (w.alloc (.cells #[.int .i64 0, .string ⟨#[]⟩, .slice none 0 0] 41)) := (Frm.refl No w).alloc _
  have hs1 : (w.alloc (.cells #[.int .i64 0, .string ⟨#[]⟩, .slice none 0 0] 41)).heap.size = F + 1 := by rw [World.size_alloc, hFe]
  obtain ⟨W1, hW1⟩ : ∃ W1, w.alloc (.cells #[.int .i64 0, .string ⟨#[]⟩, .slice none 0 0] 41) = W1 := ⟨_, rfl⟩
  rw [hW1] at hf1 hz1 hF1 hs1
  rw [hFe] at hFp
  have HFE := hid hFe
  simp only [hW1, hFe]
  refine (hA n (Nat.le_refl _) p g cap tl i o (F + 1) W1 (HH.out.frm hF1) (by have := HSZ.out; have := HFE.out; omega) (by omega) (by have := HN.out; omega)).mono ?_
  intro e w3 hp
  obtain ⟨hF3, hp⟩ := hp
  have hF03 : Frm (One p) w w3 := hF1.trans hF3 (fun _ _ h => h.elim) (fun _ _ h => h)
  have hpF : ¬ p = F := fun e => hFp e.symm
  clear hFe hW1
  cases ha : Gr.pRow n o [] (rest tl i) with
  | none =>
    rw [ha] at hp
    have HRN : Hid (R = none) := hid (by rw [← HR.out, ha])
    obtain ⟨ch, rfl, hwr⟩ := wrong_panic hp
    clear ha HR
    go_wp2_with fail
    refine ⟨rfl, hF03, ?_⟩
    rw [HRN.out]
    exact hwr
  | some pr =>
    obtain ⟨d, ts⟩ := pr
    rw [ha] at hp
    obtain ⟨x, i', rfl, hN, hP3, rfl, hii⟩ := hp
    have HRT : Hid (Gr.pAlts n o [d] (rest tl i') = R) := hid (by rw [← HR.out, ha])
    have hs3 := hF3.size
    have HI3 := hid (Its.one (B := F + 1) (by omega) hN)
    have HP3 := hid (hP3.frm ((Frm.refl No w3).alloc (.cells #[.int .i64 (x.k : Int), .string ⟨x.s.toArray⟩, .slice x.ao x.n x.c] 41)))
    have HF4 := hid (hF3.alloc (.cells #[.int .i64 (x.k : Int), .string ⟨x.s.toArray⟩, .slice x.ao x.n x.c] 41))
    have HII := hid hii
    clear ha HR hN hP3 hF3 hii
    unfold nvA
    go_wp2_with fail
    go_loopw [3] (fun v wr => ∃ (m j : Nat) (acc : List Gr.Nd) (xs : List Nv), m ≤ n ∧ 4 * (tl.length - j) + 2 ≤ m ∧ Gr.pAlts m o acc (rest tl j) = R ∧ i ≤ j ∧ acc.length ≤ j + 1 ∧ Par wr p g cap tl j o ∧ Its wr (F + 1) v acc xs ∧ Frm (One p) W1 wr) (fun _ wr => tl.length - posOf p wr)
    case atStart => exact ⟨n, i', [d], [x], Nat.le_refl _, by have := HN.out; have := HII.out; omega, HRT.out, HII.out, by simp, HP3.out, HI3.out, HF4.out⟩
    case round =>
      obtain ⟨m, j, acc, xs, hmn, hmj, hal, hij, hne, hP, hI, hG⟩ := hrel
      obtain ⟨m', rfl⟩ : ∃ m', m = m' + 1 := ⟨m - 1, by omega⟩
      rw [alts_eq] at hal
      have hp1 : posOf p wr = j := by unfold posOf; rw [hP.c1]; rfl
      have HAL := hid hal
      have HG := hid hG
      have HI := hid hI
      have hFF : ∀ a, wr.cell? ⟨F, a, none⟩ = (#[.int .i64 0, .string ⟨#[]⟩, .slice none 0 0] : Array Value)[a]? := fun a => (hG.cell (p := ⟨F, a, none⟩) (by show F < _; omega) (fun e => hFp e)).trans (hf1 a)
      have hZZ : ∀ a, wr.frozen? ⟨F, a, none⟩ = false := fun a => (hG.frozen (p := ⟨F, a, none⟩) (by show F < _; omega) (fun e => hFp e)).trans (hz1 a)
      have hsr := hG.size
      have HPR := hid hP
      have hltj := hP.lt
      have hgp := hP.gp
      clear hal hG hP hf1 hz1
      go_wp2_with fail
      refine (psign_any p g cap tl j o 124 wr HPR.out).mono ?_
      intro e w4 hp4
      cases hs : Gr.sign 124 (rest tl j) with
      | none =>
        rw [hs] at hp4
        obtain ⟨hwr, hF4⟩ := hp4
        have HRN : Hid (R = none) := hid (by rw [← HAL.out, hs])
        obtain ⟨ch, rfl, hwr⟩ := wrong_panic hwr
        clear hs HAL
        go_wp2_with fail
        refine ⟨rfl, (hF1.trans (HG.out.then_ hF4) (fun _ _ h => h.elim) (fun _ _ h => h)), ?_⟩
        rw [HRN.out]
        exact hwr
      | some sb =>
        rw [hs] at hp4
        obtain ⟨rfl, hF4⟩ := hp4
        have hI4 := HI.out.frm hF4 (fun _ _ _ h => h)
        have hP4 := HPR.out.frm hF4
        have HG4 := hid (HG.out.thenNo hF4)
        have hF4F : ∀ a, w4.cell? ⟨F, a, none⟩ = (#[.int .i64 0, .string ⟨#[]⟩, .slice none 0 0] : Array Value)[a]? := fun a => (hF4.cell (p := ⟨F, a, none⟩) (by show F < _; omega) (fun h => h)).trans (hFF a)
        have hZ4 : ∀ a, w4.frozen? ⟨F, a, none⟩ = false := fun a => (hF4.frozen (p := ⟨F, a, none⟩) (by show F < _; omega) (fun h => h)).trans (hZZ a)
        have hs4 := hF4.size
        clear hFF hZZ HI HG hF4
        cases sb with
        | false =>
          have HRN : Hid (R = some (Gr.one 4 acc, rest tl j)) := hid (by rw [← HAL.out, hs])
          have f0 := hF4F 0
          have f1 := hF4F 1
          have f2 := hF4F 2
          clear hs HAL
          by_cases h1 : xs.length = 1
          · obtain ⟨x1, hx1⟩ : ∃ x1, xs = [x1] := List.length_eq_one_iff.mp h1
            obtain ⟨d1, hd1⟩ : ∃ d1, acc = [d1] := List.length_eq_one_iff.mp (by rw [← NdRs.len hI4.kids]; exact h1)
            subst hx1
            subst hd1
            obtain ⟨ao, c, rfl⟩ := ownsRow_shape hI4.own
            obtain ⟨q, rfl, hq1, hq2, k0, k1, k2⟩ := own_cells hI4.own
            obtain ⟨y, ys, hy1, hy2, hy3⟩ := hI4.kids
            have HKD : Hid (NdR w4 (F + 1) d1 x1) := hid (by cases hy1; exact NdQ.mono (fun k hk _ => hk.1) _ _ hy2)
            have HP4 := hid hP4
            clear hI4 hy1 hy2 hy3 hP4 h1
            go_wp2_with fail
            refine bodyPost_ret (v := nvA x1) (by simp [results, Tryd.results34, go_sem, f0, f1, f2, nvA]) rfl ⟨?_, ?_⟩
            · exact (hF1.trans HG4.out (fun _ _ h => h.elim) (fun _ _ h => h)).trans (frm3 (F := F)) (fun _ _ h => h) (fun k hk e => by have e : k = F := e; have := HFE.out; omega)
            · rw [HRN.out]
              refine ⟨x1, j, rfl, ?_, ?_, rfl, hij⟩
              · exact NdR.base (by have := HBW.out; have := HFE.out; omega) _ _ (NdR.frm frm3 (fun k hk _ e => by have e : k = F := e; omega) _ _ HKD.out)
              · exact HP4.out.frmS frm3 (fun e => by have e : p = F := e; omega) (fun e => by have e : g = F := e; have := HSZ.out; have := HFE.out; omega)
          · obtain ⟨ao, c, rfl⟩ := ownsRow_shape hI4.own
            have zl : (((xs.length : Nat) : Int) == 1) = false := by rw [beq_eq_false_iff_ne]; omega
            have HNE : Hid (Gr.one 4 acc = .mk 4 [] acc) := hid (one_ne4 (by rw [← NdRs.len hI4.kids]; exact h1))
            have HKD := hid (Its.node (k := 4) hI4)
            have HP4 := hid hP4
            clear hI4 hP4 h1
            go_wp2_with fail
            refine bodyPost_ret (v := nvA ⟨4, [], ao, xs.length, c⟩) (by simp [results, Tryd.results34, go_sem, f0, f1, f2, nvA]) rfl ⟨?_, ?_⟩
            · exact (hF1.trans HG4.out (fun _ _ h => h.elim) (fun _ _ h => h)).trans (frm3 (F := F)) (fun _ _ h => h) (fun k hk e => by have e : k = F := e; have := HFE.out; omega)
            · rw [HRN.out, HNE.out]
              refine ⟨⟨4, [], ao, xs.length, c⟩, j, rfl, ?_, ?_, rfl, hij⟩
              · exact NdR.base (by have := HBW.out; have := HFE.out; omega) _ _ (NdR.frm frm3 (fun k hk _ e => by have e : k = F := e; omega) _ _ HKD.out)
              · exact HP4.out.frmS frm3 (fun e => by have e : p = F := e; omega) (fun e => by have e : g = F := e; have := HSZ.out; have := HFE.out; omega)
        | true =>
          have hk4 : Hid (tl[j].1.k ≠ 4) := hid (by
            have h1 := hs
            rw [rest_cons hltj] at h1
            obtain ⟨r, hr⟩ := Gr.sign_true h1
            injection hr with e1 e2
            have h2 : (seenAt 4096 j tl[j].1).k = 3 := by rw [e1]; rfl
            have h3 := seen_k (n := 4096) (i := j) (t := tl[j].1) (by omega)
            rw [h3] at h2
            omega)
          have HRT : Hid ((match Gr.pRow m' o [] (rest tl (j + 1)) with | none => none | some (d, r) => Gr.pAlts m' o (acc ++ [d]) r) = R) := hid (by
            have e : (rest tl j).tail = rest tl (j + 1) := by rw [rest_cons hltj]; rfl
            rw [← HAL.out, hs]
            dsimp only
            rw [e])
          have hP5 := hP4.step hk4.out
          have hI5 := hI4.frm (frmOne (b := p) (j := 1) (v := .int .i64 ((j + 1 : Nat) : Int))) (fun k hk _ e => by have e : k = p := e; have := HSZ.out; have := HFE.out; omega)
          have HG5 := hid (HG4.out.then_ (frmOne (b := p) (j := 1) (v := .int .i64 ((j + 1 : Nat) : Int))))
          have c1 := hP4.c1
          have pf := hP4.f 1
          have hw := wrap_succ2 (n := j) (by have := HL.out; omega)
          have hs5 : (w4.setCell ⟨p, 1, none⟩ (.int .i64 ((j + 1 : Nat) : Int))).heap.size = w4.heap.size := by simp [World.setCell]
          have HP5 := hid hP5
          have HI5 := hid hI5
          obtain ⟨W5, hW5⟩ : ∃ W5, w4.setCell ⟨p, 1, none⟩ (.int .i64 ((j + 1 : Nat) : Int)) = W5 := ⟨_, rfl⟩
          rw [hW5] at HP5 HI5 HG5 hs5
          clear hs HAL hP4 hI4 hP5 hI5 hF4F hZ4
          go_wp2_with fail
          simp only [Int.natCast_add, Int.cast_ofNat_Int] at hW5
          try simp only [hW5]
          refine (hA m' (by omega) p g cap tl (j + 1) o W5.heap.size W5 HP5.out (by have := HSZ.out; have := HFE.out; omega) (Nat.le_refl _) (by omega)).mono ?_
          intro e w6 hp6
          obtain ⟨hF6, hp6⟩ := hp6
          have HG6 := hid (HG5.out.then_ hF6)
          clear c1 pf hw hW5
          cases hr : Gr.pRow m' o [] (rest tl (j + 1)) with
          | none =>
            rw [hr] at hp6
            have HRN : Hid (R = none) := hid (by rw [← HRT.out, hr])
            obtain ⟨ch, rfl, hwr⟩ := wrong_panic hp6
            clear hr HRT
            go_wp2_with fail
            refine ⟨rfl, hF1.trans HG6.out (fun _ _ h => h.elim) (fun _ _ h => h), ?_⟩
            rw [HRN.out]
            exact hwr
          | some pr =>
            obtain ⟨d6, ts6⟩ := pr
            rw [hr] at hp6
            obtain ⟨x6, j6, rfl, hN6, hP6, rfl, hj6⟩ := hp6
            have HRT2 : Hid (Gr.pAlts m' o (acc ++ [d6]) (rest tl j6) = R) := hid (by rw [← HRT.out, hr])
            have HI6 := hid (HI5.out.frm hF6 (fun k hk _ e => by have e : k = p := e; have := HSZ.out; have := HFE.out; omega))
            have hown6 := HI6.out.own
            have HX6 : Hid (NdQ w6 (fun k => F + 1 ≤ k ∧ u3.ownBlock ≠ some k) d6 x6) := hid (NdQ.mono (fun k hk _ => ⟨by have hk : W5.heap.size ≤ k := hk; omega, fun e => by have := (HI5.out.own.lt k e).2; have hk : W5.heap.size ≤ k := hk; omega⟩) _ _ hN6)
            have HP6 := hid hP6
            have hs6 := hF6.size
            have HJ6 := hid hj6
            have hxl : xs.length ≤ 65538 := by rw [NdRs.len HI6.out.kids]; have := HL.out; omega
            have HXL := hid hxl
            obtain ⟨i0, gi, gz0, gz1, gz2⟩ := info_parts info_node
            clear hr HRT hN6 hP6 hj6 hxl
            unfold nvA
            go_wp2_with (at_builtin; refine wpList_push _ rfl _ _ 39 rfl (F + 1) 41 i0 _ 3 48 Tryd.underlying39 gi gz0 gz1 gz2 rfl u3 xs.length (rows nvC xs) rfl hown6 [.int .i64 (x6.k : Int), .string ⟨x6.s.toArray⟩, .slice x6.ao x6.n x6.c] rfl rfl (nv_shp.one x6) (by have := HXL.out; omega) (by have := HXL.out; omega) (by omega) ?_; intro v7 w7 hown7 hd7 hv7 hs7)
            go_wp2_with fail
            have hP7 := HP6.out.frmS hd7 (fun e => by have e : u3.ownBlock = some p := e; have := (hown6.lt p e).1; have := HSZ.out; have := HFE.out; omega) (fun e => by have e : u3.ownBlock = some g := e; have := (hown6.lt g e).1; have := HSZ.out; have := HFE.out; omega)
            refine ⟨⟨m', j6, acc ++ [d6], xs ++ [x6], by omega, by have := HJ6.out; omega, HRT2.out, by have := HJ6.out; omega, by rw [List.length_append]; have := HJ6.out; show acc.length + 1 ≤ _; omega, hP7, HI6.out.push HX6.out hown7 hd7 hv7, ?_⟩, ?_⟩
            · exact HG6.out.trans hd7 (fun _ _ h => h) (fun k hk e => by have e : u3.ownBlock = some k := e; have := (hown6.lt k e).1; omega)
            · have e7 : posOf p w7 = j6 := by unfold posOf; rw [hP7.c1]; rfl
              rw [e7, hp1]
              have := HJ6.out
              omega
end Go.Proofs.YtebocnpbiiejmaaDoor
