/- Grammars as texts: the walk of format.Text. -/
import Derived.Test.YtebocnpbiiejmaaDoorTwW5
import Derived.Test.YtebocnpbiiejmaaDoorTwS56
namespace Go.Proofs.YtebocnpbiiejmaaDoor
open Go.RowKit
/-- what is returned where nothing was parsed -/
theorem text_no (w : World) :
    Calls Tryd.prog 6 #[.agg #[.string ⟨#[]⟩, .slice none 0 0]] w fun e w' => e = .returned (.tuple #[.string ⟨#[]⟩, .int .i64 1]) ∧ Frm No w w' := by
  have HP := hid (fun W => Proper_no W)
  go_enter Tryd.func6, Tryd.ntmps6
  go_wp2_with fail
  refine (HP.out _).mono ?_
  rintro e w1 ⟨rfl, hF1⟩
  go_wp2_with fail
  refine bodyPost_ret (v := .tuple #[.string ⟨#[]⟩, .int .i64 1]) (by simp [results, Tryd.results6, go_sem]) rfl ⟨rfl, ((Frm.refl No w).alloc _).thenNo hF1⟩
def headText (gm : Gr.Gm) : List UInt8 := if gm.1 = Gr.headOf gm.2 then [] else [37] ++ (gm.1 ++ [59, 10])
theorem text_eq (gm : Gr.Gm) : Gr.text gm = headText gm ++ gm.2.flatMap Gr.ruleText := rfl
theorem flat_take {α : Type} (f : α → List UInt8) (l : List α) (k : Nat) (h : k < l.length) : (l.take (k + 1)).flatMap f = (l.take k).flatMap f ++ f l[k] := by
  rw [List.take_succ_eq_append_getElem h, List.flatMap_append]
  simp
theorem flat_takele {α : Type} (f : α → List UInt8) (l : List α) (k : Nat) : ((l.take k).flatMap f).length ≤ (l.flatMap f).length := by
  have h : l.flatMap f = (l.take k).flatMap f ++ (l.drop k).flatMap f := by rw [← List.flatMap_append, List.take_append_drop]
  rw [h, List.length_append]
  omega
theorem good_len : ∀ {s : List UInt8}, Gr.goodName s = true → s.length ≤ 32
  | [], _ => Nat.zero_le _
  | c :: r, h => by
    rw [good_cons, Bool.and_eq_true] at h
    exact of_decide_eq_true h.2
theorem text_ne {gm : Gr.Gm} (h : gm.2 ≠ []) : Gr.text gm ≠ [] := by
  rw [text_eq]
  cases hg : gm.2 with
  | nil => exact absurd hg h
  | cons a l =>
    intro e
    have := congrArg List.length e
    simp [Gr.ruleText] at this
theorem head_eq : ∀ {l : List (List UInt8 × Gr.Nd)} (h : 0 < l.length), l[0].1 = Gr.headOf l
  | _a :: _l, _ => rfl
theorem writer_new {w : World} {b : Nat} (hb : w.heap.size = b) : Wri (w.alloc (.cells #[.pointer none, .slice none 0 0] 58)) b (.slice none 0 0) [] :=
  ⟨⟨_, World.cell?_alloc_at _ _ _ _ hb.symm, Or.inl rfl⟩, World.cell?_alloc_at _ _ _ _ hb.symm, fun _ => World.frozen?_alloc_at _ _ _ _ hb.symm, by rw [← hb]; unfold World.shape?; rw [heap_alloc_new]; rfl, World.ownsRow_nil _ _ _ _, by simp [Value.ownBlock]⟩
set_option maxRecDepth 100000 in
set_option maxHeartbeats 8000000 in
theorem text_any (gm : Gr.Gm) (B : Nat) (v : Value) (w : World) (hg : GmR w B gm v) (hn : Gr.goodName gm.1 = true) (h0 : gm.2 ≠ []) (hl : ∀ a ∈ gm.2, Gr.goodName a.1 = true ∧ Gr.proper a.2 = true) (hL : (Gr.text gm).length ≤ 140737488355328) :
    Calls Tryd.prog 6 #[v] w fun e w' => e = .returned (.tuple #[.string ⟨(Gr.text gm).toArray⟩, .int .i64 0]) ∧ Frm No w w' := by
  have HP := hid (fun (W : World) (hf : Frm No w W) => Proper_yes gm B v W (hg.frm hf (fun _ _ _ h => h)) hn h0 hl)
  obtain ⟨rs, ao, c, rfl, ho, hk⟩ := hg
  have hlen := RlsQ.len hk
  have hpos : 0 < rs.length := by
    have h2 : 0 < gm.2.length := List.length_pos_iff.2 h0
    omega
  have h63 := own_le ho
  obtain ⟨q, cap, e, hqB, hqw, hcap, hcell, hqz⟩ := own_at rv_shp ho hpos
  injection e with e1 e2 e3
  subst e1
  subst e3
  have hk2 : RlsQ w (fun k => k < w.heap.size) gm.2 rs := RlsQ.mono (fun k _ h => h) _ _ hk
  have hnm : rs[0].nm = Gr.headOf gm.2 := by
    have h2 : 0 < gm.2.length := by omega
    rw [(RlsQ.at_ hk 0 h2 hpos).1]
    exact head_eq h2
  have hc0 : w.cell? ⟨q, 0, none⟩ = some (.string ⟨(Gr.headOf gm.2).toArray⟩) := by
    have h := hcell 0 (by decide)
    rw [Nat.zero_mul, Nat.add_zero] at h
    rw [← hnm]
    exact h
  have HCE : Hid (∀ i (hi : i < rs.length) j, j < 4 → w.cell? ⟨q, i * 4 + j, none⟩ = (rvC rs[i])[j]?) := hid (fun i hi j hj => by
    obtain ⟨q', cap', e, _, _, _, h, _⟩ := own_at rv_shp ho hi
    injection e with e1 e2 e3
    injection e1 with e1
    injection e1 with e1 _
    subst e1
    exact h j hj)
  have HK := hid hk2
  have HLEN := hid hlen
  have HQW := hid hqw
  have HL := hid hL
  have HNE := hid h0
  have HG1 : Hid (gm.1.length ≤ 32) := hid (good_len hn)
  have HPR := hid hl
  have hposz : (0 : Int) < (rs.length : Int) := by omega
  clear ho hk hn h0 hl hL hcell hqz hcap hqB hk2 hnm hlen
  go_enter Tryd.func6, Tryd.ntmps6
  go_wp2_with (go_at_call 12; refine (HP.out _ ((Frm.refl No w).alloc _)).mono ?_; rintro e w1 ⟨rfl, hF1⟩; have hG0 := hF1.box 0; have hG1 := hF1.box 1; have hFw := ((Frm.refl No w).alloc (.cells #[.string ⟨gm.1.toArray⟩, .slice (some ⟨q, 0, none⟩) rs.length c] 25)).thenNo hF1; have hsz := hF1.size; rw [World.size_alloc] at hsz)
  obtain ⟨F, hF⟩ : ∃ F, w.heap.size = F := ⟨_, rfl⟩
  obtain ⟨b, hb⟩ : ∃ b, w1.heap.size = b := ⟨_, rfl⟩
  have hW2 := writer_new hb
  have hf2 : Frm No w1 (w1.alloc (.cells #[.pointer none, .slice none 0 0] 58)) := (Frm.refl No w1).alloc _
  have hFb : F < b := by omega
  have g0 := (hf2.cell (p := ⟨w.heap.size, 0, none⟩) (by show w.heap.size < _; omega) (fun h => h)).trans hG0
  have g1 := (hf2.cell (p := ⟨w.heap.size, 1, none⟩) (by show w.heap.size < _; omega) (fun h => h)).trans hG1
  have HFW := hid (hFw.thenNo hf2)
  have q0 := (HFW.out.cell (p := ⟨q, 0, none⟩) HQW.out (fun h => h)).trans hc0
  have HW2 := hid hW2
  have HB := hid hb
  have HF := hid hF
  rw [hF] at g0 g1
  simp only [hF, hb]
  clear hG0 hG1 hFw hf2 hF1 hW2 hb hF hsz
  generalize w1.alloc (.cells #[.pointer none, .slice none 0 0] 58) = W2 at *
  go_quiet (fail)
  go_upto_if 17 with fail
  generalize hW3 : W2.drewN _ = W3
  have hf3 : Frm No W2 W3 := by rw [← hW3]; exact (Frm.refl No W2).drewN _
  have p0 := (hf3.cell (World.block_lt_of_cell? W2 _ g0) (fun h => h)).trans g0
  have p1 := (hf3.cell (World.block_lt_of_cell? W2 _ g1) (fun h => h)).trans g1
  have HW3 := hid (HW2.out.no hf3)
  have HFW3 := hid (HFW.out.thenNo hf3)
  clear hW3 hf3 g0 g1 q0 HW2 HFW
  have HX1 : Hid (∀ (W : World) (v1 : Value) (m : List UInt8), Wrote b W3 (.slice none 0 0) m v1 W → W.cell? ⟨F, 1, none⟩ = some (.slice (some ⟨q, 0, none⟩) rs.length c)) := hid (fun W v1 m h =>
    (h.frm.cell (World.block_lt_of_cell? W3 _ p1) (writer_set HW3.out hFb)).trans p1)
  have hcat1 : (⟨#[37]⟩ : ByteArray) ++ ⟨gm.1.toArray⟩ = ⟨(37 :: gm.1).toArray⟩ := str_append_byte 37 gm.1
  have hcat2 : (⟨(37 :: gm.1).toArray⟩ : ByteArray) ++ ⟨#[59, 10]⟩ = ⟨(37 :: gm.1 ++ [59, 10]).toArray⟩ := str_append (37 :: gm.1) [59, 10]
  have hs1 : ¬ 9223372036854775807 < 1 + gm.1.length := by have := HG1.out; omega
  have hs2 : ¬ 9223372036854775807 < gm.1.length + 1 + 2 := by have := HG1.out; omega
  have HHL : Hid ((headText gm).length ≤ 140737488355328) := hid (by have h := HL.out; rw [text_eq, List.length_append] at h; omega)
  generalize hbe : (gm.1 == Gr.headOf gm.2) = bh
  have HBE := hid hbe
  clear hbe
  go_cut [] from 18 to 43 (fun wx => ∃ v3, Wrote b W3 (.slice none 0 0) (headText gm) v3 wx)
  case first =>
    cases bh with
    | true =>
      have HE : Hid (headText gm = []) := hid (if_pos (eq_of_beq HBE.out))
      go_wp2_with fail
      go_meet
      exact ⟨_, by rw [HE.out]; exact Wrote.refl HW3.out⟩
    | false =>
      have HE : Hid (headText gm = 37 :: (gm.1 ++ [59, 10])) := hid (if_neg (fun e => by have h := HBE.out; rw [e, beq_self_eq_true] at h; cases h))
      have HHL2 : Hid ((37 :: (gm.1 ++ [59, 10])).length ≤ 140737488355328) := hid (by rw [← HE.out]; exact HHL.out)
      go_wp2_with fail
      refine (wstr_any b _ [] (37 :: (gm.1 ++ [59, 10])) W3 HW3.out (by have := HHL2.out; simp only [List.length_nil]; omega)).mono ?_
      rintro e w4 ⟨rfl, v4, h4⟩
      go_wp2_with fail
      go_meet
      exact ⟨v4, by rw [HE.out]; exact h4⟩
  case rest =>
    obtain ⟨v3, h3⟩ := hcut
    have x1 := HX1.out wc v3 _ h3
    have H3 := hid h3
    have HFB : Hid (w.heap.size ≤ b) := hid (by have := HF.out; omega)
    have HCR : Hid (∀ (W : World) (v1 : Value) (m : List UInt8), Wrote b W3 (.slice none 0 0) m v1 W → ∀ i (hi : i < rs.length) j, j < 4 → W.cell? ⟨q, i * 4 + j, none⟩ = (rvC rs[i])[j]?) := hid (fun W v1 m h i hi j hj => by
      have hq3 : q < W3.heap.size := by have := HFW3.out.size; have := HQW.out; omega
      rw [h.frm.cell (p := ⟨q, i * 4 + j, none⟩) hq3 (writer_set HW3.out (by have := HQW.out; have := HFB.out; show q < b; omega)), HFW3.out.cell (p := ⟨q, i * 4 + j, none⟩) HQW.out (fun h => h)]
      exact HCE.out i hi j hj)
    have HTR : Hid (∀ (W : World) (v1 : Value) (m : List UInt8), Wrote b W3 (.slice none 0 0) m v1 W → ∀ i (hd : i < gm.2.length) (hi : i < rs.length), NdQ W (fun k => k < w.heap.size) gm.2[i].2 rs[i].x) := hid (fun W v1 m h i hd hi =>
      h.tree HW3.out (fun k hk => by have hk : k < w.heap.size := hk; have := HFB.out; omega) ((RlsQ.at_ HK.out i hd hi).2.no HFW3.out))
    have HLL : Hid ((headText gm ++ gm.2.flatMap Gr.ruleText).length ≤ 140737488355328) := hid (by rw [← text_eq]; exact HL.out)
    clear h3 p0 p1 hcat1 hcat2 hs1 hs2 hc0
    go_wp2_with fail
    go_loopw [27] (fun i wr => ∃ (k : Nat) (v1 : Value), k ≤ rs.length ∧ i = .int .i64 (k : Int) ∧ Wrote b W3 (.slice none 0 0) (headText gm ++ (gm.2.take k).flatMap Gr.ruleText) v1 wr)
      (fun i _ => rs.length - (intOf i).toNat)
    case atStart => exact ⟨0, v3, by omega, rfl, by rw [List.take_zero]; show Wrote b W3 _ (headText gm ++ []) v3 wc; rw [List.append_nil]; exact H3.out⟩
    case round =>
      obtain ⟨k, v1, hk, rfl, hw⟩ := hrel
      have HKW := hid hw
      clear hw
      by_cases hkl : k < rs.length
      · have hkz : (k : Int) < (rs.length : Int) := by omega
        have hkd : k < gm.2.length := by have := HLEN.out; omega
        have z := HCR.out wr v1 _ HKW.out k hkl
        have HT := hid (HTR.out wr v1 _ HKW.out k hkd hkl)
        have HPA := HPR.out gm.2[k] (List.getElem_mem hkd)
        have hnm := (RlsQ.at_ HK.out k hkd hkl).1
        have HFT := hid (flat_take Gr.ruleText gm.2 k hkd)
        have HFL := hid (flat_takele Gr.ruleText gm.2 (k + 1))
        obtain ⟨r, hr⟩ : ∃ r, rs[k] = r := ⟨_, rfl⟩
        obtain ⟨a, ha⟩ : ∃ a, gm.2[k] = a := ⟨_, rfl⟩
        rw [hr] at z HT hnm
        rw [ha] at HT HPA hnm HFT
        obtain ⟨nm, x⟩ := r
        obtain ⟨an, d⟩ := a
        obtain rfl : nm = an := hnm
        have HPUT := hid (fun (W : World) (u : Value) (m : List UInt8) hW hN hl => (nput_all d HPA.2).1 W b u m x (fun k => k < w.heap.size) hW hN (fun k hk => by have hk : k < w.heap.size := hk; have := HFB.out; omega) hl)
        have hnl : nm.length ≤ 32 := good_len HPA.1
        have HLK : Hid ((headText gm ++ (gm.2.take k).flatMap Gr.ruleText).length + (nm.length + 2 + ((Gr.pr Gr.AB d).put.length + 2)) ≤ 140737488355328) := hid (by
          have h1 := HLL.out
          have h2 := HFL.out
          rw [HFT.out] at h2
          simp only [List.length_append, Gr.ruleText, List.length_cons, List.length_nil] at h1 h2 ⊢
          omega)
        have HRT : Hid ((gm.2.take (k + 1)).flatMap Gr.ruleText = (gm.2.take k).flatMap Gr.ruleText ++ (nm ++ ([58, 32] ++ ((Gr.pr Gr.AB d).put ++ [59, 10])))) := hid HFT.out
        have r0 : wr.cell? ⟨q, k * 4, none⟩ = some (.string ⟨nm.toArray⟩) := z 0 (by decide)
        have r1 : wr.cell? ⟨q, k * 4 + 1, none⟩ = some (.int .i64 (x.k : Int)) := z 1 (by decide)
        have r2 : wr.cell? ⟨q, k * 4 + 2, none⟩ = some (.string ⟨x.s.toArray⟩) := z 2 (by decide)
        have r3 : wr.cell? ⟨q, k * 4 + 3, none⟩ = some (.slice x.ao x.n x.c) := z 3 (by decide)
        have hcat : (⟨nm.toArray⟩ : ByteArray) ++ ⟨#[58, 32]⟩ = ⟨(nm ++ [58, 32]).toArray⟩ := str_append nm [58, 32]
        have hsz : ¬ 9223372036854775807 < nm.length + 2 := by omega
        generalize (Gr.pr Gr.AB d).put = PT at *
        unfold nvA at HPUT
        have HWL : Hid (∀ k, k < w.heap.size → k < b) := hid (fun k hk => by have := HFB.out; omega)
        clear z hr ha hnl HPA
        go_wp2_with fail
        refine (wstr_any b v1 _ (nm ++ [58, 32]) _ (HKW.out.at_.al _) (by have h := HLK.out; simp only [List.length_append, List.length_cons, List.length_nil] at h ⊢; omega)).mono ?_
        rintro e w2 ⟨rfl, v2, h2⟩
        have b1 := Wrote.box HKW.out.at_ h2 1
        have b2 := Wrote.box HKW.out.at_ h2 2
        have b3 := Wrote.box HKW.out.at_ h2 3
        have HT2 := hid (h2.tree (HKW.out.at_.al _) HWL.out (HT.out.al _))
        have H2 := hid h2
        clear h2 r0 r1 r2 r3
        go_wp2_with fail
        refine (HPUT.out w2 v2 _ H2.out.at_ HT2.out (by have h := HLK.out; simp only [List.length_append, List.length_cons, List.length_nil] at h ⊢; omega)).mono ?_
        rintro e w3 ⟨rfl, v4, h4⟩
        have H4 := hid h4
        clear h4 b1 b2 b3
        go_wp2_with fail
        refine (wstr_any b v4 _ [59, 10] _ H4.out.at_ (by have h := HLK.out; simp only [List.length_append, List.length_cons, List.length_nil] at h ⊢; omega)).mono ?_
        rintro e w5 ⟨rfl, v5, h5⟩
        have HFN : Hid (Wrote b W3 (.slice none 0 0) (headText gm ++ (gm.2.take (k + 1)).flatMap Gr.ruleText) v5 w5) := hid (by
          have h := HKW.out.trans (Wrote.behind ((Frm.refl No wr).alloc _) (H2.out.trans (H4.out.trans h5)))
          rw [HRT.out]
          simp only [List.append_assoc] at h ⊢
          exact h)
        clear h5
        go_wp2_with fail
        exact ⟨⟨k + 1, v5, by omega, by go_num, HFN.out⟩, by simp [intOf]; omega⟩
      · obtain rfl : k = rs.length := by omega
        have hpz : ¬ (rs.length : Int) < (rs.length : Int) := by omega
        have HTX : Hid (headText gm ++ (gm.2.take rs.length).flatMap Gr.ruleText = Gr.text gm) := hid (by rw [HLEN.out, List.take_length]; rfl)
        have HS := hid (wtext_any b v1 (Gr.text gm) wr (by rw [← HTX.out]; exact HKW.out.at_) (text_ne HNE.out))
        have HFZ : Hid (Frm No w wr) := hid (HFW3.out.trans HKW.out.frm (fun _ _ h => h) (fun i hi e => by exact absurd e (writer_set HW3.out (by have := HFB.out; omega))))
        go_wp2_with fail
        refine HS.out.mono ?_
        rintro e w6 ⟨rfl, hF6⟩
        go_wp2_with fail
        refine bodyPost_ret (v := .tuple #[.string ⟨(Gr.text gm).toArray⟩, .int .i64 0]) (by simp [results, Tryd.results6, go_sem]) rfl ⟨rfl, ?_⟩
        exact HFZ.out.trans hF6 (fun _ _ h => h) (fun i hi e => absurd e (writer_set HKW.out.at_ (by have := HFB.out; omega)))
end Go.Proofs.YtebocnpbiiejmaaDoor
