/- The reference's Close. Printed by a program (refdeeds.py). The reference's Open. Printed by a program (refdeeds.py). -/
import Derived.Test.YtofcmghhmklmiaaGreatRefD1
namespace Go.Proofs.YtofcmghhmklmiaaGreat
open Go.RowKit
open Roll
theorem rdl_take {α : Type} {cells : α → List Value} {K : Nat} {w : World} {g o c p : Nat} {l : List α} (h : RdL w (.slice (some ⟨g, o, none⟩) l.length c) K cells l) (hp : p ≤ l.length) : RdL w (.slice (some ⟨g, o, none⟩) p c) K cells (l.take p) := by
  have hl : (l.take p).length = p := by rw [List.length_take]; omega
  by_cases h0 : p = 0
  · subst h0
    exact ⟨.inl ⟨by simp, _, _, rfl⟩⟩
  · obtain ⟨g', o', h2, h3⟩ := h.at_ (by omega)
    cases h2
    refine ⟨.inr ⟨g, o, c, by rw [hl], fun i hi j hj => ?_⟩⟩
    rw [h3 i (by omega) j hj, List.getElem_take]
theorem rdl_drop {α : Type} {cells : α → List Value} {K : Nat} {w : World} {g o c c' p : Nat} {l : List α} (h : RdL w (.slice (some ⟨g, o, none⟩) l.length c) K cells l) (hp : p ≤ l.length) : RdL w (.slice (some ⟨g, o + p * K, none⟩) (l.length - p) c') K cells (l.drop p) := by
  have hl : (l.drop p).length = l.length - p := by rw [List.length_drop]
  by_cases h0 : l.length - p = 0
  · refine ⟨.inl ⟨List.eq_nil_of_length_eq_zero (by omega), _, _, by rw [h0]⟩⟩
  · obtain ⟨g', o', h2, h3⟩ := h.at_ (by omega)
    cases h2
    refine ⟨.inr ⟨g, o + p * K, c', by rw [hl], fun i hi j hj => ?_⟩⟩
    have h4 := h3 (p + i) (by omega) j hj
    rw [Nat.add_mul] at h4
    rw [show o + p * K + (i * K + j) = o + (p * K + i * K + j) by rw [Nat.add_assoc, Nat.add_assoc (p * K)], h4, List.getElem_drop]
/-- The copy with another list of classes. -/
theorem OutI.rdC {w wr : World} {A C base b2 : Nat} {mv cv v : Value} {R : Rl} {cs l : List CV} (h : OutI w wr A C base mv cv R cs) (ho : wr.ownsRow b2 57 3 v l.length (rows clsV l)) (hs : ∀ p ∈ l, RdL wr (sv p) 1 strV p.1.students) : RlR wr mv v ⟨R.mems, l.map (·.1)⟩ :=
  ⟨rdl_own memS h.own.mo, l, rfl, rdl_own clsS ho, hs⟩
theorem OutI.students {w wr : World} {A C base : Nat} {mv cv : Value} {R : Rl} {cs : List CV} (h : OutI w wr A C base mv cv R cs) (p : CV) (hp : p ∈ cs) : RdL wr (sv p) 1 strV p.1.students := rdl_own strS (h.own.so p hp)
set_option maxRecDepth 100000 in
set_option maxHeartbeats 8000000 in
theorem reclose_any (R : Rl) (mv cv : Value) (c : B) (w : World) (hr : RlR w mv cv R) (hI : Inv R) :
    Calls Tryz.prog 30 #[.agg #[mv, cv], .string ⟨c.toArray⟩] w (DeedP w (close R c)) := by
  obtain ⟨j0, ji, jz0, jz1, jz2⟩ := info_parts info_rcls
  have hml := hI.ml
  have hcl := hI.cl
  have HK := hid (fun w1 (hf : Frm No w w1) => rof_any R mv cv c w1 (hr.no hf) hI)
  have HC := hid (fun w1 (hf : Frm No w w1) => rcopy_any R mv cv [] w1 (hr.no hf) hI)
  obtain ⟨mao, mcp, rfl⟩ := hr.mr.shape
  obtain ⟨cs, hfs, hc, -⟩ := hr.cr
  have hcsl : cs.length = R.clss.length := by rw [← hfs]; simp
  have HCR := hid (fun w1 (hf : Frm No w w1) => hc.frm (fun _ _ => rfl) hf (fun _ _ h => h))
  have HFS := hid hfs
  obtain ⟨cao, ccp, rfl⟩ := hc.shape
  obtain ⟨ml, hmle⟩ : ∃ ml, R.mems.length = ml := ⟨_, rfl⟩
  obtain ⟨cl, hcle⟩ : ∃ cl, cs.length = cl := ⟨_, rfl⟩
  have HML := hid hmle
  have HCL := hid hcle
  have HCR2 : Hid (R.clss.length = cl) := hid (by omega)
  have HDL : Hid (∀ x y : B, (x == y) = decide (x = y)) := hid (fun x y => by rw [Bool.eq_iff_iff]; simp)
  have HI := hid hI
  rw [← hcsl, hcle] at hcl
  rw [hmle] at hml ⊢
  rw [hcle] at ⊢
  simp only [hmle, hcle] at HK HC
  clear hr hc hfs hcsl hmle hcle hI
  cases h1 : has Cls.name R.clss c with
  | false =>
    as_aux_lemma =>
    have he : close R c = (Roll.nil, 10) := by unfold close; rw [if_pos h1]
    rw [ofB_no h1] at HK
    rw [he]
    clear he h1 HC HI HML HCR HFS HCL HCR2
    go_enter Tryz.func30, Tryz.ntmps30
    go_upto_region 1 with fail
    have X0 := Box.new (Frm.refl No w) [.slice mao ml mcp, .slice cao cl ccp] 31
    have X1 := Box.new X0.frm [.slice none 0 0, .slice none 0 0] 31
    have Y0 := X0.no ((Frm.refl No _).alloc (.cells #[.slice none 0 0, .slice none 0 0] 31))
    simp only [World.size_alloc] at X1
    obtain ⟨W, hW⟩ : ∃ W, W = (w.alloc (.cells #[.slice mao ml mcp, .slice cao cl ccp] 31)).alloc (.cells #[.slice none 0 0, .slice none 0 0] 31) := ⟨_, rfl⟩
    rw [← hW] at X1 Y0 ⊢
    clear hW
    obtain ⟨b, hb⟩ : ∃ b, w.heap.size = b := ⟨_, rfl⟩
    rw [hb] at X1 Y0
    simp only [hb]
    have F1 := X1.frm
    have HX1 := hid X1
    have HY0 := hid Y0
    have cW := Y0.cell
    clear X0 X1 Y0
    go_wp2_with (go_at_call 15; refine (HK.out _ F1).mono ?_; rintro e w1 ⟨rfl, hfw1⟩; have BX := HX1.out.no hfw1; have BY := HY0.out.no hfw1; have cXw1 := BX.cell; have fXw1 := BX.fr; have cYw1 := BY.cell)
    have BX4 := (BX.set 0 (by simp) (.slice none 0 0)).set 1 (by simp) (.slice none 0 0)
    have e0 := BX4.cell 0
    have e1 := BX4.cell 1
    simp only [List.set_cons_zero, List.set_cons_succ, List.getElem?_cons_zero, List.getElem?_cons_succ] at e0 e1
    refine bodyPost_ret (v := .tuple #[.agg #[.slice none 0 0, .slice none 0 0], .int .i64 10]) (by simp [results, Tryz.results30, go_sem, e0, e1]) rfl ⟨_, _, rfl, nil_rd _, BX4.frm⟩
  | true =>
    as_aux_lemma =>
    have HGR := hid (close_ok h1)
    obtain ⟨hpl, -⟩ := (has_at HI.out.cs).1 h1
    rw [ofB_yes h1] at HK
    clear h1
    rw [HCR2.out] at hpl
    obtain ⟨p, hpe⟩ : ∃ p, place Cls.name R.clss c = p := ⟨_, rfl⟩
    simp only [hpe] at HK hpl HGR
    have hp0 : ¬ (p : Int) < 0 := by omega
    have hpz : (p : Int) < (cl : Int) := by omega
    clear hpe
    go_enter Tryz.func30, Tryz.ntmps30
    go_upto_region 1 with fail
    have X0 := Box.new (Frm.refl No w) [.slice mao ml mcp, .slice cao cl ccp] 31
    have X1 := Box.new X0.frm [.slice none 0 0, .slice none 0 0] 31
    have Y0 := X0.no ((Frm.refl No _).alloc (.cells #[.slice none 0 0, .slice none 0 0] 31))
    simp only [World.size_alloc] at X1
    obtain ⟨W, hW⟩ : ∃ W, W = (w.alloc (.cells #[.slice mao ml mcp, .slice cao cl ccp] 31)).alloc (.cells #[.slice none 0 0, .slice none 0 0] 31) := ⟨_, rfl⟩
    rw [← hW] at X1 Y0 ⊢
    clear hW
    obtain ⟨b, hb⟩ : ∃ b, w.heap.size = b := ⟨_, rfl⟩
    rw [hb] at X1 Y0
    simp only [hb]
    have F1 := X1.frm
    have HX1 := hid X1
    have HY0 := hid Y0
    have cW := Y0.cell
    clear X0 X1 Y0
    go_upto_region 5 with (first | (go_at_call 15; refine (HK.out _ F1).mono ?_; rintro e w1 ⟨rfl, hfw1⟩; have BX := HX1.out.no hfw1; have BY := HY0.out.no hfw1; have cXw1 := BX.cell; have fXw1 := BX.fr; have cYw1 := BY.cell) | (go_at_call 67; refine (HC.out _ BY.frm).mono ?_; rintro e wc hcp; obtain ⟨ma', mc', ca', cc', cs', rfl, ho, hfc, hcl'⟩ := hcp.all' HML.out HCR2.out; have BA := BX.no hfc))
    have BA0 : w.heap.size ≤ w1.heap.size := BX.frm.size
    have hO := OutI.make 31 BA ho BX.lC BA0
    obtain ⟨WA, hWA⟩ : ∃ WA, WA = wc.alloc (.cells #[.slice ma' ml mc', .slice ca' cl cc'] 31) := ⟨_, rfl⟩
    rw [← hWA] at hO ⊢
    clear hWA
    obtain ⟨C, hC⟩ : ∃ C, wc.heap.size = C := ⟨_, rfl⟩
    rw [hC] at hO
    (try simp only [hC])
    have HO := hid hO
    clear hO BA BX BY cXw1 fXw1 cYw1 HX1 HY0 hfw1 F1 cW ho hfc HC HK hcp BA0
    generalize w1.heap.size = base at *
    have hcr : RdL WA (.slice ca' cs'.length cc') 3 clsV cs' := rdl_own clsS (by rw [hcl']; have := HO.out.own.co; rw [hcl'] at this; exact this)
    obtain ⟨g, o, rfl, -⟩ := hcr.at_ (by omega)
    have hc0 := HO.out.own.co
    rw [hcl'] at hc0
    rcases hc0.2 with ⟨hbad, -⟩ | ⟨g', cap', cur, hv, hbg, hg, hnc, hcm, hcs, htake⟩
    · cases hbad
    simp only [Value.slice.injEq, Option.some.injEq, Addr.mk.injEq, and_true, true_and] at hv
    obtain ⟨⟨rfl, rfl⟩, rfl⟩ := hv
    have HS1 := hid (fun w' (hf : Frm No WA w') => rdl_take (p := p) ((hcr.frm (fun _ _ => rfl) hf (fun _ _ h => h))) (by omega))
    have HT1 : Hid (∀ w', Frm No WA w' → Src Tryz.prog 3 29 (.slice (some ⟨g, 0, none⟩) p cc') p (rows clsV (cs'.take p)) w') := hid (fun w' hf => by have := src_rdl clsS (by omega) Tryz.underlying29 (HS1.out w' hf); rw [List.length_take, Nat.min_eq_left (by omega)] at this; exact this)
    have c0 := HO.out.box.cell
    have HFW := hid (Frm.refl No WA)
    have hszW : WA.heap.size ≤ WA.heap.size := Nat.le_refl _
    have hnc2 : cl ≤ cc' := hnc
    clear hc0 hbg hg hnc hcm hcs htake HS1
    by_cases hcap : cc' = p + 1
    · as_aux_lemma =>
      subst hcap
      obtain rfl : cl = p + 1 := by omega
      have HDR : Hid (cs'.drop (p + 1) = []) := hid (List.drop_eq_nil_of_le (by omega))
      have HT2 : Hid (∀ w', Frm No WA w' → Src Tryz.prog 3 29 (.slice (some ⟨g, 0, none⟩) 0 0) 0 (rows clsV (cs'.drop (p + 1))) w') := hid (fun w' hf => by rw [HDR.out]; exact src_rdl (l := ([] : List CV)) clsS (by omega) Tryz.underlying29 ⟨.inl ⟨rfl, _, _, rfl⟩⟩)
      clear hcr
      go_wp2_with (first | (at_builtin; refine wpList_append_src _ rfl (.tmp 17) (.tmp 21) 29 29 rfl WA.heap.size 57 j0 _ 3 56 Tryz.underlying29 ji jz0 jz1 jz2 rfl (.slice none 0 0) (0) ([]) rfl (World.ownsRow_nil _ _ _ _) _ (p) (rows clsV (cs'.take p)) rfl (HT1.out _ HFW.out) (by unfold maxLen; omega) (by omega) hszW ?_; intro v4 w4 hown4 hfr4 hv4; rw [Nat.zero_add, List.nil_append] at hown4; have hF4 : Frm No WA w4 := frm_own HFW.out hfr4 (fun k hk => by cases hk); obtain ⟨lo4, lc4, rfl⟩ := ownsRow_shape hown4; have hsz4 := hF4.size; have hO4 := HO.out.no hF4; have d0 := hO4.box.cell; clear hO4) | (at_builtin; refine wpList_append_src _ rfl (.tmp 23) (.tmp 28) 29 29 rfl WA.heap.size 57 j0 _ 3 56 Tryz.underlying29 ji jz0 jz1 jz2 rfl (.slice lo4 p lc4) (p) (rows clsV (cs'.take p)) rfl hown4 _ (0) (rows clsV (cs'.drop (p + 1))) rfl (HT2.out _ hF4) (by unfold maxLen; omega) (by omega) hsz4 ?_; intro v5 w5 hown5 hfr5 hv5; (try rw [Nat.add_zero] at hown5); have hF5 : Frm No WA w5 := frm_own hF4 hfr5 (fun k hk => (hown4.lt k hk).1); obtain ⟨lo5, lc5, rfl⟩ := ownsRow_shape hown5; have hO5 := HO.out.no hF5; have d2 := hO5.box.cell; have d2f := hO5.box.fr; have d3 := hO5.res.cell; have d3f := hO5.res.fr; have hAC := hO5.AC))
      have hfin := hO5.rdC (l := cs'.take p ++ cs'.drop (p + 1)) (by rw [rows_append]; rw [show (cs'.take p ++ cs'.drop (p + 1)).length = p by rw [List.length_append, List.length_take, List.length_drop, hcl']; omega]; exact hown5) (fun q hq => hO5.students q (by rcases List.mem_append.1 hq with h | h; exact List.mem_of_mem_take h; exact List.mem_of_mem_drop h))
      rw [show (cs'.take p ++ cs'.drop (p + 1)).map (·.1) = R.clss.take p ++ R.clss.drop (p + 1) by rw [List.map_append, List.map_take, List.map_drop, HO.out.own.fst]] at hfin

      obtain ⟨BE, hre⟩ := end_C (j := 1) (l := (.slice lo5 (p) lc5)) (mv' := (.slice ma' ml mc')) (cv' := (.slice lo5 (p) lc5)) hO5.res hO5.box hO5.AC nil3 nil3 ⟨_, _, _, rfl⟩ ⟨_, _, _, rfl⟩ hfin
      have e0 := BE.cell 0
      have e1 := BE.cell 1
      simp only [List.getElem?_cons_zero, List.getElem?_cons_succ] at e0 e1
      refine bodyPost_ret (v := .tuple #[.agg #[(.slice ma' ml mc'), (.slice lo5 (p) lc5)], .int .i64 0]) (by simp [results, Tryz.results30, go_sem, e0, e1]) rfl ⟨_, _, by rw [HGR.out], by rw [HGR.out]; exact hre, BE.frm⟩
    · as_aux_lemma =>
      have HS2 := hid (fun w' (hf : Frm No WA w') => rdl_drop (c' := cc' - (p + 1)) (p := p + 1) ((hcr.frm (fun _ _ => rfl) hf (fun _ _ h => h))) (by omega))
      rw [hcl'] at HS2
      have HT2 : Hid (∀ w', Frm No WA w' → Src Tryz.prog 3 29 (.slice (some ⟨g, (p + 1) * 3, none⟩) (cl - (p + 1)) (cc' - (p + 1))) (cl - (p + 1)) (rows clsV (cs'.drop (p + 1))) w') := hid (fun w' hf => by have := src_rdl clsS (by omega) Tryz.underlying29 (HS2.out w' hf); rw [List.length_drop, hcl', Nat.zero_add] at this; exact this)
      clear hcr HS2
      go_wp2_with (first | (at_builtin; refine wpList_append_src _ rfl (.tmp 17) (.tmp 21) 29 29 rfl WA.heap.size 57 j0 _ 3 56 Tryz.underlying29 ji jz0 jz1 jz2 rfl (.slice none 0 0) (0) ([]) rfl (World.ownsRow_nil _ _ _ _) _ (p) (rows clsV (cs'.take p)) rfl (HT1.out _ HFW.out) (by unfold maxLen; omega) (by omega) hszW ?_; intro v4 w4 hown4 hfr4 hv4; rw [Nat.zero_add, List.nil_append] at hown4; have hF4 : Frm No WA w4 := frm_own HFW.out hfr4 (fun k hk => by cases hk); obtain ⟨lo4, lc4, rfl⟩ := ownsRow_shape hown4; have hsz4 := hF4.size; have hO4 := HO.out.no hF4; have d0 := hO4.box.cell; clear hO4) | (at_builtin; refine wpList_append_src _ rfl (.tmp 23) (.tmp 28) 29 29 rfl WA.heap.size 57 j0 _ 3 56 Tryz.underlying29 ji jz0 jz1 jz2 rfl (.slice lo4 p lc4) (p) (rows clsV (cs'.take p)) rfl hown4 _ (cl - (p + 1)) (rows clsV (cs'.drop (p + 1))) rfl (HT2.out _ hF4) (by unfold maxLen; omega) (by omega) hsz4 ?_; intro v5 w5 hown5 hfr5 hv5; (try rw [Nat.add_zero] at hown5); have hF5 : Frm No WA w5 := frm_own hF4 hfr5 (fun k hk => (hown4.lt k hk).1); obtain ⟨lo5, lc5, rfl⟩ := ownsRow_shape hown5; have hO5 := HO.out.no hF5; have d2 := hO5.box.cell; have d2f := hO5.box.fr; have d3 := hO5.res.cell; have d3f := hO5.res.fr; have hAC := hO5.AC))
      have hfin := hO5.rdC (l := cs'.take p ++ cs'.drop (p + 1)) (by rw [rows_append]; rw [show (cs'.take p ++ cs'.drop (p + 1)).length = p + (cl - (p + 1)) by rw [List.length_append, List.length_take, List.length_drop, hcl']; omega]; exact hown5) (fun q hq => hO5.students q (by rcases List.mem_append.1 hq with h | h; exact List.mem_of_mem_take h; exact List.mem_of_mem_drop h))
      rw [show (cs'.take p ++ cs'.drop (p + 1)).map (·.1) = R.clss.take p ++ R.clss.drop (p + 1) by rw [List.map_append, List.map_take, List.map_drop, HO.out.own.fst]] at hfin

      obtain ⟨BE, hre⟩ := end_C (j := 1) (l := (.slice lo5 (p + (cl - (p + 1))) lc5)) (mv' := (.slice ma' ml mc')) (cv' := (.slice lo5 (p + (cl - (p + 1))) lc5)) hO5.res hO5.box hO5.AC nil3 nil3 ⟨_, _, _, rfl⟩ ⟨_, _, _, rfl⟩ hfin
      have e0 := BE.cell 0
      have e1 := BE.cell 1
      simp only [List.getElem?_cons_zero, List.getElem?_cons_succ] at e0 e1
      refine bodyPost_ret (v := .tuple #[.agg #[(.slice ma' ml mc'), (.slice lo5 (p + (cl - (p + 1))) lc5)], .int .i64 0]) (by simp [results, Tryz.results30, go_sem, e0, e1]) rfl ⟨_, _, by rw [HGR.out], by rw [HGR.out]; exact hre, BE.frm⟩
end Go.Proofs.YtofcmghhmklmiaaGreat

namespace Go.Proofs.YtofcmghhmklmiaaGreat
open Go.RowKit
open Roll
set_option maxRecDepth 100000 in
set_option maxHeartbeats 8000000 in
theorem reopen_any (R : Rl) (mv cv : Value) (c t : B) (w : World) (hr : RlR w mv cv R) (hI : Inv R) (hn : c.length ≤ 9223372036854775807) :
    Calls Tryz.prog 29 #[.agg #[mv, cv], .string ⟨c.toArray⟩, .string ⟨t.toArray⟩] w (DeedP w (open_ R c t)) := by
  obtain ⟨j0, ji, jz0, jz1, jz2⟩ := info_parts info_rcls
  have hml := hI.ml
  have hcl := hI.cl
  have HM := hid (fun w1 (hf : Frm No w w1) => rfind_any R mv cv t w1 (hr.no hf) (by have := hI.ml; omega))
  have HK := hid (fun w1 (hf : Frm No w w1) => rof_any R mv cv c w1 (hr.no hf) hI)
  have HC := hid (fun w1 (hf : Frm No w w1) => rcopy_any R mv cv [] w1 (hr.no hf) hI)
  have HG := hid (fun w1 => refgood_any c w1 hn)
  obtain ⟨mao, mcp, rfl⟩ := hr.mr.shape
  obtain ⟨cs, hfs, hc, -⟩ := hr.cr
  have hcsl : cs.length = R.clss.length := by rw [← hfs]; simp
  have HCR := hid (fun w1 (hf : Frm No w w1) => hc.frm (fun _ _ => rfl) hf (fun _ _ h => h))
  have HFS := hid hfs
  obtain ⟨cao, ccp, rfl⟩ := hc.shape
  obtain ⟨ml, hmle⟩ : ∃ ml, R.mems.length = ml := ⟨_, rfl⟩
  obtain ⟨cl, hcle⟩ : ∃ cl, cs.length = cl := ⟨_, rfl⟩
  have HML := hid hmle
  have HCL := hid hcle
  have HCR2 : Hid (R.clss.length = cl) := hid (by omega)
  have HDL : Hid (∀ x y : B, (x == y) = decide (x = y)) := hid (fun x y => by rw [Bool.eq_iff_iff]; simp)
  have HI := hid hI
  rw [← hcsl, hcle] at hcl
  rw [hmle] at hml ⊢
  rw [hcle] at ⊢
  simp only [hmle, hcle] at HM HK HC
  clear hr hc hfs hcsl hmle hcle hI
  cases h1 : Cmd.gn c with
  | false =>
    as_aux_lemma =>
    have he : open_ R c t = (Roll.nil, 8) := by unfold open_; rw [if_pos h1]
    rw [h1] at HG
    rw [he]
    clear he h1 HC HI HML HCR HFS HCL HCR2 HM HK
    go_enter Tryz.func29, Tryz.ntmps29
    go_upto_region 1 with fail
    have X0 := Box.new (Frm.refl No w) [.slice mao ml mcp, .slice cao cl ccp] 31
    have X1 := Box.new X0.frm [.slice none 0 0, .slice none 0 0] 31
    have Y0 := X0.no ((Frm.refl No _).alloc (.cells #[.slice none 0 0, .slice none 0 0] 31))
    simp only [World.size_alloc] at X1
    obtain ⟨W, hW⟩ : ∃ W, W = (w.alloc (.cells #[.slice mao ml mcp, .slice cao cl ccp] 31)).alloc (.cells #[.slice none 0 0, .slice none 0 0] 31) := ⟨_, rfl⟩
    rw [← hW] at X1 Y0 ⊢
    clear hW
    obtain ⟨b, hb⟩ : ∃ b, w.heap.size = b := ⟨_, rfl⟩
    rw [hb] at X1 Y0
    simp only [hb]
    have F1 := X1.frm
    have HX1 := hid X1
    have HY0 := hid Y0
    have cW := Y0.cell
    clear X0 X1 Y0
    have dX := HX1.out.cell
    have fX := HX1.out.fr
    go_wp2_with (go_at_call 66; refine (HG.out _).mono ?_; rintro e w0 ⟨rfl, rfl⟩)
    have BX4 := (HX1.out.set 0 (by simp) (.slice none 0 0)).set 1 (by simp) (.slice none 0 0)
    have e0 := BX4.cell 0
    have e1 := BX4.cell 1
    simp only [List.set_cons_zero, List.set_cons_succ, List.getElem?_cons_zero, List.getElem?_cons_succ] at e0 e1
    refine bodyPost_ret (v := .tuple #[.agg #[.slice none 0 0, .slice none 0 0], .int .i64 8]) (by simp [results, Tryz.results29, go_sem, e0, e1]) rfl ⟨_, _, rfl, nil_rd _, BX4.frm⟩
  | true =>
    have HH1 := hid h1
    rw [h1] at HG
    clear h1
    cases h2 : has Cls.name R.clss c with
    | true =>
      as_aux_lemma =>
      have he : open_ R c t = (Roll.nil, 9) := by unfold open_; rw [if_neg (by rw [HH1.out]; decide), if_pos h2]
      rw [ofB_yes h2] at HK
      rw [he]
      generalize place Cls.name R.clss c = p at *
      have hp0 : (0 : Int) ≤ (p : Int) := by omega
      clear he h2 HC HI HML HCR HFS HCL HCR2 HM
      go_enter Tryz.func29, Tryz.ntmps29
      go_upto_region 1 with fail
      have X0 := Box.new (Frm.refl No w) [.slice mao ml mcp, .slice cao cl ccp] 31
      have X1 := Box.new X0.frm [.slice none 0 0, .slice none 0 0] 31
      have Y0 := X0.no ((Frm.refl No _).alloc (.cells #[.slice none 0 0, .slice none 0 0] 31))
      simp only [World.size_alloc] at X1
      obtain ⟨W, hW⟩ : ∃ W, W = (w.alloc (.cells #[.slice mao ml mcp, .slice cao cl ccp] 31)).alloc (.cells #[.slice none 0 0, .slice none 0 0] 31) := ⟨_, rfl⟩
      rw [← hW] at X1 Y0 ⊢
      clear hW
      obtain ⟨b, hb⟩ : ∃ b, w.heap.size = b := ⟨_, rfl⟩
      rw [hb] at X1 Y0
      simp only [hb]
      have F1 := X1.frm
      have HX1 := hid X1
      have HY0 := hid Y0
      have cW := Y0.cell
      clear X0 X1 Y0
      go_wp2_with (first | (go_at_call 66; refine (HG.out _).mono ?_; rintro e w0 ⟨rfl, rfl⟩) | (go_at_call 15; refine (HK.out _ F1).mono ?_; rintro e w1 ⟨rfl, hfw1⟩; have BX := HX1.out.no hfw1; have BY := HY0.out.no hfw1; have cXw1 := BX.cell; have fXw1 := BX.fr; have cYw1 := BY.cell))
      have BX4 := (BX.set 0 (by simp) (.slice none 0 0)).set 1 (by simp) (.slice none 0 0)
      have e0 := BX4.cell 0
      have e1 := BX4.cell 1
      simp only [List.set_cons_zero, List.set_cons_succ, List.getElem?_cons_zero, List.getElem?_cons_succ] at e0 e1
      refine bodyPost_ret (v := .tuple #[.agg #[.slice none 0 0, .slice none 0 0], .int .i64 9]) (by simp [results, Tryz.results29, go_sem, e0, e1]) rfl ⟨_, _, rfl, nil_rd _, BX4.frm⟩
    | false =>
      have HH2 := hid h2
      rw [ofB_no h2] at HK
      clear h2
      cases h3 : find Mem.name R.mems t with
      | none =>
        as_aux_lemma =>
        have he : open_ R c t = (Roll.nil, 10) := by unfold open_; rw [if_neg (by rw [HH1.out]; decide), if_neg (by rw [HH2.out]; decide), h3]
        rw [h3] at HM
        rw [he]
        clear he h3 HC HI HML HCR HFS HCL HCR2
        go_enter Tryz.func29, Tryz.ntmps29
        go_upto_region 1 with fail
        have X0 := Box.new (Frm.refl No w) [.slice mao ml mcp, .slice cao cl ccp] 31
        have X1 := Box.new X0.frm [.slice none 0 0, .slice none 0 0] 31
        have Y0 := X0.no ((Frm.refl No _).alloc (.cells #[.slice none 0 0, .slice none 0 0] 31))
        simp only [World.size_alloc] at X1
        obtain ⟨W, hW⟩ : ∃ W, W = (w.alloc (.cells #[.slice mao ml mcp, .slice cao cl ccp] 31)).alloc (.cells #[.slice none 0 0, .slice none 0 0] 31) := ⟨_, rfl⟩
        rw [← hW] at X1 Y0 ⊢
        clear hW
        obtain ⟨b, hb⟩ : ∃ b, w.heap.size = b := ⟨_, rfl⟩
        rw [hb] at X1 Y0
        simp only [hb]
        have F1 := X1.frm
        have HX1 := hid X1
        have HY0 := hid Y0
        have cW := Y0.cell
        clear X0 X1 Y0
        go_wp2_with (first | (go_at_call 66; refine (HG.out _).mono ?_; rintro e w0 ⟨rfl, rfl⟩) | (go_at_call 15; refine (HK.out _ F1).mono ?_; rintro e w1 ⟨rfl, hfw1⟩; have BX := HX1.out.no hfw1; have BY := HY0.out.no hfw1; have cXw1 := BX.cell; have fXw1 := BX.fr; have cYw1 := BY.cell) | (go_at_call 13; refine (HM.out _ BY.frm).mono ?_; rintro e w2 ⟨rfl, hfw2⟩; have BX2 := (BX.no hfw2).no ((Frm.refl No w2).alloc (.cells #[.string ⟨([] : B).toArray⟩, .int .i64 0, .int .i64 0] 48)); have BY2 := (BY.no hfw2).no ((Frm.refl No w2).alloc (.cells #[.string ⟨([] : B).toArray⟩, .int .i64 0, .int .i64 0] 48)); have cXw2 := BX2.cell; have fXw2 := BX2.fr; have cYw2 := BY2.cell))
        have BX4 := (BX2.set 0 (by simp) (.slice none 0 0)).set 1 (by simp) (.slice none 0 0)
        have e0 := BX4.cell 0
        have e1 := BX4.cell 1
        simp only [List.set_cons_zero, List.set_cons_succ, List.getElem?_cons_zero, List.getElem?_cons_succ] at e0 e1
        refine bodyPost_ret (v := .tuple #[.agg #[.slice none 0 0, .slice none 0 0], .int .i64 10]) (by simp [results, Tryz.results29, go_sem, e0, e1]) rfl ⟨_, _, rfl, nil_rd _, BX4.frm⟩
      | some m =>
        have HH3 := hid h3
        rw [h3] at HM
        clear h3
        obtain ⟨nm, ro, qu⟩ := m
        by_cases h4 : ro ≠ 2
        · as_aux_lemma =>
          have he : open_ R c t = (Roll.nil, 13) := by unfold open_; rw [if_neg (by rw [HH1.out]; decide), if_neg (by rw [HH2.out]; decide), HH3.out]; dsimp only; rw [if_pos h4]
          rw [he]
          have h4a : (ro == 2) = false := by simpa using h4
          have h4b : (ro != 2) = true := by simpa using h4
          clear he h4 HH3 HC HI HML HCR HFS HCL HCR2
          go_enter Tryz.func29, Tryz.ntmps29
          go_upto_region 1 with fail
          have X0 := Box.new (Frm.refl No w) [.slice mao ml mcp, .slice cao cl ccp] 31
          have X1 := Box.new X0.frm [.slice none 0 0, .slice none 0 0] 31
          have Y0 := X0.no ((Frm.refl No _).alloc (.cells #[.slice none 0 0, .slice none 0 0] 31))
          simp only [World.size_alloc] at X1
          obtain ⟨W, hW⟩ : ∃ W, W = (w.alloc (.cells #[.slice mao ml mcp, .slice cao cl ccp] 31)).alloc (.cells #[.slice none 0 0, .slice none 0 0] 31) := ⟨_, rfl⟩
          rw [← hW] at X1 Y0 ⊢
          clear hW
          obtain ⟨b, hb⟩ : ∃ b, w.heap.size = b := ⟨_, rfl⟩
          rw [hb] at X1 Y0
          simp only [hb]
          have F1 := X1.frm
          have HX1 := hid X1
          have HY0 := hid Y0
          have cW := Y0.cell
          clear X0 X1 Y0
          go_wp2_with (first | (go_at_call 66; refine (HG.out _).mono ?_; rintro e w0 ⟨rfl, rfl⟩) | (go_at_call 15; refine (HK.out _ F1).mono ?_; rintro e w1 ⟨rfl, hfw1⟩; have BX := HX1.out.no hfw1; have BY := HY0.out.no hfw1; have cXw1 := BX.cell; have fXw1 := BX.fr; have cYw1 := BY.cell) | (go_at_call 13; refine (HM.out _ BY.frm).mono ?_; rintro e w2 ⟨rfl, hfw2⟩; have BX2 := (BX.no hfw2).no ((Frm.refl No w2).alloc (.cells #[.string ⟨nm.toArray⟩, .int .i64 ro, .int .i64 qu] 48)); have BY2 := (BY.no hfw2).no ((Frm.refl No w2).alloc (.cells #[.string ⟨nm.toArray⟩, .int .i64 ro, .int .i64 qu] 48)); have cXw2 := BX2.cell; have fXw2 := BX2.fr; have cYw2 := BY2.cell))
          have BX4 := (BX2.set 0 (by simp) (.slice none 0 0)).set 1 (by simp) (.slice none 0 0)
          have e0 := BX4.cell 0
          have e1 := BX4.cell 1
          simp only [List.set_cons_zero, List.set_cons_succ, List.getElem?_cons_zero, List.getElem?_cons_succ] at e0 e1
          refine bodyPost_ret (v := .tuple #[.agg #[.slice none 0 0, .slice none 0 0], .int .i64 13]) (by simp [results, Tryz.results29, go_sem, e0, e1]) rfl ⟨_, _, rfl, nil_rd _, BX4.frm⟩
        · obtain rfl : ro = 2 := by omega
          clear h4
          by_cases h5 : 32 ≤ cl
          · as_aux_lemma =>
            have he : open_ R c t = (Roll.nil, 12) := by unfold open_; rw [if_neg (by rw [HH1.out]; decide), if_neg (by rw [HH2.out]; decide), HH3.out]; dsimp only; rw [if_neg (by omega), if_pos (by rw [HCR2.out]; exact h5)]
            rw [he]
            have h5z : (32 : Int) ≤ (cl : Int) := by omega
            clear he HH3 HC HI HML HCR HFS HCL HCR2
            go_enter Tryz.func29, Tryz.ntmps29
            go_upto_region 1 with fail
            have X0 := Box.new (Frm.refl No w) [.slice mao ml mcp, .slice cao cl ccp] 31
            have X1 := Box.new X0.frm [.slice none 0 0, .slice none 0 0] 31
            have Y0 := X0.no ((Frm.refl No _).alloc (.cells #[.slice none 0 0, .slice none 0 0] 31))
            simp only [World.size_alloc] at X1
            obtain ⟨W, hW⟩ : ∃ W, W = (w.alloc (.cells #[.slice mao ml mcp, .slice cao cl ccp] 31)).alloc (.cells #[.slice none 0 0, .slice none 0 0] 31) := ⟨_, rfl⟩
            rw [← hW] at X1 Y0 ⊢
            clear hW
            obtain ⟨b, hb⟩ : ∃ b, w.heap.size = b := ⟨_, rfl⟩
            rw [hb] at X1 Y0
            simp only [hb]
            have F1 := X1.frm
            have HX1 := hid X1
            have HY0 := hid Y0
            have cW := Y0.cell
            clear X0 X1 Y0
            go_wp2_with (first | (go_at_call 66; refine (HG.out _).mono ?_; rintro e w0 ⟨rfl, rfl⟩) | (go_at_call 15; refine (HK.out _ F1).mono ?_; rintro e w1 ⟨rfl, hfw1⟩; have BX := HX1.out.no hfw1; have BY := HY0.out.no hfw1; have cXw1 := BX.cell; have fXw1 := BX.fr; have cYw1 := BY.cell) | (go_at_call 13; refine (HM.out _ BY.frm).mono ?_; rintro e w2 ⟨rfl, hfw2⟩; have BX2 := (BX.no hfw2).no ((Frm.refl No w2).alloc (.cells #[.string ⟨nm.toArray⟩, .int .i64 2, .int .i64 qu] 48)); have BY2 := (BY.no hfw2).no ((Frm.refl No w2).alloc (.cells #[.string ⟨nm.toArray⟩, .int .i64 2, .int .i64 qu] 48)); have cXw2 := BX2.cell; have fXw2 := BX2.fr; have cYw2 := BY2.cell))
            have BX4 := (BX2.set 0 (by simp) (.slice none 0 0)).set 1 (by simp) (.slice none 0 0)
            have e0 := BX4.cell 0
            have e1 := BX4.cell 1
            simp only [List.set_cons_zero, List.set_cons_succ, List.getElem?_cons_zero, List.getElem?_cons_succ] at e0 e1
            refine bodyPost_ret (v := .tuple #[.agg #[.slice none 0 0, .slice none 0 0], .int .i64 12]) (by simp [results, Tryz.results29, go_sem, e0, e1]) rfl ⟨_, _, rfl, nil_rd _, BX4.frm⟩
          · as_aux_lemma =>
            have HGR := hid (open_ok HH1.out HH2.out HH3.out rfl (by rw [HCR2.out]; omega))
            have h5z : ¬ (32 : Int) ≤ (cl : Int) := by omega
            go_enter Tryz.func29, Tryz.ntmps29
            go_upto_region 1 with fail
            have X0 := Box.new (Frm.refl No w) [.slice mao ml mcp, .slice cao cl ccp] 31
            have X1 := Box.new X0.frm [.slice none 0 0, .slice none 0 0] 31
            have Y0 := X0.no ((Frm.refl No _).alloc (.cells #[.slice none 0 0, .slice none 0 0] 31))
            simp only [World.size_alloc] at X1
            obtain ⟨W, hW⟩ : ∃ W, W = (w.alloc (.cells #[.slice mao ml mcp, .slice cao cl ccp] 31)).alloc (.cells #[.slice none 0 0, .slice none 0 0] 31) := ⟨_, rfl⟩
            rw [← hW] at X1 Y0 ⊢
            clear hW
            obtain ⟨b, hb⟩ : ∃ b, w.heap.size = b := ⟨_, rfl⟩
            rw [hb] at X1 Y0
            simp only [hb]
            have F1 := X1.frm
            have HX1 := hid X1
            have HY0 := hid Y0
            have cW := Y0.cell
            clear X0 X1 Y0
            go_upto_region 13 with (first | (go_at_call 66; refine (HG.out _).mono ?_; rintro e w0 ⟨rfl, rfl⟩) | (go_at_call 15; refine (HK.out _ F1).mono ?_; rintro e w1 ⟨rfl, hfw1⟩; have BX := HX1.out.no hfw1; have BY := HY0.out.no hfw1; have cXw1 := BX.cell; have fXw1 := BX.fr; have cYw1 := BY.cell) | (go_at_call 13; refine (HM.out _ BY.frm).mono ?_; rintro e w2 ⟨rfl, hfw2⟩; have BX2 := (BX.no hfw2).no ((Frm.refl No w2).alloc (.cells #[.string ⟨nm.toArray⟩, .int .i64 2, .int .i64 qu] 48)); have BY2 := (BY.no hfw2).no ((Frm.refl No w2).alloc (.cells #[.string ⟨nm.toArray⟩, .int .i64 2, .int .i64 qu] 48)); have cXw2 := BX2.cell; have fXw2 := BX2.fr; have cYw2 := BY2.cell) | (go_at_call 67; refine (HC.out _ BY2.frm).mono ?_; rintro e wc hcp; obtain ⟨ma', mc', ca', cc', cs', rfl, ho, hfc, hcl'⟩ := hcp.all' HML.out HCR2.out; have BA := BX2.no hfc))
            have BA0 : w.heap.size ≤ (w2.alloc (.cells #[.string ⟨nm.toArray⟩, .int .i64 2, .int .i64 qu] 48)).heap.size := BX2.frm.size
            have hO := OutI.make 31 BA ho BX2.lC BA0
            obtain ⟨WA, hWA⟩ : ∃ WA, WA = wc.alloc (.cells #[.slice ma' ml mc', .slice ca' cl cc'] 31) := ⟨_, rfl⟩
            rw [← hWA] at hO ⊢
            clear hWA
            obtain ⟨C, hC⟩ : ∃ C, wc.heap.size = C := ⟨_, rfl⟩
            rw [hC] at hO
            (try simp only [hC])
            have HO := hid hO
            clear hO BA BX BY BX2 BY2 cXw1 fXw1 cYw1 cXw2 fXw2 cYw2 HX1 HY0 hfw1 hfw2 F1 cW ho hfc HC HK HM HG hcp BA0
            generalize (w2.alloc (.cells #[.string ⟨nm.toArray⟩, .int .i64 2, .int .i64 qu] 48)).heap.size = base at *
            have HSC : Hid (Srt cname cs') := hid (srt_fst (by rw [HO.out.own.fst]; exact HI.out.cs))
            have hpf : place Cls.name R.clss c = place cname cs' c := by rw [place_fst, HO.out.own.fst]
            rw [hpf] at HGR
            obtain ⟨q, hq⟩ : ∃ q, place cname cs' c = q := ⟨_, rfl⟩
            rw [hq] at HGR
            have HQ := hid hq
            have hql : q ≤ cl := by rw [← hq, ← hcl']; exact place_le
            have hcr : RdL WA (.slice ca' cs'.length cc') 3 clsV cs' := rdl_own clsS (by rw [hcl']; have := HO.out.own.co; rw [hcl'] at this; exact this)
            have HCRR := hid hcr
            have c0 := HO.out.box.cell
            clear hpf hq hcr
            go_wp2_with fail
            go_loopw [11] (fun iv wr => ∃ k : Nat, k ≤ q ∧ iv = .int .i64 (k : Int) ∧ WA = wr)
              (fun iv _ => cl - (intOf iv).toNat)
            case atStart => exact ⟨0, by omega, rfl, rfl⟩
            case round =>
              obtain ⟨k, hkq, rfl, rfl⟩ := hrel
              go_upto_region 14 with fail
              go_cut [56] from 42 to 56 (fun p wq => p = .bool (decide (k < q)) ∧ wq = WA)
              case first =>
                as_aux_lemma =>
                by_cases hkl : k < cl
                · have hkz : (k : Int) < (cl : Int) := by omega
                  have hk2 : k < cs'.length := by rw [hcl']; exact hkl
                  obtain ⟨g, o, rfl, hcc⟩ := HCRR.out.at_ (by omega)
                  have q0 := hcc k hk2 0 (by omega)
                  have HUP := hid (fun (h : cname cs'[k] < c) => place_up HSC.out hk2 (by rw [HQ.out]; exact hkq) h)
                  have HHE := hid (fun (h : ¬ cname cs'[k] < c) => place_here HSC.out hk2 (by rw [HQ.out]; exact hkq) h)
                  obtain ⟨x, hx⟩ : ∃ x, cs'[k] = x := ⟨_, rfl⟩
                  simp only [hx] at q0 HUP HHE
                  obtain ⟨⟨xn, xt, xs⟩, xo, xc⟩ := x
                  simp only [clsV, List.getElem?_cons_zero, Nat.add_zero] at q0
                  simp only [cname, HQ.out] at HUP HHE
                  have HBL := hid (less_eq xn c)
                  clear hcc hx
                  by_cases hlt : xn < c
                  · have hbl : Op.bytesLess xn c = true := by rw [HBL.out]; exact decide_eq_true hlt
                    have hkd : decide (k < q) = true := decide_eq_true (HUP.out hlt)
                    have HKD := hid hkd
                    clear HUP HHE hlt HBL hkd
                    go_wp2_with fail
                    go_meet
                    exact ⟨by rw [HKD.out], rfl⟩
                  · have hbl : Op.bytesLess xn c = false := by rw [HBL.out]; exact decide_eq_false hlt
                    have hkd : decide (k < q) = false := decide_eq_false (by have := HHE.out hlt; omega)
                    have HKD := hid hkd
                    clear HUP HHE hlt HBL hkd
                    go_wp2_with fail
                    go_meet
                    exact ⟨by rw [HKD.out], rfl⟩
                · have hkz : ¬ (k : Int) < (cl : Int) := by omega
                  have hkd : decide (k < q) = false := decide_eq_false (by omega)
                  have HKD := hid hkd
                  clear hkd
                  go_wp2_with fail
                  go_meet
                  exact ⟨by rw [HKD.out], rfl⟩
              case rest =>
                obtain ⟨rfl, hwq⟩ := hcut
                have hwq := hwq.symm
                subst hwq
                by_cases hlt : k < q
                · as_aux_lemma =>
                  rw [decide_eq_true hlt]
                  go_wp2_with fail
                  exact ⟨⟨k + 1, by omega, by go_num, trivial⟩, by simp only [intOf]; omega⟩
                · as_aux_lemma =>
                  rw [decide_eq_false hlt]
                  obtain rfl : k = q := by omega
                  clear hlt HQ HSC hkq
                  have hc0 := HO.out.own.co
                  rw [hcl'] at hc0
                  have HFW := hid (Frm.refl No WA)
                  have hszW : WA.heap.size ≤ WA.heap.size := Nat.le_refl _
                  rcases hc0.2 with ⟨hbad, hz⟩ | ⟨g', cap', cur, hv, hbg, hg, hnc, hcm, hcs, htake⟩
                  · as_aux_lemma =>
                    simp only [Value.slice.injEq] at hbad
                    obtain ⟨rfl, rfl, rfl⟩ := hbad
                    obtain rfl : k = 0 := by omega
                    have HCS0 : Hid (cs' = []) := hid (List.eq_nil_of_length_eq_zero hcl')
                    have HT1 : Hid (∀ w', Frm No WA w' → Src Tryz.prog 3 29 (.slice none 0 0) 0 (rows clsV (cs'.take 0)) w') := hid (fun w' hf => src_rdl (l := ([] : List CV)) clsS (by omega) Tryz.underlying29 ⟨.inl ⟨rfl, _, _, rfl⟩⟩)
                    have HT2 : Hid (∀ w', Frm No WA w' → Src Tryz.prog 3 29 (.slice none 0 0) 0 (rows clsV (cs'.drop 0)) w') := hid (fun w' hf => by rw [HCS0.out]; exact src_rdl (l := ([] : List CV)) clsS (by omega) Tryz.underlying29 ⟨.inl ⟨rfl, _, _, rfl⟩⟩)
                    clear hc0 hz
                    go_wp2_with (first | (at_builtin; refine wpList_append_src _ rfl (.tmp 59) (.tmp 63) 29 29 rfl WA.heap.size 57 j0 _ 3 56 Tryz.underlying29 ji jz0 jz1 jz2 rfl (.slice none 0 0) (0) ([]) rfl (World.ownsRow_nil _ _ _ _) _ (0) (rows clsV (cs'.take 0)) rfl (HT1.out _ HFW.out) (by unfold maxLen; omega) (by omega) hszW ?_; intro v4 w4 hown4 hfr4 hv4; rw [Nat.zero_add, List.nil_append] at hown4; have hF4 : Frm No WA w4 := frm_own HFW.out hfr4 (fun k hk => by cases hk); obtain ⟨lo4, lc4, rfl⟩ := ownsRow_shape hown4; have hsz4 := hF4.size) | (at_builtin; refine wpList_push _ rfl (.tmp 65) (.tmp 69) 29 rfl WA.heap.size 57 j0 _ 3 56 Tryz.underlying29 ji jz0 jz1 jz2 rfl (.slice lo4 0 lc4) (0) (rows clsV (cs'.take 0)) rfl hown4 (clsV (((⟨c, t, []⟩ : Cls), ((none : Option Addr), 0)) : CV)) rfl rfl (clsS.one _) (by omega) (by omega) hsz4 ?_; intro v5 w5 hown5 hfr5 hv5 hz5; have hF5 : Frm No WA w5 := frm_own hF4 hfr5 (fun k hk => (hown4.lt k hk).1); obtain ⟨lo5, lc5, rfl⟩ := ownsRow_shape hown5; have hsz5 := hF5.size; have hO5 := HO.out.no hF5; have d0 := hO5.box.cell; clear hO5) | (at_builtin; refine wpList_append_src _ rfl (.tmp 71) (.tmp 75) 29 29 rfl WA.heap.size 57 j0 _ 3 56 Tryz.underlying29 ji jz0 jz1 jz2 rfl (.slice lo5 (0 + 1) lc5) (0 + 1) (rows clsV (cs'.take 0) ++ clsV (((⟨c, t, []⟩ : Cls), ((none : Option Addr), 0)) : CV)) rfl hown5 _ (0) (rows clsV (cs'.drop 0)) rfl (HT2.out _ hF5) (by unfold maxLen; omega) (by omega) hsz5 ?_; intro v6 w6 hown6 hfr6 hv6; (try rw [Nat.add_zero] at hown6); have hF6 : Frm No WA w6 := frm_own hF5 hfr6 (fun k hk => (hown5.lt k hk).1); obtain ⟨lo6, lc6, rfl⟩ := ownsRow_shape hown6; have hO6 := HO.out.no hF6; have d2 := hO6.box.cell; have d2f := hO6.box.fr; have d3 := hO6.res.cell; have d3f := hO6.res.fr; have hAC := hO6.AC))
                    have hfin := hO6.rdC (l := cs'.take 0 ++ [(((⟨c, t, []⟩ : Cls), ((none : Option Addr), 0)) : CV)] ++ cs'.drop 0) (by rw [rows_append, ← rows_snoc]; rw [show (cs'.take 0 ++ [(((⟨c, t, []⟩ : Cls), ((none : Option Addr), 0)) : CV)] ++ cs'.drop 0).length = 0 + 1 by rw [List.length_append, List.length_append, List.length_take, List.length_drop, hcl', List.length_singleton]; omega]; exact hown6) (fun q hq => by
                      rcases List.mem_append.1 hq with h | h
                      · rcases List.mem_append.1 h with h | h
                        · exact hO6.students q (List.mem_of_mem_take h)
                        · obtain rfl := List.mem_singleton.1 h
                          exact ⟨.inl ⟨rfl, _, _, rfl⟩⟩
                      · exact hO6.students q (List.mem_of_mem_drop h))
                    rw [show (cs'.take 0 ++ [(((⟨c, t, []⟩ : Cls), ((none : Option Addr), 0)) : CV)] ++ cs'.drop 0).map (·.1) = R.clss.take 0 ++ [⟨c, t, []⟩] ++ R.clss.drop 0 by rw [List.map_append, List.map_append, List.map_take, List.map_drop, HO.out.own.fst]; rfl] at hfin

                    obtain ⟨BE, hre⟩ := end_C (j := 1) (l := (.slice lo6 (0 + 1) lc6)) (mv' := (.slice ma' ml mc')) (cv' := (.slice lo6 (0 + 1) lc6)) hO6.res hO6.box hO6.AC nil3 nil3 ⟨_, _, _, rfl⟩ ⟨_, _, _, rfl⟩ hfin
                    have e0 := BE.cell 0
                    have e1 := BE.cell 1
                    simp only [List.getElem?_cons_zero, List.getElem?_cons_succ] at e0 e1
                    refine bodyPost_ret (v := .tuple #[.agg #[(.slice ma' ml mc'), (.slice lo6 (0 + 1) lc6)], .int .i64 0]) (by simp [results, Tryz.results29, go_sem, e0, e1]) rfl ⟨_, _, by rw [HGR.out], by rw [HGR.out]; exact hre, BE.frm⟩
                  · simp only [Value.slice.injEq, true_and] at hv
                    obtain ⟨rfl, rfl⟩ := hv
                    have hcr : RdL WA (.slice (some ⟨g', 0, none⟩) cs'.length cc') 3 clsV cs' := HCRR.out
                    have HS1 := hid (fun w' (hf : Frm No WA w') => rdl_take (p := k) ((hcr.frm (fun _ _ => rfl) hf (fun _ _ h => h))) (by omega))
                    have HT1 : Hid (∀ w', Frm No WA w' → Src Tryz.prog 3 29 (.slice (some ⟨g', 0, none⟩) k cc') k (rows clsV (cs'.take k)) w') := hid (fun w' hf => by have := src_rdl clsS (by omega) Tryz.underlying29 (HS1.out w' hf); rw [List.length_take, Nat.min_eq_left (by omega)] at this; exact this)
                    have hnc2 : cl ≤ cc' := hnc
                    clear hc0 hbg hg hnc hcm hcs htake HS1
                    by_cases hcap : cc' = k
                    · as_aux_lemma =>
                      subst hcap
                      obtain rfl : cl = cc' := by omega
                      have HDR : Hid (cs'.drop cl = []) := hid (List.drop_eq_nil_of_le (by omega))
                      have HT2 : Hid (∀ w', Frm No WA w' → Src Tryz.prog 3 29 (.slice (some ⟨g', 0, none⟩) 0 0) 0 (rows clsV (cs'.drop cl)) w') := hid (fun w' hf => by rw [HDR.out]; exact src_rdl (l := ([] : List CV)) clsS (by omega) Tryz.underlying29 ⟨.inl ⟨rfl, _, _, rfl⟩⟩)
                      clear hcr
                      go_wp2_with (first | (at_builtin; refine wpList_append_src _ rfl (.tmp 59) (.tmp 63) 29 29 rfl WA.heap.size 57 j0 _ 3 56 Tryz.underlying29 ji jz0 jz1 jz2 rfl (.slice none 0 0) (0) ([]) rfl (World.ownsRow_nil _ _ _ _) _ (cl) (rows clsV (cs'.take cl)) rfl (HT1.out _ HFW.out) (by unfold maxLen; omega) (by omega) hszW ?_; intro v4 w4 hown4 hfr4 hv4; rw [Nat.zero_add, List.nil_append] at hown4; have hF4 : Frm No WA w4 := frm_own HFW.out hfr4 (fun k hk => by cases hk); obtain ⟨lo4, lc4, rfl⟩ := ownsRow_shape hown4; have hsz4 := hF4.size) | (at_builtin; refine wpList_push _ rfl (.tmp 65) (.tmp 69) 29 rfl WA.heap.size 57 j0 _ 3 56 Tryz.underlying29 ji jz0 jz1 jz2 rfl (.slice lo4 cl lc4) (cl) (rows clsV (cs'.take cl)) rfl hown4 (clsV (((⟨c, t, []⟩ : Cls), ((none : Option Addr), 0)) : CV)) rfl rfl (clsS.one _) (by omega) (by omega) hsz4 ?_; intro v5 w5 hown5 hfr5 hv5 hz5; have hF5 : Frm No WA w5 := frm_own hF4 hfr5 (fun k hk => (hown4.lt k hk).1); obtain ⟨lo5, lc5, rfl⟩ := ownsRow_shape hown5; have hsz5 := hF5.size; have hO5 := HO.out.no hF5; have d0 := hO5.box.cell; clear hO5) | (at_builtin; refine wpList_append_src _ rfl (.tmp 71) (.tmp 75) 29 29 rfl WA.heap.size 57 j0 _ 3 56 Tryz.underlying29 ji jz0 jz1 jz2 rfl (.slice lo5 (cl + 1) lc5) (cl + 1) (rows clsV (cs'.take cl) ++ clsV (((⟨c, t, []⟩ : Cls), ((none : Option Addr), 0)) : CV)) rfl hown5 _ (0) (rows clsV (cs'.drop cl)) rfl (HT2.out _ hF5) (by unfold maxLen; omega) (by omega) hsz5 ?_; intro v6 w6 hown6 hfr6 hv6; (try rw [Nat.add_zero] at hown6); have hF6 : Frm No WA w6 := frm_own hF5 hfr6 (fun k hk => (hown5.lt k hk).1); obtain ⟨lo6, lc6, rfl⟩ := ownsRow_shape hown6; have hO6 := HO.out.no hF6; have d2 := hO6.box.cell; have d2f := hO6.box.fr; have d3 := hO6.res.cell; have d3f := hO6.res.fr; have hAC := hO6.AC))
                      have hfin := hO6.rdC (l := cs'.take cl ++ [(((⟨c, t, []⟩ : Cls), ((none : Option Addr), 0)) : CV)] ++ cs'.drop cl) (by rw [rows_append, ← rows_snoc]; rw [show (cs'.take cl ++ [(((⟨c, t, []⟩ : Cls), ((none : Option Addr), 0)) : CV)] ++ cs'.drop cl).length = cl + 1 by rw [List.length_append, List.length_append, List.length_take, List.length_drop, hcl', List.length_singleton]; omega]; exact hown6) (fun q hq => by
                        rcases List.mem_append.1 hq with h | h
                        · rcases List.mem_append.1 h with h | h
                          · exact hO6.students q (List.mem_of_mem_take h)
                          · obtain rfl := List.mem_singleton.1 h
                            exact ⟨.inl ⟨rfl, _, _, rfl⟩⟩
                        · exact hO6.students q (List.mem_of_mem_drop h))
                      rw [show (cs'.take cl ++ [(((⟨c, t, []⟩ : Cls), ((none : Option Addr), 0)) : CV)] ++ cs'.drop cl).map (·.1) = R.clss.take cl ++ [⟨c, t, []⟩] ++ R.clss.drop cl by rw [List.map_append, List.map_append, List.map_take, List.map_drop, HO.out.own.fst]; rfl] at hfin

                      obtain ⟨BE, hre⟩ := end_C (j := 1) (l := (.slice lo6 (cl + 1) lc6)) (mv' := (.slice ma' ml mc')) (cv' := (.slice lo6 (cl + 1) lc6)) hO6.res hO6.box hO6.AC nil3 nil3 ⟨_, _, _, rfl⟩ ⟨_, _, _, rfl⟩ hfin
                      have e0 := BE.cell 0
                      have e1 := BE.cell 1
                      simp only [List.getElem?_cons_zero, List.getElem?_cons_succ] at e0 e1
                      refine bodyPost_ret (v := .tuple #[.agg #[(.slice ma' ml mc'), (.slice lo6 (cl + 1) lc6)], .int .i64 0]) (by simp [results, Tryz.results29, go_sem, e0, e1]) rfl ⟨_, _, by rw [HGR.out], by rw [HGR.out]; exact hre, BE.frm⟩
                    · as_aux_lemma =>
                      have HS2 := hid (fun w' (hf : Frm No WA w') => rdl_drop (c' := cc' - k) (p := k) ((hcr.frm (fun _ _ => rfl) hf (fun _ _ h => h))) (by omega))
                      rw [hcl'] at HS2
                      have HT2 : Hid (∀ w', Frm No WA w' → Src Tryz.prog 3 29 (.slice (some ⟨g', k * 3, none⟩) (cl - k) (cc' - k)) (cl - k) (rows clsV (cs'.drop k)) w') := hid (fun w' hf => by have := src_rdl clsS (by omega) Tryz.underlying29 (HS2.out w' hf); rw [List.length_drop, hcl', Nat.zero_add] at this; exact this)
                      clear hcr HS2
                      go_wp2_with (first | (at_builtin; refine wpList_append_src _ rfl (.tmp 59) (.tmp 63) 29 29 rfl WA.heap.size 57 j0 _ 3 56 Tryz.underlying29 ji jz0 jz1 jz2 rfl (.slice none 0 0) (0) ([]) rfl (World.ownsRow_nil _ _ _ _) _ (k) (rows clsV (cs'.take k)) rfl (HT1.out _ HFW.out) (by unfold maxLen; omega) (by omega) hszW ?_; intro v4 w4 hown4 hfr4 hv4; rw [Nat.zero_add, List.nil_append] at hown4; have hF4 : Frm No WA w4 := frm_own HFW.out hfr4 (fun k hk => by cases hk); obtain ⟨lo4, lc4, rfl⟩ := ownsRow_shape hown4; have hsz4 := hF4.size) | (at_builtin; refine wpList_push _ rfl (.tmp 65) (.tmp 69) 29 rfl WA.heap.size 57 j0 _ 3 56 Tryz.underlying29 ji jz0 jz1 jz2 rfl (.slice lo4 k lc4) (k) (rows clsV (cs'.take k)) rfl hown4 (clsV (((⟨c, t, []⟩ : Cls), ((none : Option Addr), 0)) : CV)) rfl rfl (clsS.one _) (by omega) (by omega) hsz4 ?_; intro v5 w5 hown5 hfr5 hv5 hz5; have hF5 : Frm No WA w5 := frm_own hF4 hfr5 (fun k hk => (hown4.lt k hk).1); obtain ⟨lo5, lc5, rfl⟩ := ownsRow_shape hown5; have hsz5 := hF5.size; have hO5 := HO.out.no hF5; have d0 := hO5.box.cell; clear hO5) | (at_builtin; refine wpList_append_src _ rfl (.tmp 71) (.tmp 75) 29 29 rfl WA.heap.size 57 j0 _ 3 56 Tryz.underlying29 ji jz0 jz1 jz2 rfl (.slice lo5 (k + 1) lc5) (k + 1) (rows clsV (cs'.take k) ++ clsV (((⟨c, t, []⟩ : Cls), ((none : Option Addr), 0)) : CV)) rfl hown5 _ (cl - k) (rows clsV (cs'.drop k)) rfl (HT2.out _ hF5) (by unfold maxLen; omega) (by omega) hsz5 ?_; intro v6 w6 hown6 hfr6 hv6; (try rw [Nat.add_zero] at hown6); have hF6 : Frm No WA w6 := frm_own hF5 hfr6 (fun k hk => (hown5.lt k hk).1); obtain ⟨lo6, lc6, rfl⟩ := ownsRow_shape hown6; have hO6 := HO.out.no hF6; have d2 := hO6.box.cell; have d2f := hO6.box.fr; have d3 := hO6.res.cell; have d3f := hO6.res.fr; have hAC := hO6.AC))
                      have hfin := hO6.rdC (l := cs'.take k ++ [(((⟨c, t, []⟩ : Cls), ((none : Option Addr), 0)) : CV)] ++ cs'.drop k) (by rw [rows_append, ← rows_snoc]; rw [show (cs'.take k ++ [(((⟨c, t, []⟩ : Cls), ((none : Option Addr), 0)) : CV)] ++ cs'.drop k).length = k + 1 + (cl - k) by rw [List.length_append, List.length_append, List.length_take, List.length_drop, hcl', List.length_singleton]; omega]; exact hown6) (fun q hq => by
                        rcases List.mem_append.1 hq with h | h
                        · rcases List.mem_append.1 h with h | h
                          · exact hO6.students q (List.mem_of_mem_take h)
                          · obtain rfl := List.mem_singleton.1 h
                            exact ⟨.inl ⟨rfl, _, _, rfl⟩⟩
                        · exact hO6.students q (List.mem_of_mem_drop h))
                      rw [show (cs'.take k ++ [(((⟨c, t, []⟩ : Cls), ((none : Option Addr), 0)) : CV)] ++ cs'.drop k).map (·.1) = R.clss.take k ++ [⟨c, t, []⟩] ++ R.clss.drop k by rw [List.map_append, List.map_append, List.map_take, List.map_drop, HO.out.own.fst]; rfl] at hfin

                      obtain ⟨BE, hre⟩ := end_C (j := 1) (l := (.slice lo6 (k + 1 + (cl - k)) lc6)) (mv' := (.slice ma' ml mc')) (cv' := (.slice lo6 (k + 1 + (cl - k)) lc6)) hO6.res hO6.box hO6.AC nil3 nil3 ⟨_, _, _, rfl⟩ ⟨_, _, _, rfl⟩ hfin
                      have e0 := BE.cell 0
                      have e1 := BE.cell 1
                      simp only [List.getElem?_cons_zero, List.getElem?_cons_succ] at e0 e1
                      refine bodyPost_ret (v := .tuple #[.agg #[(.slice ma' ml mc'), (.slice lo6 (k + 1 + (cl - k)) lc6)], .int .i64 0]) (by simp [results, Tryz.results29, go_sem, e0, e1]) rfl ⟨_, _, by rw [HGR.out], by rw [HGR.out]; exact hre, BE.frm⟩
end Go.Proofs.YtofcmghhmklmiaaGreat
