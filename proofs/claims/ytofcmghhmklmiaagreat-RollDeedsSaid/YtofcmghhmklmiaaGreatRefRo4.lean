/- told: a roll, told to the reference. Printed by a program (told18.py). -/
import Derived.Test.YtofcmghhmklmiaaGreatRefRo1
import Derived.Test.YtofcmghhmklmiaaGreatRollRB
namespace Go.Proofs.YtofcmghhmklmiaaGreat
open Go.RowKit
open Roll
/-- told under way: the result's block A, the copy's block C; what is copied lies in rows of the call's own. -/
structure TdI (w wr : World) (A C b : Nat) (v0 v1 mv cv : Value) (ms : List Mem) (cs : List CV) : Prop where
  res : Box w wr A [.slice none 0 0, .slice none 0 0]
  arg : Box w wr b [v0, v1]
  box : Box w wr C [mv, cv]
  mo : wr.ownsRow w.heap.size 48 3 mv ms.length (rows memV ms)
  co : wr.ownsRow w.heap.size 57 3 cv cs.length (rows clsV cs)
  dj : Dj mv cv
  ne : A ≠ C ∧ b ≠ C
  off : ∀ k, (mv.ownBlock = some k ∨ cv.ownBlock = some k) → k ≠ A ∧ k ≠ b ∧ k ≠ C
section
variable {w wr w2 : World} {A C b : Nat} {v0 v1 mv cv mv' cv' : Value} {ms ms' : List Mem} {cs cs' : List CV}
theorem TdI.no (h : TdI w wr A C b v0 v1 mv cv ms cs) (hf : Frm No wr w2) : TdI w w2 A C b v0 v1 mv cv ms cs :=
  ⟨h.res.no hf, h.arg.no hf, h.box.no hf, hf.row h.mo (fun _ _ h => h), hf.row h.co (fun _ _ h => h), h.dj, h.ne, h.off⟩
theorem TdI.addM (h : TdI w wr A C b v0 v1 mv cv ms cs) (hf : Frm (Own mv) wr w2) (ho : w2.ownsRow w.heap.size 48 3 mv' ms'.length (rows memV ms')) (hn : mv'.ownBlock = mv.ownBlock ∨ ∃ k, mv'.ownBlock = some k ∧ wr.heap.size ≤ k) :
    TdI w (w2.setCell ⟨C, 0, none⟩ mv') A C b v0 v1 mv' cv ms' cs := by
  have hF : Frm (One C) w2 (w2.setCell ⟨C, 0, none⟩ mv') := setCell_own _
  have hg : ∀ k, Own mv k → w.heap.size ≤ k := fun k hk => (h.mo.lt k hk).1
  have hb := (h.box.other hf (fun e => (h.off C (.inl e)).2.2 rfl) hg)
  have hA := h.res.lC
  have hB := h.arg.lC
  have hC := h.box.lC
  have hoff : ∀ k, mv'.ownBlock = some k → k ≠ A ∧ k ≠ b ∧ k ≠ C := fun k hk => by
    rcases hn with hn | ⟨k', hn, hk'⟩
    · exact h.off k (.inl (hn ▸ hk))
    · rw [hk] at hn
      cases hn
      omega
  refine ⟨(h.res.other hf (fun e => (h.off A (.inl e)).1 rfl) hg).setOther hb.hC h.ne.1 0 mv', (h.arg.other hf (fun e => (h.off b (.inl e)).2.1 rfl) hg).setOther hb.hC h.ne.2 0 mv', ?_, hF.row ho (fun k hk e => (hoff k hk).2.2 e), hF.row (hf.row h.co (fun k hk e => h.dj k e hk)) (fun k hk e => (h.off k (.inr hk)).2.2 e), ?_, h.ne, fun k hk => ?_⟩
  · have := hb.set 0 (by simp) mv'
    simpa using this
  · intro k hk e
    rcases hn with hn | ⟨k', hn, hk'⟩
    · exact h.dj k (hn ▸ hk) e
    · rw [hk] at hn
      cases hn
      have := (h.co.lt k e).2
      omega
  · rcases hk with hk | hk
    · exact hoff k hk
    · exact h.off k (.inr hk)
theorem TdI.addC (h : TdI w wr A C b v0 v1 mv cv ms cs) (hf : Frm (Own cv) wr w2) (ho : w2.ownsRow w.heap.size 57 3 cv' cs'.length (rows clsV cs')) (hn : cv'.ownBlock = cv.ownBlock ∨ ∃ k, cv'.ownBlock = some k ∧ wr.heap.size ≤ k) :
    TdI w (w2.setCell ⟨C, 1, none⟩ cv') A C b v0 v1 mv cv' ms cs' := by
  have hF : Frm (One C) w2 (w2.setCell ⟨C, 1, none⟩ cv') := setCell_own _
  have hg : ∀ k, Own cv k → w.heap.size ≤ k := fun k hk => (h.co.lt k hk).1
  have hb := (h.box.other hf (fun e => (h.off C (.inr e)).2.2 rfl) hg)
  have hA := h.res.lC
  have hB := h.arg.lC
  have hC := h.box.lC
  have hoff : ∀ k, cv'.ownBlock = some k → k ≠ A ∧ k ≠ b ∧ k ≠ C := fun k hk => by
    rcases hn with hn | ⟨k', hn, hk'⟩
    · exact h.off k (.inr (hn ▸ hk))
    · rw [hk] at hn
      cases hn
      omega
  refine ⟨(h.res.other hf (fun e => (h.off A (.inr e)).1 rfl) hg).setOther hb.hC h.ne.1 1 cv', (h.arg.other hf (fun e => (h.off b (.inr e)).2.1 rfl) hg).setOther hb.hC h.ne.2 1 cv', ?_, hF.row (hf.row h.mo (fun k hk e => h.dj k hk e)) (fun k hk e => (h.off k (.inl hk)).2.2 e), hF.row ho (fun k hk e => (hoff k hk).2.2 e), ?_, h.ne, fun k hk => ?_⟩
  · have := hb.set 1 (by simp) cv'
    simpa using this
  · intro k hk e
    rcases hn with hn | ⟨k', hn, hk'⟩
    · exact h.dj k hk (hn ▸ e)
    · rw [e] at hn
      cases hn
      have := (h.mo.lt k hk).2
      omega
  · rcases hk with hk | hk
    · exact h.off k (.inl hk)
    · exact hoff k hk
end
set_option maxRecDepth 100000 in
set_option maxHeartbeats 8000000 in
theorem told_any (R : Rl) (mv cv : Value) (w : World) (hr : RlR w mv cv R) (hI : Inv R) :
    Calls Tryz.prog 33 #[.agg #[mv, cv]] w fun e w' => ∃ mv' cv', e = .returned (.agg #[mv', cv']) ∧ RlR w' mv' cv' R ∧ Frm No w w' := by
  obtain ⟨i0, gi, gz0, gz1, gz2⟩ := info_parts info_rmem
  obtain ⟨j0, ji, jz0, jz1, jz2⟩ := info_parts info_rcls
  have hml := hI.ml
  have hcl0 := hI.cl
  have HMR := hid (fun w1 (hf : Frm No w w1) => (hr.no hf).mr)
  obtain ⟨mao, mcp, rfl⟩ := hr.mr.shape
  obtain ⟨cs, hfs, hc, hst⟩ := hr.cr
  have hcl : cs.length = R.clss.length := by rw [← hfs]; simp
  have HC := hid (fun w1 (hf : Frm No w w1) => hc.frm (fun _ _ => rfl) hf (fun _ _ h => h))
  have HST := hid (fun w1 (hf : Frm No w w1) (x : CV) (hx : x ∈ cs) => (hst x hx).frm (fun _ _ => rfl) hf (fun _ _ h => h))
  obtain ⟨cao, ccp, rfl⟩ := hc.shape
  have HFS := hid hfs
  obtain ⟨ml, hmle⟩ : ∃ ml, R.mems.length = ml := ⟨_, rfl⟩
  obtain ⟨cl, hcle⟩ : ∃ cl, cs.length = cl := ⟨_, rfl⟩
  have HML := hid hmle
  have HCL := hid hcle
  have hcl2 : cl ≤ 32 := by omega
  rw [hmle] at hml ⊢
  rw [hcle] at ⊢
  rw [hmle] at HMR
  clear hr hc hst hfs hcl hmle hcle hI hcl0
  go_enter Tryz.func33, Tryz.ntmps33
  go_upto_region 2 with fail
  have X0 := Box.new (Frm.refl No w) [.slice mao ml mcp, .slice cao cl ccp] 27
  have X1 := Box.new X0.frm [.slice none 0 0, .slice none 0 0] 31
  have X2 := Box.new X1.frm [.slice none 0 0, .slice none 0 0] 31
  have Y1 := X1.no ((Frm.refl No _).alloc (.cells #[.slice none 0 0, .slice none 0 0] 31))
  have Y0 := (X0.no ((Frm.refl No _).alloc (.cells #[.slice none 0 0, .slice none 0 0] 31))).no ((Frm.refl No _).alloc (.cells #[.slice none 0 0, .slice none 0 0] 31))
  simp only [World.size_alloc] at X2 Y1
  obtain ⟨W, hW⟩ : ∃ W, W = ((w.alloc (.cells #[.slice mao ml mcp, .slice cao cl ccp] 27)).alloc (.cells #[.slice none 0 0, .slice none 0 0] 31)).alloc (.cells #[.slice none 0 0, .slice none 0 0] 31) := ⟨_, rfl⟩
  rw [← hW] at X2 Y1 Y0 ⊢
  clear hW
  obtain ⟨b, hb⟩ : ∃ b, w.heap.size = b := ⟨_, rfl⟩
  rw [hb] at X2 Y1 Y0
  simp only [hb]
  have HT0 : Hid (TdI w W (b + 1) (b + 1 + 1) b (.slice mao ml mcp) (.slice cao cl ccp) (.slice none 0 0) (.slice none 0 0) [] []) := hid ⟨Y1, Y0, X2, World.ownsRow_nil _ _ _ _, World.ownsRow_nil _ _ _ _, fun k hk => (by cases hk), ⟨by omega, by omega⟩, fun k hk => by rcases hk with hk | hk <;> cases hk⟩
  clear X0 X1 X2 Y0 Y1
  go_wp2_with fail
  go_loopw [4] (fun iv wr => ∃ (i : Nat) (mv : Value), i ≤ ml ∧ iv = .int .i64 (i : Int) ∧ TdI w wr (b + 1) (b + 1 + 1) b (.slice mao ml mcp) (.slice cao cl ccp) mv (.slice none 0 0) (R.mems.take i) [])
    (fun iv _ => ml - (intOf iv).toNat)
  case atStart => exact ⟨0, _, by omega, rfl, HT0.out⟩
  case round =>
    clear HT0
    obtain ⟨i, mv, hi, rfl, hT⟩ := hrel
    have c0 := hT.arg.cell 0
    have c1 := hT.arg.cell 1
    have hf0 := hT.arg.frm
    simp only [List.getElem?_cons_zero, List.getElem?_cons_succ] at c0 c1
    by_cases hil : i < ml
    · as_aux_lemma =>
      have hilz : (i : Int) < (ml : Int) := by omega
      have hi2 : i < R.mems.length := by rw [HML.out]; exact hil
      have hlen : (R.mems.take i).length = i := by rw [List.length_take]; omega
      have hmr : RdL wr (.slice mao R.mems.length mcp) 3 memV R.mems := by rw [HML.out]; exact HMR.out wr hf0
      obtain ⟨g, o, rfl, hcc⟩ := hmr.at_ (by omega)
      have q0 := hcc i hi2 0 (by omega)
      have q1 := hcc i hi2 1 (by omega)
      have q2 := hcc i hi2 2 (by omega)
      have HTK := hid (take_snoc R.mems i hi2)
      obtain ⟨m, hm⟩ : ∃ m, R.mems[i] = m := ⟨_, rfl⟩
      simp only [hm] at q0 q1 q2 HTK
      obtain ⟨nm, ro, qu⟩ := m
      simp only [memV, List.getElem?_cons_zero, List.getElem?_cons_succ, ← Nat.add_assoc, Nat.add_zero] at q0 q1 q2
      have hmo := hT.mo
      rw [hlen] at hmo
      obtain ⟨ao, cp, rfl⟩ := ownsRow_shape hmo
      have HT := hid hT
      have HMO := hid (fun w2 (h : TdI w w2 (b + 1) (b + 1 + 1) b (.slice (some ⟨g, o, none⟩) ml mcp) (.slice cao cl ccp) (.slice ao i cp) (.slice none 0 0) (R.mems.take i) []) => (by have := h.mo; rw [hlen] at this; exact this : w2.ownsRow w.heap.size 48 3 (.slice ao i cp) i (rows memV (R.mems.take i))))
      have hk0 := hT.box.cell 0
      simp only [List.getElem?_cons_zero] at hk0
      have HLN := hid hlen
      have hgl : g < wr.heap.size := World.block_lt_of_cell? (u := .string ⟨nm.toArray⟩) wr ⟨g, o + i * 3, none⟩ q0
      have hbl := hT.arg.lC
      have hCl := hT.box.lC
      have SK : Hid (∀ w', Frm No wr w' → w'.cell? ⟨b + 1 + 1, 0, none⟩ = some (.slice ao i cp) ∧ w'.cell? ⟨b, 0, none⟩ = some (.slice (some ⟨g, o, none⟩) ml mcp) ∧ w'.cell? ⟨g, o + i * 3, none⟩ = some (.string ⟨nm.toArray⟩) ∧ w'.cell? ⟨g, o + i * 3 + 1, none⟩ = some (.int .i64 ro) ∧ w'.cell? ⟨g, o + i * 3 + 2, none⟩ = some (.int .i64 qu)) := hid fun w' hf => ⟨(hf.cell (p := ⟨b + 1 + 1, 0, none⟩) hCl (fun h => h)).trans hk0, (hf.cell (p := ⟨b, 0, none⟩) hbl (fun h => h)).trans c0, (hf.cell (p := ⟨g, o + i * 3, none⟩) hgl (fun h => h)).trans q0, (hf.cell (p := ⟨g, o + i * 3 + 1, none⟩) hgl (fun h => h)).trans q1, (hf.cell (p := ⟨g, o + i * 3 + 2, none⟩) hgl (fun h => h)).trans q2⟩
      clear hT hmr hcc hmo q0 q1 q2 hk0 hlen HMR HC HST HFS hm
      go_upto_region 5 with fail
      clear c0 c1
      refine wp_region_late (fun w' => w'.cell? ⟨b + 1 + 1, 0, none⟩ = some (.slice ao i cp) ∧ w'.cell? ⟨b, 0, none⟩ = some (.slice (some ⟨g, o, none⟩) ml mcp) ∧ w'.cell? ⟨g, o + i * 3, none⟩ = some (.string ⟨nm.toArray⟩) ∧ w'.cell? ⟨g, o + i * 3 + 1, none⟩ = some (.int .i64 ro) ∧ w'.cell? ⟨g, o + i * 3 + 2, none⟩ = some (.int .i64 qu)) [8, 10] (by kernel_rfl) (SK.out _ (Frm.refl _ _).drew) (fun hHeld => ?_)
      refine wpLate_take0 (i := 0) (oi := _) (v := _) rfl (by kernel_rfl) (by kernel_rfl) (by kernel_rfl) (by kernel_rfl) (fun _ _ _ h => h) (Or.inl ⟨by rfl, by intro w _; go_simp; all_goals with_reducible rfl⟩) (fun _ => by assumption) ?_
      (try simp only [Act.put, List.getElem_toArray, List.getElem_cons_zero, List.setIfInBounds_toArray, List.set_cons_zero, List.set_cons_succ])
      refine wpLate_take [8, 10] (i := 1) (oi := _) (v := _) rfl (by kernel_rfl) (by kernel_rfl) (by kernel_rfl) (by kernel_rfl) (by kernel_rfl) (fun _ _ _ h => h) (Or.inl ⟨by rfl, by intro w hSw; (try dsimp only at hSw); go_simp; all_goals with_reducible rfl⟩) (by assumption) ?_
      (try simp only [Act.put, List.getElem_toArray, List.getElem_cons_succ, List.getElem_cons_zero, List.setIfInBounds_toArray, List.set_cons_zero, List.set_cons_succ])
      refine wpLate_take0 (i := 2) (oi := _) (v := _) rfl (by kernel_rfl) (by kernel_rfl) (by kernel_rfl) (by kernel_rfl) (fun _ _ _ h => h) (Or.inl ⟨by rfl, by intro w _; go_simp; all_goals with_reducible rfl⟩) (fun _ => by assumption) ?_
      (try simp only [Act.put, List.getElem_toArray, List.getElem_cons_succ, List.getElem_cons_zero, List.setIfInBounds_toArray, List.set_cons_zero, List.set_cons_succ])
      refine wpLate_take [5, 6, 7, 8, 10] (i := 3) (oi := _) (v := _) rfl (by kernel_rfl) (by kernel_rfl) (by kernel_rfl) (by kernel_rfl) (by kernel_rfl) (fun _ _ _ h => h) (Or.inl ⟨by rfl, by intro w hSw; (try dsimp only at hSw); go_simp; all_goals with_reducible rfl⟩) (by assumption) ?_
      (try simp only [Act.put, List.getElem_toArray, List.getElem_cons_succ, List.getElem_cons_zero, List.setIfInBounds_toArray, List.set_cons_zero, List.set_cons_succ])
      refine wpLate_take0 (i := 4) (oi := _) (v := _) rfl (by kernel_rfl) (by kernel_rfl) (by kernel_rfl) (by kernel_rfl) (fun _ _ _ h => h) (Or.inl ⟨by rfl, by intro w _; go_simp; all_goals with_reducible rfl⟩) (fun _ => by assumption) ?_
      (try simp only [Act.put, List.getElem_toArray, List.getElem_cons_succ, List.getElem_cons_zero, List.setIfInBounds_toArray, List.set_cons_zero, List.set_cons_succ])
      refine wpLate_take0 (i := 5) (oi := _) (v := _) rfl (by kernel_rfl) (by kernel_rfl) (by kernel_rfl) (by kernel_rfl) (fun _ _ _ h => h) (Or.inl ⟨by rfl, by intro w _; go_simp; all_goals with_reducible rfl⟩) (fun _ => by assumption) ?_
      (try simp only [Act.put, List.getElem_toArray, List.getElem_cons_succ, List.getElem_cons_zero, List.setIfInBounds_toArray, List.set_cons_zero, List.set_cons_succ])
      refine wpLate_take [7, 8, 10] (i := 6) (oi := _) (v := _) rfl (by kernel_rfl) (by kernel_rfl) (by kernel_rfl) (by kernel_rfl) (by kernel_rfl) (fun _ _ _ h => h) (Or.inl ⟨by rfl, by intro w hSw; (try dsimp only at hSw); go_simp; all_goals with_reducible rfl⟩) (by assumption) ?_
      (try simp only [Act.put, List.getElem_toArray, List.getElem_cons_succ, List.getElem_cons_zero, List.setIfInBounds_toArray, List.set_cons_zero, List.set_cons_succ])
      refine wpLate_ready (rs := [7]) (by kernel_rfl) (by simp) ?_
      refine (AllReadyL.cons (i := 7) rfl (fun K hK => ?_) AllReadyL.nil)
      simp only [List.getElem_toArray, List.getElem_cons_succ, List.getElem_cons_zero]
      go_simp
      have hTe := (HT.out.no (Frm.refl No wr).drew).no ((Frm.refl No wr.drew).alloc (.cells #[.string ⟨nm.toArray⟩, .int .i64 ro, .int .i64 qu] 48))
      have hBX := Box.new (Frm.refl No wr.drew) [.string ⟨nm.toArray⟩, .int .i64 ro, .int .i64 qu] 48
      refine hK.out _ _ (SK.out _ ((Frm.refl No wr).drew.alloc _)) (fun hHeld => ?_)
      clear hK K
      (try simp only [Act.put, List.getElem_toArray, List.getElem_cons_succ, List.getElem_cons_zero, List.setIfInBounds_toArray, List.set_cons_zero, List.set_cons_succ])
      refine wpLate_ready (rs := [8]) (by kernel_rfl) (by simp) ?_
      refine (AllReadyL.late (i := 8) rfl (by kernel_rfl) (fun K hK => ?_) AllReadyL.nil)
      refine step_append_own rfl (.tmp 14) (.tmp 20) 28 28 rfl w.heap.size 48 i0 _ 3 32 Tryz.underlying28 gi gz0 gz1 gz2 rfl (.slice ao i cp) i (rows memV (R.mems.take i)) (by simp [Act.eval]) (HMO.out _ hTe) (.slice (some ⟨wr.heap.size, 0, none⟩) 1 1) 1 (memV ⟨nm, ro, qu⟩) (by simp [Act.eval]) (src_box Tryz.underlying28 (memS.len _) (memS.one _) hBX.cell) (by unfold maxLen; omega) (by omega) hTe.box.frm.size ?_
      intro v4 w4 hown4 hf4 hv4
      refine hK.out _ _ ?_
      clear hK K
      (try simp only [Act.put, List.getElem_toArray, List.getElem_cons_succ, List.getElem_cons_zero, List.setIfInBounds_toArray, List.set_cons_zero, List.set_cons_succ])
      obtain ⟨ao4, cp4, rfl⟩ := ownsRow_shape hown4
      have hB4 := hTe.box.other hf4 (fun e => (hTe.off _ (.inl e)).2.2 rfl) (fun k hk => (hTe.mo.lt k hk).1)
      have cX := hB4.cell
      have fX := hB4.fr
      refine wpLate_ready (rs := [9]) (by kernel_rfl) (by simp) ?_
      refine (AllReadyL.late (i := 9) rfl (by kernel_rfl) (fun K hK => ?_) AllReadyL.nil)
      simp only [List.getElem_toArray, List.getElem_cons_succ, List.getElem_cons_zero]
      go_simp
      refine hK.out _ _ ?_
      clear hK K
      (try simp only [Act.put, List.getElem_toArray, List.getElem_cons_succ, List.getElem_cons_zero, List.setIfInBounds_toArray, List.set_cons_zero, List.set_cons_succ])
      refine wpLate_ready (rs := [10]) (by kernel_rfl) (by simp) ?_
      refine (AllReadyL.late (i := 10) rfl (by kernel_rfl) (fun K hK => ?_) AllReadyL.nil)
      simp only [List.getElem_toArray, List.getElem_cons_succ, List.getElem_cons_zero]
      go_simp
      refine hK.out _ _ ?_
      clear hK K
      (try simp only [Act.put, List.getElem_toArray, List.getElem_cons_succ, List.getElem_cons_zero, List.setIfInBounds_toArray, List.set_cons_zero, List.set_cons_succ])
      refine wpLate_done (by kernel_rfl) ?_ _
      have hlen2 : (R.mems.take (i + 1)).length = i + 1 := by rw [List.length_take]; have := HML.out; omega
      have hTz := hTe.addM (ms' := R.mems.take (i + 1)) hf4 (by rw [hlen2, ← HTK.out, ← rows_snoc]; exact hown4) hv4
      have HTz := hid hTz
      clear hTz cX fX hB4 hown4 hf4 hTe hBX hHeld SK HMO HTK HLN
      generalize w4.setCell ⟨b + 1 + 1, 0, none⟩ (.slice ao4 (i + 1) cp4) = wz at *
      go_wp2_with fail
      exact ⟨⟨i + 1, _, by omega, by go_num, HTz.out⟩, by simp only [intOf]; omega⟩
    · as_aux_lemma =>
      obtain rfl : i = ml := by omega
      have hiz : ¬ (i : Int) < (i : Int) := by omega
      have htk : R.mems.take i = R.mems := by rw [← HML.out, List.take_length]
      rw [htk] at hT
      have hmo := hT.mo
      rw [HML.out] at hmo
      obtain ⟨ao, cp, rfl⟩ := ownsRow_shape hmo
      have HT1 := hid hT
      clear hT hmo htk HMR hf0
      go_wp2_with fail
      clear c0 c1
      go_loopw [5] (fun iv wr => ∃ (k : Nat) (cv : Value), k ≤ cl ∧ iv = .int .i64 (k : Int) ∧ TdI w wr (b + 1) (b + 1 + 1) b (.slice mao i mcp) (.slice cao cl ccp) (.slice ao i cp) cv R.mems (cs.take k))
        (fun iv _ => cl - (intOf iv).toNat)
      case atStart => exact ⟨0, _, by omega, rfl, HT1.out⟩
      case round =>
        clear HT1
        obtain ⟨k, cv, hk, rfl, hT⟩ := hrel
        have c1 := hT.arg.cell 1
        have hf0 := hT.arg.frm
        simp only [List.getElem?_cons_zero, List.getElem?_cons_succ] at c1
        by_cases hkl : k < cl
        · as_aux_lemma =>
          have hkz : (k : Int) < (cl : Int) := by omega
          have hk2 : k < cs.length := by rw [HCL.out]; exact hkl
          have hlen : (cs.take k).length = k := by rw [List.length_take]; omega
          have hcr : RdL wr (.slice cao cs.length ccp) 3 clsV cs := HC.out wr hf0
          obtain ⟨g, o, rfl, hcc⟩ := hcr.at_ (by omega)
          have q0 := hcc k hk2 0 (by omega)
          have q1 := hcc k hk2 1 (by omega)
          have q2 := hcc k hk2 2 (by omega)
          have HTK := hid (take_snoc cs k hk2)
          obtain ⟨x, hx⟩ : ∃ x, cs[k] = x := ⟨_, rfl⟩
          simp only [hx] at q0 q1 q2 HTK
          obtain ⟨⟨xn, xt, xs⟩, xo, xc⟩ := x
          simp only [clsV, List.getElem?_cons_zero, List.getElem?_cons_succ, ← Nat.add_assoc, Nat.add_zero] at q0 q1 q2
          have hco := hT.co
          rw [hlen] at hco
          obtain ⟨co, cc, rfl⟩ := ownsRow_shape hco
          have HT := hid hT
          have HMO := hid (fun w2 (h : TdI w w2 (b + 1) (b + 1 + 1) b (.slice mao i mcp) (.slice (some ⟨g, o, none⟩) cl ccp) (.slice ao i cp) (.slice co k cc) R.mems (cs.take k)) => (by have := h.co; rw [hlen] at this; exact this : w2.ownsRow w.heap.size 57 3 (.slice co k cc) k (rows clsV (cs.take k))))
          have hk1 := hT.box.cell 1
          simp only [List.getElem?_cons_zero, List.getElem?_cons_succ] at hk1
          have hgl : g < wr.heap.size := World.block_lt_of_cell? (u := .string ⟨xn.toArray⟩) wr ⟨g, o + k * 3, none⟩ q0
          have hbl := hT.arg.lC
          have hCl := hT.box.lC
          have SK : Hid (∀ w', Frm No wr w' → w'.cell? ⟨b + 1 + 1, 1, none⟩ = some (.slice co k cc) ∧ w'.cell? ⟨b, 1, none⟩ = some (.slice (some ⟨g, o, none⟩) cl ccp) ∧ w'.cell? ⟨g, o + k * 3, none⟩ = some (.string ⟨xn.toArray⟩) ∧ w'.cell? ⟨g, o + k * 3 + 1, none⟩ = some (.string ⟨xt.toArray⟩) ∧ w'.cell? ⟨g, o + k * 3 + 2, none⟩ = some (.slice xo xs.length xc)) := hid fun w' hf => ⟨(hf.cell (p := ⟨b + 1 + 1, 1, none⟩) hCl (fun h => h)).trans hk1, (hf.cell (p := ⟨b, 1, none⟩) hbl (fun h => h)).trans c1, (hf.cell (p := ⟨g, o + k * 3, none⟩) hgl (fun h => h)).trans q0, (hf.cell (p := ⟨g, o + k * 3 + 1, none⟩) hgl (fun h => h)).trans q1, (hf.cell (p := ⟨g, o + k * 3 + 2, none⟩) hgl (fun h => h)).trans q2⟩
          clear hT hcr hcc hco q0 q1 q2 hk1 hlen HC HST HFS hx
          obtain ⟨sl, hsl⟩ : ∃ sl, xs.length = sl := ⟨_, rfl⟩
          have HSX : Hid (clsV (⟨xn, xt, xs⟩, (xo, xc)) = [.string ⟨xn.toArray⟩, .string ⟨xt.toArray⟩, .slice xo sl xc]) := hid (by rw [← hsl]; rfl)
          rw [hsl] at SK
          clear hsl
          go_upto_region 9 with fail
          clear c1
          refine wp_region_late (fun w' => w'.cell? ⟨b + 1 + 1, 1, none⟩ = some (.slice co k cc) ∧ w'.cell? ⟨b, 1, none⟩ = some (.slice (some ⟨g, o, none⟩) cl ccp) ∧ w'.cell? ⟨g, o + k * 3, none⟩ = some (.string ⟨xn.toArray⟩) ∧ w'.cell? ⟨g, o + k * 3 + 1, none⟩ = some (.string ⟨xt.toArray⟩) ∧ w'.cell? ⟨g, o + k * 3 + 2, none⟩ = some (.slice xo sl xc)) [22, 24] (by kernel_rfl) (SK.out _ (Frm.refl _ _).drew) (fun hHeld => ?_)
          refine wpLate_take0 (i := 0) (oi := _) (v := _) rfl (by kernel_rfl) (by kernel_rfl) (by kernel_rfl) (by kernel_rfl) (fun _ _ _ h => h) (Or.inl ⟨by rfl, by intro w _; go_simp; all_goals with_reducible rfl⟩) (fun _ => by assumption) ?_
          (try simp only [Act.put, List.getElem_toArray, List.getElem_cons_zero, List.setIfInBounds_toArray, List.set_cons_zero, List.set_cons_succ])
          refine wpLate_take [22, 24] (i := 1) (oi := _) (v := _) rfl (by kernel_rfl) (by kernel_rfl) (by kernel_rfl) (by kernel_rfl) (by kernel_rfl) (fun _ _ _ h => h) (Or.inl ⟨by rfl, by intro w hSw; (try dsimp only at hSw); go_simp; all_goals with_reducible rfl⟩) (by assumption) ?_
          (try simp only [Act.put, List.getElem_toArray, List.getElem_cons_succ, List.getElem_cons_zero, List.setIfInBounds_toArray, List.set_cons_zero, List.set_cons_succ])
          refine wpLate_take0 (i := 2) (oi := _) (v := _) rfl (by kernel_rfl) (by kernel_rfl) (by kernel_rfl) (by kernel_rfl) (fun _ _ _ h => h) (Or.inl ⟨by rfl, by intro w _; go_simp; all_goals with_reducible rfl⟩) (fun _ => by assumption) ?_
          (try simp only [Act.put, List.getElem_toArray, List.getElem_cons_succ, List.getElem_cons_zero, List.setIfInBounds_toArray, List.set_cons_zero, List.set_cons_succ])
          refine wpLate_take [5, 6, 7, 20, 21, 22, 24] (i := 3) (oi := _) (v := _) rfl (by kernel_rfl) (by kernel_rfl) (by kernel_rfl) (by kernel_rfl) (by kernel_rfl) (fun _ _ _ h => h) (Or.inl ⟨by rfl, by intro w hSw; (try dsimp only at hSw); go_simp; all_goals with_reducible rfl⟩) (by assumption) ?_
          (try simp only [Act.put, List.getElem_toArray, List.getElem_cons_succ, List.getElem_cons_zero, List.setIfInBounds_toArray, List.set_cons_zero, List.set_cons_succ])
          refine wpLate_take0 (i := 4) (oi := _) (v := _) rfl (by kernel_rfl) (by kernel_rfl) (by kernel_rfl) (by kernel_rfl) (fun _ _ _ h => h) (Or.inl ⟨by rfl, by intro w _; go_simp; all_goals with_reducible rfl⟩) (fun _ => by assumption) ?_
          (try simp only [Act.put, List.getElem_toArray, List.getElem_cons_succ, List.getElem_cons_zero, List.setIfInBounds_toArray, List.set_cons_zero, List.set_cons_succ])
          refine wpLate_take0 (i := 5) (oi := _) (v := _) rfl (by kernel_rfl) (by kernel_rfl) (by kernel_rfl) (by kernel_rfl) (fun _ _ _ h => h) (Or.inl ⟨by rfl, by intro w _; go_simp; all_goals with_reducible rfl⟩) (fun _ => by assumption) ?_
          (try simp only [Act.put, List.getElem_toArray, List.getElem_cons_succ, List.getElem_cons_zero, List.setIfInBounds_toArray, List.set_cons_zero, List.set_cons_succ])
          refine wpLate_take0 (i := 6) (oi := _) (v := _) rfl (by kernel_rfl) (by kernel_rfl) (by kernel_rfl) (by kernel_rfl) (fun _ _ _ h => h) (Or.inl ⟨by rfl, by intro w _; go_simp; all_goals with_reducible rfl⟩) (fun _ => by assumption) ?_
          (try simp only [Act.put, List.getElem_toArray, List.getElem_cons_succ, List.getElem_cons_zero, List.setIfInBounds_toArray, List.set_cons_zero, List.set_cons_succ])
          refine wpLate_take [20, 21, 22, 24] (i := 7) (oi := _) (v := _) rfl (by kernel_rfl) (by kernel_rfl) (by kernel_rfl) (by kernel_rfl) (by kernel_rfl) (fun _ _ _ h => h) (Or.inl ⟨by rfl, by intro w hSw; (try dsimp only at hSw); go_simp; all_goals with_reducible rfl⟩) (by assumption) ?_
          (try simp only [Act.put, List.getElem_toArray, List.getElem_cons_succ, List.getElem_cons_zero, List.setIfInBounds_toArray, List.set_cons_zero, List.set_cons_succ])
          refine wpLate_take0 (i := 8) (oi := _) (v := _) rfl (by kernel_rfl) (by kernel_rfl) (by kernel_rfl) (by kernel_rfl) (fun _ _ _ h => h) (Or.inl ⟨by rfl, by intro w _; go_simp; all_goals with_reducible rfl⟩) (fun _ => by assumption) ?_
          (try simp only [Act.put, List.getElem_toArray, List.getElem_cons_succ, List.getElem_cons_zero, List.setIfInBounds_toArray, List.set_cons_zero, List.set_cons_succ])
          refine wpLate_take [11, 12, 13, 20, 21, 22, 24] (i := 9) (oi := _) (v := _) rfl (by kernel_rfl) (by kernel_rfl) (by kernel_rfl) (by kernel_rfl) (by kernel_rfl) (fun _ _ _ h => h) (Or.inl ⟨by rfl, by intro w hSw; (try dsimp only at hSw); go_simp; all_goals with_reducible rfl⟩) (by assumption) ?_
          (try simp only [Act.put, List.getElem_toArray, List.getElem_cons_succ, List.getElem_cons_zero, List.setIfInBounds_toArray, List.set_cons_zero, List.set_cons_succ])
          refine wpLate_take0 (i := 10) (oi := _) (v := _) rfl (by kernel_rfl) (by kernel_rfl) (by kernel_rfl) (by kernel_rfl) (fun _ _ _ h => h) (Or.inl ⟨by rfl, by intro w _; go_simp; all_goals with_reducible rfl⟩) (fun _ => by assumption) ?_
          (try simp only [Act.put, List.getElem_toArray, List.getElem_cons_succ, List.getElem_cons_zero, List.setIfInBounds_toArray, List.set_cons_zero, List.set_cons_succ])
          refine wpLate_take0 (i := 11) (oi := _) (v := _) rfl (by kernel_rfl) (by kernel_rfl) (by kernel_rfl) (by kernel_rfl) (fun _ _ _ h => h) (Or.inl ⟨by rfl, by intro w _; go_simp; all_goals with_reducible rfl⟩) (fun _ => by assumption) ?_
          (try simp only [Act.put, List.getElem_toArray, List.getElem_cons_succ, List.getElem_cons_zero, List.setIfInBounds_toArray, List.set_cons_zero, List.set_cons_succ])
          refine wpLate_take0 (i := 12) (oi := _) (v := _) rfl (by kernel_rfl) (by kernel_rfl) (by kernel_rfl) (by kernel_rfl) (fun _ _ _ h => h) (Or.inl ⟨by rfl, by intro w _; go_simp; all_goals with_reducible rfl⟩) (fun _ => by assumption) ?_
          (try simp only [Act.put, List.getElem_toArray, List.getElem_cons_succ, List.getElem_cons_zero, List.setIfInBounds_toArray, List.set_cons_zero, List.set_cons_succ])
          refine wpLate_take [20, 21, 22, 24] (i := 13) (oi := _) (v := _) rfl (by kernel_rfl) (by kernel_rfl) (by kernel_rfl) (by kernel_rfl) (by kernel_rfl) (fun _ _ _ h => h) (Or.inl ⟨by rfl, by intro w hSw; (try dsimp only at hSw); go_simp; all_goals with_reducible rfl⟩) (by assumption) ?_
          (try simp only [Act.put, List.getElem_toArray, List.getElem_cons_succ, List.getElem_cons_zero, List.setIfInBounds_toArray, List.set_cons_zero, List.set_cons_succ])
          refine wpLate_take0 (i := 14) (oi := _) (v := _) rfl (by kernel_rfl) (by kernel_rfl) (by kernel_rfl) (by kernel_rfl) (fun _ _ _ h => h) (Or.inl ⟨by rfl, by intro w _; go_simp; all_goals with_reducible rfl⟩) (fun _ => by assumption) ?_
          (try simp only [Act.put, List.getElem_toArray, List.getElem_cons_succ, List.getElem_cons_zero, List.setIfInBounds_toArray, List.set_cons_zero, List.set_cons_succ])
          refine wpLate_take [17, 18, 19, 20, 21, 22, 24] (i := 15) (oi := _) (v := _) rfl (by kernel_rfl) (by kernel_rfl) (by kernel_rfl) (by kernel_rfl) (by kernel_rfl) (fun _ _ _ h => h) (Or.inl ⟨by rfl, by intro w hSw; (try dsimp only at hSw); go_simp; all_goals with_reducible rfl⟩) (by assumption) ?_
          (try simp only [Act.put, List.getElem_toArray, List.getElem_cons_succ, List.getElem_cons_zero, List.setIfInBounds_toArray, List.set_cons_zero, List.set_cons_succ])
          refine wpLate_take0 (i := 16) (oi := _) (v := _) rfl (by kernel_rfl) (by kernel_rfl) (by kernel_rfl) (by kernel_rfl) (fun _ _ _ h => h) (Or.inl ⟨by rfl, by intro w _; go_simp; all_goals with_reducible rfl⟩) (fun _ => by assumption) ?_
          (try simp only [Act.put, List.getElem_toArray, List.getElem_cons_succ, List.getElem_cons_zero, List.setIfInBounds_toArray, List.set_cons_zero, List.set_cons_succ])
          refine wpLate_take0 (i := 17) (oi := _) (v := _) rfl (by kernel_rfl) (by kernel_rfl) (by kernel_rfl) (by kernel_rfl) (fun _ _ _ h => h) (Or.inl ⟨by rfl, by intro w _; go_simp; all_goals with_reducible rfl⟩) (fun _ => by assumption) ?_
          (try simp only [Act.put, List.getElem_toArray, List.getElem_cons_succ, List.getElem_cons_zero, List.setIfInBounds_toArray, List.set_cons_zero, List.set_cons_succ])
          refine wpLate_take0 (i := 18) (oi := _) (v := _) rfl (by kernel_rfl) (by kernel_rfl) (by kernel_rfl) (by kernel_rfl) (fun _ _ _ h => h) (Or.inl ⟨by rfl, by intro w _; go_simp; all_goals with_reducible rfl⟩) (fun _ => by assumption) ?_
          (try simp only [Act.put, List.getElem_toArray, List.getElem_cons_succ, List.getElem_cons_zero, List.setIfInBounds_toArray, List.set_cons_zero, List.set_cons_succ])
          refine wpLate_take [20, 21, 22, 24] (i := 19) (oi := _) (v := _) rfl (by kernel_rfl) (by kernel_rfl) (by kernel_rfl) (by kernel_rfl) (by kernel_rfl) (fun _ _ _ h => h) (Or.inl ⟨by rfl, by intro w hSw; (try dsimp only at hSw); go_simp; all_goals with_reducible rfl⟩) (by assumption) ?_
          (try simp only [Act.put, List.getElem_toArray, List.getElem_cons_succ, List.getElem_cons_zero, List.setIfInBounds_toArray, List.set_cons_zero, List.set_cons_succ])
          refine wpLate_take0 (i := 20) (oi := _) (v := _) rfl (by kernel_rfl) (by kernel_rfl) (by kernel_rfl) (by kernel_rfl) (fun _ _ _ h => h) (Or.inl ⟨by rfl, by intro w _; go_simp; all_goals with_reducible rfl⟩) (fun _ => by assumption) ?_
          (try simp only [Act.put, List.getElem_toArray, List.getElem_cons_succ, List.getElem_cons_zero, List.setIfInBounds_toArray, List.set_cons_zero, List.set_cons_succ])
          refine wpLate_ready (rs := [21]) (by kernel_rfl) (by simp) ?_
          refine (AllReadyL.cons (i := 21) rfl (fun K hK => ?_) AllReadyL.nil)
          simp only [List.getElem_toArray, List.getElem_cons_succ, List.getElem_cons_zero]
          go_simp
          have hTe := (HT.out.no (Frm.refl No wr).drew).no ((Frm.refl No wr.drew).alloc (.cells #[.string ⟨xn.toArray⟩, .string ⟨xt.toArray⟩, .slice xo sl xc] 57))
          have hBX := Box.new (Frm.refl No wr.drew) [.string ⟨xn.toArray⟩, .string ⟨xt.toArray⟩, .slice xo sl xc] 57
          refine hK.out _ _ (SK.out _ ((Frm.refl No wr).drew.alloc _)) (fun hHeld => ?_)
          clear hK K
          (try simp only [Act.put, List.getElem_toArray, List.getElem_cons_succ, List.getElem_cons_zero, List.setIfInBounds_toArray, List.set_cons_zero, List.set_cons_succ])
          refine wpLate_ready (rs := [22]) (by kernel_rfl) (by simp) ?_
          refine (AllReadyL.late (i := 22) rfl (by kernel_rfl) (fun K hK => ?_) AllReadyL.nil)
          refine step_append_own rfl (.tmp 31) (.tmp 51) 29 29 rfl w.heap.size 57 j0 _ 3 56 Tryz.underlying29 ji jz0 jz1 jz2 rfl (.slice co k cc) k (rows clsV (cs.take k)) (by simp [Act.eval]) (HMO.out _ hTe) (.slice (some ⟨wr.heap.size, 0, none⟩) 1 1) 1 [.string ⟨xn.toArray⟩, .string ⟨xt.toArray⟩, .slice xo sl xc] (by simp [Act.eval]) (src_box Tryz.underlying29 rfl (fun u hu => by simp only [List.mem_cons, List.not_mem_nil, or_false] at hu; rcases hu with rfl | rfl | rfl <;> rfl) hBX.cell) (by unfold maxLen; omega) (by omega) hTe.box.frm.size ?_
          intro v4 w4 hown4 hf4 hv4
          refine hK.out _ _ ?_
          clear hK K
          (try simp only [Act.put, List.getElem_toArray, List.getElem_cons_succ, List.getElem_cons_zero, List.setIfInBounds_toArray, List.set_cons_zero, List.set_cons_succ])
          obtain ⟨ao4, cp4, rfl⟩ := ownsRow_shape hown4
          have hB4 := hTe.box.other hf4 (fun e => (hTe.off _ (.inr e)).2.2 rfl) (fun k hk => (hTe.co.lt k hk).1)
          have cX := hB4.cell
          have fX := hB4.fr
          refine wpLate_ready (rs := [23]) (by kernel_rfl) (by simp) ?_
          refine (AllReadyL.late (i := 23) rfl (by kernel_rfl) (fun K hK => ?_) AllReadyL.nil)
          simp only [List.getElem_toArray, List.getElem_cons_succ, List.getElem_cons_zero]
          go_simp
          refine hK.out _ _ ?_
          clear hK K
          (try simp only [Act.put, List.getElem_toArray, List.getElem_cons_succ, List.getElem_cons_zero, List.setIfInBounds_toArray, List.set_cons_zero, List.set_cons_succ])
          refine wpLate_ready (rs := [24]) (by kernel_rfl) (by simp) ?_
          refine (AllReadyL.late (i := 24) rfl (by kernel_rfl) (fun K hK => ?_) AllReadyL.nil)
          simp only [List.getElem_toArray, List.getElem_cons_succ, List.getElem_cons_zero]
          go_simp
          refine hK.out _ _ ?_
          clear hK K
          (try simp only [Act.put, List.getElem_toArray, List.getElem_cons_succ, List.getElem_cons_zero, List.setIfInBounds_toArray, List.set_cons_zero, List.set_cons_succ])
          refine wpLate_done (by kernel_rfl) ?_ _
          have hlen2 : (cs.take (k + 1)).length = k + 1 := by rw [List.length_take]; have := HCL.out; omega
          have hTz := hTe.addC (cs' := cs.take (k + 1)) hf4 (by rw [hlen2, ← HTK.out, ← rows_snoc]; rw [HSX.out]; exact hown4) hv4
          have HTz := hid hTz
          clear hTz cX fX hB4 hown4 hf4 hTe hBX hHeld SK HMO HTK
          generalize w4.setCell ⟨b + 1 + 1, 1, none⟩ (.slice ao4 (k + 1) cp4) = wz at *
          go_wp2_with fail
          exact ⟨⟨k + 1, _, by omega, by go_num, HTz.out⟩, by simp only [intOf]; omega⟩
        · as_aux_lemma =>
          obtain rfl : k = cl := by omega
          have hkz : ¬ (k : Int) < (k : Int) := by omega
          have htk : cs.take k = cs := by rw [← HCL.out, List.take_length]
          rw [htk] at hT
          have hco := hT.co
          rw [HCL.out] at hco
          obtain ⟨co, cc, rfl⟩ := ownsRow_shape hco
          have k0 := hT.box.cell 0
          have k1 := hT.box.cell 1
          have a0 := hT.res.cell
          have af := hT.res.fr
          simp only [List.getElem?_cons_zero, List.getElem?_cons_succ] at k0 k1
          have HT := hid hT
          clear hT hco htk hf0 HC
          go_wp2_with fail
          have BX4 := (HT.out.res.set 0 (by simp) (.slice ao i cp)).set 1 (by simp) (.slice co k cc)
          have e0 := BX4.cell 0
          have e1 := BX4.cell 1
          simp only [List.set_cons_zero, List.set_cons_succ, List.getElem?_cons_zero, List.getElem?_cons_succ] at e0 e1
          have hFA : Frm (One (b + 1)) wr ((wr.setCell ⟨b + 1, 0, none⟩ (.slice ao i cp)).setCell ⟨b + 1, 1, none⟩ (.slice co k cc)) := (setCell_own _).then_ (setCell_own _)
          have hmo := hFA.row HT.out.mo (fun k' hk e => (HT.out.off k' (.inl hk)).1 e)
          have hco := hFA.row HT.out.co (fun k' hk e => (HT.out.off k' (.inr hk)).1 e)
          refine bodyPost_ret (v := .agg #[.slice ao i cp, .slice co k cc]) (by simp [results, Tryz.results33, go_sem, e0, e1]) rfl ⟨_, _, rfl, ⟨rdl_own memS hmo, cs, HFS.out, rdl_own clsS hco, fun p hp => HST.out _ BX4.frm p hp⟩, BX4.frm⟩
end Go.Proofs.YtofcmghhmklmiaaGreat
