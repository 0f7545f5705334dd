/- The reference's Copy. Printed by a program (refcopy.py). -/
import Derived.Test.YtofcmghhmklmiaaGreatRefQ
import Derived.Test.YtofcmghhmklmiaaGreatRollDD
namespace Go.Proofs.YtofcmghhmklmiaaGreat
open Go.RowKit
open Roll
/-- What Copy keeps. -/
def keeps (n x : B) : Bool := decide (n = []) || !decide (x = n)
theorem keeps_take {α : Type} (key : α → B) (n : B) (l : List α) (k : Nat) (hk : k < l.length) : (l.take (k + 1)).filter (fun x => keeps n (key x)) = (l.take k).filter (fun x => keeps n (key x)) ++ (if keeps n (key l[k]) = true then [l[k]] else []) := by
  rw [List.take_succ_eq_append_getElem hk, List.filter_append]
  congr 1
  simp only [List.filter_cons, List.filter_nil]
def cpc (n : B) (c : Cls) : Cls := ⟨c.name, c.teacher, c.students.filter (fun s => keeps n s)⟩
theorem cpy_eq (R : Rl) (n : B) : cpy R n = ⟨R.mems.filter (fun m => keeps n m.name), R.clss.map (cpc n)⟩ := rfl
def CopyP (w : World) (R : Rl) (n : B) (e : Ending) (w' : World) : Prop := ∃ mv' cv' cs', e = .returned (.agg #[mv', cv']) ∧ RqO w.heap.size w' mv' cv' (cpy R n) cs' ∧ Frm No w w'
set_option maxRecDepth 100000 in
set_option maxHeartbeats 8000000 in
theorem rcopy_any (R : Rl) (mv cv : Value) (n : B) (w : World) (hr : RlR w mv cv R) (hI : Inv R) :
    Calls Tryz.prog 67 #[.agg #[mv, cv], .string ⟨n.toArray⟩] w (CopyP w R n) := by
  obtain ⟨i0, gi, gz0, gz1, gz2⟩ := info_parts info_rmem
  obtain ⟨j0, ji, jz0, jz1, jz2⟩ := info_parts info_rcls
  obtain ⟨s0, si, sz0, sz1, sz2⟩ := info_parts info_str
  have hml := hI.ml
  have hcl0 := hI.cl
  have HSL : Hid (∀ c ∈ R.clss, c.students.length ≤ 256) := hid (fun c hc => hI.students hc)
  have HMR := hid (fun w1 (hf : Frm No w w1) => (hr.no hf).mr)
  obtain ⟨mao, mcp, rfl⟩ := hr.mr.shape
  obtain ⟨cs, hfs, hc, hst⟩ := hr.cr
  have hcl : cs.length = R.clss.length := by rw [← hfs]; simp
  have HC := hid (fun w1 (hf : Frm No w w1) => hc.frm (fun _ _ => rfl) hf (fun _ _ h => h))
  have HST := hid (fun w1 (hf : Frm No w w1) (x : CV) (hx : x ∈ cs) => (hst x hx).frm (fun _ _ => rfl) hf (fun _ _ h => h))
  obtain ⟨cao, ccp, rfl⟩ := hc.shape
  have HFS := hid hfs
  obtain ⟨ml, hmle⟩ : ∃ ml, R.mems.length = ml := ⟨_, rfl⟩
  obtain ⟨cl, hcle⟩ : ∃ cl, cs.length = cl := ⟨_, rfl⟩
  have HML := hid hmle
  have HCL := hid hcle
  have hcl2 : cl ≤ 32 := by omega
  rw [hmle] at hml ⊢
  rw [hcle] at ⊢
  rw [hmle] at HMR
  have HDL : Hid (∀ x y : B, (x == y) = decide (x = y)) := hid (fun x y => by rw [Bool.eq_iff_iff]; simp)
  clear hr hc hst hfs hcl hmle hcle hI hcl0
  go_enter Tryz.func67, Tryz.ntmps67
  go_upto_region 2 with fail
  have X0 := Box.new (Frm.refl No w) [.slice mao ml mcp, .slice cao cl ccp] 31
  have X1 := Box.new X0.frm [.slice none 0 0, .slice none 0 0] 31
  have X2 := Box.new X1.frm [.slice none 0 0, .slice none 0 0] 31
  have Y1 := X1.no ((Frm.refl No _).alloc (.cells #[.slice none 0 0, .slice none 0 0] 31))
  have Y0 := (X0.no ((Frm.refl No _).alloc (.cells #[.slice none 0 0, .slice none 0 0] 31))).no ((Frm.refl No _).alloc (.cells #[.slice none 0 0, .slice none 0 0] 31))
  simp only [World.size_alloc] at X2 Y1
  obtain ⟨W, hW⟩ : ∃ W, W = ((w.alloc (.cells #[.slice mao ml mcp, .slice cao cl ccp] 31)).alloc (.cells #[.slice none 0 0, .slice none 0 0] 31)).alloc (.cells #[.slice none 0 0, .slice none 0 0] 31) := ⟨_, rfl⟩
  rw [← hW] at X2 Y1 Y0 ⊢
  clear hW
  obtain ⟨b, hb⟩ : ∃ b, w.heap.size = b := ⟨_, rfl⟩
  rw [hb] at X2 Y1 Y0
  simp only [hb]
  have HT0 : Hid (CpI w W (b + 1) (b + 1 + 1) b (.slice mao ml mcp) (.slice cao cl ccp) (.slice none 0 0) (.slice none 0 0) [] []) := hid ⟨Y1, Y0, X2, rqo_nil _ _, by omega, by omega, fun k hk => (rlb_nil hk).elim⟩
  clear X0 X1 X2 Y0 Y1
  go_wp2_with fail
  go_loopw [6] (fun iv wr => ∃ (i : Nat) (mv : Value) (ms : List Mem), i ≤ ml ∧ iv = .int .i64 (i : Int) ∧ CpI w wr (b + 1) (b + 1 + 1) b (.slice mao ml mcp) (.slice cao cl ccp) mv (.slice none 0 0) ms [] ∧ ms = (R.mems.take i).filter (fun x => keeps n x.name) ∧ ms.length ≤ i)
    (fun iv _ => ml - (intOf iv).toNat)
  case atStart => exact ⟨0, _, [], by omega, rfl, HT0.out, rfl, by simp⟩
  case round =>
    clear HT0
    obtain ⟨i, mv, ms, hi, rfl, hT, hms, hmsl⟩ := hrel
    have HMS := hid hms
    clear hms
    have c0 := hT.arg.cell 0
    have c1 := hT.arg.cell 1
    have hf0 := hT.arg.frm
    simp only [List.getElem?_cons_zero, List.getElem?_cons_succ] at c0 c1
    by_cases hil : i < ml
    · as_aux_lemma =>
      have hilz : (i : Int) < (ml : Int) := by omega
      have hi2 : i < R.mems.length := by rw [HML.out]; exact hil
      have hmr : RdL wr (.slice mao R.mems.length mcp) 3 memV R.mems := by rw [HML.out]; exact HMR.out wr hf0
      obtain ⟨g, o, rfl, hcc⟩ := hmr.at_ (by omega)
      have q0 := hcc i hi2 0 (by omega)
      have q1 := hcc i hi2 1 (by omega)
      have q2 := hcc i hi2 2 (by omega)
      have HTK := hid (keeps_take Mem.name n R.mems i hi2)
      obtain ⟨m, hm⟩ : ∃ m, R.mems[i] = m := ⟨_, rfl⟩
      simp only [hm] at q0 q1 q2 HTK
      obtain ⟨nm, ro, qu⟩ := m
      simp only [memV, List.getElem?_cons_zero, List.getElem?_cons_succ, ← Nat.add_assoc, Nat.add_zero] at q0 q1 q2
      have HT := hid hT
      have HMSL := hid hmsl
      clear hT hmr hcc HMR HC HST HFS hm hmsl
      go_upto_region 5 with fail
      go_cut [28] from 17 to 28 (fun p wq => p = .bool (keeps n nm) ∧ wq = wr)
      case first =>
        as_aux_lemma =>
        rcases n with _ | ⟨n0, nt⟩
        · go_wp2_with fail
          go_meet
          exact ⟨rfl, rfl⟩
        · have HKP : Hid (keeps (n0 :: nt) nm = !(nm == n0 :: nt)) := hid (by rw [HDL.out]; simp [keeps])
          have hn0 : ((n0 :: nt : B) == []) = false := rfl
          generalize n0 :: nt = n at *
          go_wp2_with fail
          go_meet
          exact ⟨by rw [HKP.out], rfl⟩
      case rest =>
        as_aux_lemma =>
        obtain ⟨rfl, hwq⟩ := hcut
        have hwq := hwq.symm
        subst hwq
        cases hkp : keeps n nm with
        | false =>
          as_aux_lemma =>
          have HNX : Hid (ms = (R.mems.take (i + 1)).filter (fun x => keeps n x.name)) := hid (by rw [HTK.out, ← HMS.out, hkp]; simp)
          have hmsl := HMSL.out
          clear hkp HTK HMS q0 q1 q2 HMSL
          go_wp2_with fail
          exact ⟨⟨i + 1, _, _, by omega, by go_num, HT.out, HNX.out, by omega⟩, by simp only [intOf]; omega⟩
        | true =>
          as_aux_lemma =>
          have HNX : Hid (ms ++ [⟨nm, ro, qu⟩] = (R.mems.take (i + 1)).filter (fun x => keeps n x.name)) := hid (by rw [HTK.out, ← HMS.out, hkp]; simp)
          have hmsl := HMSL.out
          clear hkp HTK HMS HMSL
          have hT := HT.out
          have hmo := hT.own.mo
          dsimp only at hmo
          obtain ⟨ao, cp, rfl⟩ := ownsRow_shape hmo
          obtain ⟨msl, hmsle⟩ : ∃ msl, ms.length = msl := ⟨_, rfl⟩
          have HMO := hid (fun w2 (h : CpI w w2 (b + 1) (b + 1 + 1) b (.slice (some ⟨g, o, none⟩) ml mcp) (.slice cao cl ccp) (.slice ao ms.length cp) (.slice none 0 0) ms []) => (h.own.mo : w2.ownsRow w.heap.size 48 3 (.slice ao ms.length cp) ms.length (rows memV ms)))
          have HMX := hid hmsle
          rw [hmsle] at HT HMO hmsl
          have hT := HT.out
          have hk0 := hT.box.cell 0
          simp only [List.getElem?_cons_zero] at hk0
          have hgl : g < wr.heap.size := World.block_lt_of_cell? (u := .string ⟨nm.toArray⟩) wr ⟨g, o + i * 3, none⟩ q0
          have hbl := hT.arg.lC
          have hCl := hT.box.lC
          have SK : Hid (∀ w', Frm No wr w' → w'.cell? ⟨b + 1 + 1, 0, none⟩ = some (.slice ao msl cp) ∧ w'.cell? ⟨b, 0, none⟩ = some (.slice (some ⟨g, o, none⟩) ml mcp) ∧ w'.cell? ⟨g, o + i * 3, none⟩ = some (.string ⟨nm.toArray⟩) ∧ w'.cell? ⟨g, o + i * 3 + 1, none⟩ = some (.int .i64 ro) ∧ w'.cell? ⟨g, o + i * 3 + 2, none⟩ = some (.int .i64 qu)) := hid fun w' hf => ⟨(hf.cell (p := ⟨b + 1 + 1, 0, none⟩) hCl (fun h => h)).trans hk0, (hf.cell (p := ⟨b, 0, none⟩) hbl (fun h => h)).trans c0, (hf.cell (p := ⟨g, o + i * 3, none⟩) hgl (fun h => h)).trans q0, (hf.cell (p := ⟨g, o + i * 3 + 1, none⟩) hgl (fun h => h)).trans q1, (hf.cell (p := ⟨g, o + i * 3 + 2, none⟩) hgl (fun h => h)).trans q2⟩
          clear hT hmo q0 q1 q2 hk0 hmsle
          go_upto_region 6 with fail
          clear c0 c1
          refine wp_region_late (fun w' => w'.cell? ⟨b + 1 + 1, 0, none⟩ = some (.slice ao msl cp) ∧ w'.cell? ⟨b, 0, none⟩ = some (.slice (some ⟨g, o, none⟩) ml mcp) ∧ w'.cell? ⟨g, o + i * 3, none⟩ = some (.string ⟨nm.toArray⟩) ∧ w'.cell? ⟨g, o + i * 3 + 1, none⟩ = some (.int .i64 ro) ∧ w'.cell? ⟨g, o + i * 3 + 2, none⟩ = some (.int .i64 qu)) [8, 10] (by kernel_rfl) (SK.out _ (Frm.refl _ _).drew) (fun hHeld => ?_)
          refine wpLate_take0 (i := 0) (oi := _) (v := _) rfl (by kernel_rfl) (by kernel_rfl) (by kernel_rfl) (by kernel_rfl) (fun _ _ _ h => h) (Or.inl ⟨by rfl, by intro w _; go_simp; all_goals with_reducible rfl⟩) (fun _ => by assumption) ?_
          (try simp only [Act.put, List.getElem_toArray, List.getElem_cons_zero, List.setIfInBounds_toArray, List.set_cons_zero, List.set_cons_succ])
          refine wpLate_take [8, 10] (i := 1) (oi := _) (v := _) rfl (by kernel_rfl) (by kernel_rfl) (by kernel_rfl) (by kernel_rfl) (by kernel_rfl) (fun _ _ _ h => h) (Or.inl ⟨by rfl, by intro w hSw; (try dsimp only at hSw); go_simp; all_goals with_reducible rfl⟩) (by assumption) ?_
          (try simp only [Act.put, List.getElem_toArray, List.getElem_cons_succ, List.getElem_cons_zero, List.setIfInBounds_toArray, List.set_cons_zero, List.set_cons_succ])
          refine wpLate_take0 (i := 2) (oi := _) (v := _) rfl (by kernel_rfl) (by kernel_rfl) (by kernel_rfl) (by kernel_rfl) (fun _ _ _ h => h) (Or.inl ⟨by rfl, by intro w _; go_simp; all_goals with_reducible rfl⟩) (fun _ => by assumption) ?_
          (try simp only [Act.put, List.getElem_toArray, List.getElem_cons_succ, List.getElem_cons_zero, List.setIfInBounds_toArray, List.set_cons_zero, List.set_cons_succ])
          refine wpLate_take [5, 6, 7, 8, 10] (i := 3) (oi := _) (v := _) rfl (by kernel_rfl) (by kernel_rfl) (by kernel_rfl) (by kernel_rfl) (by kernel_rfl) (fun _ _ _ h => h) (Or.inl ⟨by rfl, by intro w hSw; (try dsimp only at hSw); go_simp; all_goals with_reducible rfl⟩) (by assumption) ?_
          (try simp only [Act.put, List.getElem_toArray, List.getElem_cons_succ, List.getElem_cons_zero, List.setIfInBounds_toArray, List.set_cons_zero, List.set_cons_succ])
          refine wpLate_take0 (i := 4) (oi := _) (v := _) rfl (by kernel_rfl) (by kernel_rfl) (by kernel_rfl) (by kernel_rfl) (fun _ _ _ h => h) (Or.inl ⟨by rfl, by intro w _; go_simp; all_goals with_reducible rfl⟩) (fun _ => by assumption) ?_
          (try simp only [Act.put, List.getElem_toArray, List.getElem_cons_succ, List.getElem_cons_zero, List.setIfInBounds_toArray, List.set_cons_zero, List.set_cons_succ])
          refine wpLate_take0 (i := 5) (oi := _) (v := _) rfl (by kernel_rfl) (by kernel_rfl) (by kernel_rfl) (by kernel_rfl) (fun _ _ _ h => h) (Or.inl ⟨by rfl, by intro w _; go_simp; all_goals with_reducible rfl⟩) (fun _ => by assumption) ?_
          (try simp only [Act.put, List.getElem_toArray, List.getElem_cons_succ, List.getElem_cons_zero, List.setIfInBounds_toArray, List.set_cons_zero, List.set_cons_succ])
          refine wpLate_take [7, 8, 10] (i := 6) (oi := _) (v := _) rfl (by kernel_rfl) (by kernel_rfl) (by kernel_rfl) (by kernel_rfl) (by kernel_rfl) (fun _ _ _ h => h) (Or.inl ⟨by rfl, by intro w hSw; (try dsimp only at hSw); go_simp; all_goals with_reducible rfl⟩) (by assumption) ?_
          (try simp only [Act.put, List.getElem_toArray, List.getElem_cons_succ, List.getElem_cons_zero, List.setIfInBounds_toArray, List.set_cons_zero, List.set_cons_succ])
          refine wpLate_ready (rs := [7]) (by kernel_rfl) (by simp) ?_
          refine (AllReadyL.cons (i := 7) rfl (fun K hK => ?_) AllReadyL.nil)
          simp only [List.getElem_toArray, List.getElem_cons_succ, List.getElem_cons_zero]
          go_simp
          have hTe := (HT.out.no (Frm.refl No wr).drew).no ((Frm.refl No wr.drew).alloc (.cells #[.string ⟨nm.toArray⟩, .int .i64 ro, .int .i64 qu] 48))
          have hBX := Box.new (Frm.refl No wr.drew) [.string ⟨nm.toArray⟩, .int .i64 ro, .int .i64 qu] 48
          refine hK.out _ _ (SK.out _ ((Frm.refl No wr).drew.alloc _)) (fun hHeld => ?_)
          clear hK K
          (try simp only [Act.put, List.getElem_toArray, List.getElem_cons_succ, List.getElem_cons_zero, List.setIfInBounds_toArray, List.set_cons_zero, List.set_cons_succ])
          refine wpLate_ready (rs := [8]) (by kernel_rfl) (by simp) ?_
          refine (AllReadyL.late (i := 8) rfl (by kernel_rfl) (fun K hK => ?_) AllReadyL.nil)
          refine step_append_own rfl (.tmp 30) (.tmp 36) 28 28 rfl w.heap.size 48 i0 _ 3 32 Tryz.underlying28 gi gz0 gz1 gz2 rfl (.slice ao msl cp) msl (rows memV ms) (by simp [Act.eval]) (HMO.out _ hTe) (.slice (some ⟨wr.heap.size, 0, none⟩) 1 1) 1 (memV ⟨nm, ro, qu⟩) (by simp [Act.eval]) (src_box Tryz.underlying28 (memS.len _) (memS.one _) hBX.cell) (by unfold maxLen; omega) (by omega) hTe.box.frm.size ?_
          intro v4 w4 hown4 hf4 hv4
          refine hK.out _ _ ?_
          clear hK K
          (try simp only [Act.put, List.getElem_toArray, List.getElem_cons_succ, List.getElem_cons_zero, List.setIfInBounds_toArray, List.set_cons_zero, List.set_cons_succ])
          obtain ⟨ao4, cp4, rfl⟩ := ownsRow_shape hown4
          have hB4 := hTe.box.other hf4 (fun e => (hTe.off _ (.inl e)).2.2 rfl) (fun k hk => (hTe.own.mo.lt k hk).1)
          have cX := hB4.cell
          have fX := hB4.fr
          refine wpLate_ready (rs := [9]) (by kernel_rfl) (by simp) ?_
          refine (AllReadyL.late (i := 9) rfl (by kernel_rfl) (fun K hK => ?_) AllReadyL.nil)
          simp only [List.getElem_toArray, List.getElem_cons_succ, List.getElem_cons_zero]
          go_simp
          refine hK.out _ _ ?_
          clear hK K
          (try simp only [Act.put, List.getElem_toArray, List.getElem_cons_succ, List.getElem_cons_zero, List.setIfInBounds_toArray, List.set_cons_zero, List.set_cons_succ])
          refine wpLate_ready (rs := [10]) (by kernel_rfl) (by simp) ?_
          refine (AllReadyL.late (i := 10) rfl (by kernel_rfl) (fun K hK => ?_) AllReadyL.nil)
          simp only [List.getElem_toArray, List.getElem_cons_succ, List.getElem_cons_zero]
          go_simp
          refine hK.out _ _ ?_
          clear hK K
          (try simp only [Act.put, List.getElem_toArray, List.getElem_cons_succ, List.getElem_cons_zero, List.setIfInBounds_toArray, List.set_cons_zero, List.set_cons_succ])
          refine wpLate_done (by kernel_rfl) ?_ _
          have hTz := hTe.addM (ms' := ms ++ [⟨nm, ro, qu⟩]) hf4 (by rw [List.length_append, HMX.out, ← rows_snoc]; exact hown4) hv4
          have HTz := hid hTz
          clear hTz cX fX hB4 hown4 hf4 hTe hBX hHeld SK HMO
          generalize w4.setCell ⟨b + 1 + 1, 0, none⟩ (.slice ao4 (msl + 1) cp4) = wz at *
          go_wp2_with fail
          exact ⟨⟨i + 1, _, _, by omega, by go_num, HTz.out, HNX.out, by rw [List.length_append, HMX.out]; simp; omega⟩, by simp only [intOf]; omega⟩
    · as_aux_lemma =>
      obtain rfl : i = ml := by omega
      have hilz : ¬ (i : Int) < (i : Int) := by omega
      have HMSF : Hid (ms = R.mems.filter (fun x => keeps n x.name)) := hid (by have := HMS.out; rw [← HML.out, List.take_length] at this; exact this)
      have HT1 := hid hT
      clear hT HMR hf0 HMS
      go_wp2_with fail
      clear c0 c1
      go_loopw [7] (fun iv wr => ∃ (k : Nat) (cv : Value) (cs' : List CV), k ≤ cl ∧ iv = .int .i64 (k : Int) ∧ CpI w wr (b + 1) (b + 1 + 1) b (.slice mao i mcp) (.slice cao cl ccp) mv cv ms cs' ∧ cs'.map (·.1) = (cs.take k).map (fun x => cpc n x.1) ∧ cs'.length = k)
        (fun iv _ => cl - (intOf iv).toNat)
      case atStart => exact ⟨0, _, [], by omega, rfl, HT1.out, rfl, rfl⟩
      case round =>
        clear HT1
        obtain ⟨k, cv, cs', hk, rfl, hT, hcs, hcsl⟩ := hrel
        have HCS := hid hcs
        have HCSL := hid hcsl
        clear hcs hcsl
        have c1 := hT.arg.cell 1
        have hf0 := hT.arg.frm
        simp only [List.getElem?_cons_zero, List.getElem?_cons_succ] at c1
        by_cases hkl : k < cl
        · as_aux_lemma =>
          have hkz : (k : Int) < (cl : Int) := by omega
          have hk2 : k < cs.length := by rw [HCL.out]; exact hkl
          have hcr : RdL wr (.slice cao cs.length ccp) 3 clsV cs := HC.out wr hf0
          obtain ⟨g, o, rfl, hcc⟩ := hcr.at_ (by omega)
          have q0 := hcc k hk2 0 (by omega)
          have q1 := hcc k hk2 1 (by omega)
          have q2 := hcc k hk2 2 (by omega)
          have HTK : Hid ((cs.take (k + 1)).map (fun x => cpc n x.1) = (cs.take k).map (fun x => cpc n x.1) ++ [cpc n cs[k].1]) := hid (by rw [List.take_succ_eq_append_getElem hk2, List.map_append]; rfl)
          have HSX := hid (fun w1 (hf : Frm No w w1) => HST.out w1 hf cs[k] (List.getElem_mem hk2))
          have hsl256 : cs[k].1.students.length ≤ 256 := HSL.out _ (by rw [← HFS.out]; exact List.mem_map.2 ⟨_, List.getElem_mem hk2, rfl⟩)
          obtain ⟨x, hx⟩ : ∃ x, cs[k] = x := ⟨_, rfl⟩
          simp only [hx] at q0 q1 q2 HTK HSX hsl256
          obtain ⟨⟨xn, xt, xs⟩, xo, xc⟩ := x
          simp only [clsV, List.getElem?_cons_zero, List.getElem?_cons_succ, ← Nat.add_assoc, Nat.add_zero] at q0 q1 q2
          dsimp only [sv] at HSX hsl256
          have HT := hid hT
          have hgl : g < wr.heap.size := World.block_lt_of_cell? (u := .string ⟨xn.toArray⟩) wr ⟨g, o + k * 3, none⟩ q0
          have hbl := hT.arg.lC
          have hgw : g < w.heap.size := by
            have h1 := HC.out w (Frm.refl No w)
            obtain ⟨g', o', h2, h3⟩ := h1.at_ (by omega)
            cases h2
            have h4 := h3 k hk2 0 (by omega)
            rw [hx] at h4
            exact World.block_lt_of_cell? (u := .string ⟨xn.toArray⟩) w ⟨g, o + (k * 3 + 0), none⟩ h4
          clear hT hcr hcc HC HST HFS hx HSL
          obtain ⟨sl, hsl⟩ : ∃ sl, xs.length = sl := ⟨_, rfl⟩
          have HSLE := hid hsl
          rw [hsl] at q2 HSX hsl256
          have SK : Hid (∀ w', Frm No wr w' → w'.cell? ⟨b, 1, none⟩ = some (.slice (some ⟨g, o, none⟩) cl ccp) ∧ w'.cell? ⟨g, o + k * 3, none⟩ = some (.string ⟨xn.toArray⟩) ∧ w'.cell? ⟨g, o + k * 3 + 1, none⟩ = some (.string ⟨xt.toArray⟩) ∧ w'.cell? ⟨g, o + k * 3 + 2, none⟩ = some (.slice xo sl xc)) := hid fun w' hf => ⟨(hf.cell (p := ⟨b, 1, none⟩) hbl (fun h => h)).trans c1, (hf.cell (p := ⟨g, o + k * 3, none⟩) hgl (fun h => h)).trans q0, (hf.cell (p := ⟨g, o + k * 3 + 1, none⟩) hgl (fun h => h)).trans q1, (hf.cell (p := ⟨g, o + k * 3 + 2, none⟩) hgl (fun h => h)).trans q2⟩
          have SKW : Hid (∀ w', Frm No w w' → w'.cell? ⟨g, o + k * 3 + 2, none⟩ = some (.slice xo sl xc)) := hid fun w' hf => (hf.cell (p := ⟨g, o + k * 3 + 2, none⟩) hgw (fun h => h)).trans ((hf0.cell (p := ⟨g, o + k * 3 + 2, none⟩) hgw (fun h => h)).symm.trans q2)
          clear q0 q1 q2 hsl hf0
          go_upto_region 10 with fail
          clear c1
          refine wp_region_late (fun w' => w'.cell? ⟨b, 1, none⟩ = some (.slice (some ⟨g, o, none⟩) cl ccp) ∧ w'.cell? ⟨g, o + k * 3, none⟩ = some (.string ⟨xn.toArray⟩) ∧ w'.cell? ⟨g, o + k * 3 + 1, none⟩ = some (.string ⟨xt.toArray⟩) ∧ w'.cell? ⟨g, o + k * 3 + 2, none⟩ = some (.slice xo sl xc)) [14] (by kernel_rfl) (SK.out _ (Frm.refl _ _).drew) (fun hHeld => ?_)
          refine wpLate_take0 (i := 0) (oi := _) (v := _) rfl (by kernel_rfl) (by kernel_rfl) (by kernel_rfl) (by kernel_rfl) (fun _ _ _ h => h) (Or.inl ⟨by rfl, by intro w _; go_simp; all_goals with_reducible rfl⟩) (fun _ => by assumption) ?_
          (try simp only [Act.put, List.getElem_toArray, List.getElem_cons_zero, List.setIfInBounds_toArray, List.set_cons_zero, List.set_cons_succ])
          refine wpLate_take [3, 4, 5, 12, 14] (i := 1) (oi := _) (v := _) rfl (by kernel_rfl) (by kernel_rfl) (by kernel_rfl) (by kernel_rfl) (by kernel_rfl) (fun _ _ _ h => h) (Or.inl ⟨by rfl, by intro w hSw; (try dsimp only at hSw); go_simp; all_goals with_reducible rfl⟩) (by assumption) ?_
          (try simp only [Act.put, List.getElem_toArray, List.getElem_cons_succ, List.getElem_cons_zero, List.setIfInBounds_toArray, List.set_cons_zero, List.set_cons_succ])
          refine wpLate_take0 (i := 2) (oi := _) (v := _) rfl (by kernel_rfl) (by kernel_rfl) (by kernel_rfl) (by kernel_rfl) (fun _ _ _ h => h) (Or.inl ⟨by rfl, by intro w _; go_simp; all_goals with_reducible rfl⟩) (fun _ => by assumption) ?_
          (try simp only [Act.put, List.getElem_toArray, List.getElem_cons_succ, List.getElem_cons_zero, List.setIfInBounds_toArray, List.set_cons_zero, List.set_cons_succ])
          refine wpLate_take0 (i := 3) (oi := _) (v := _) rfl (by kernel_rfl) (by kernel_rfl) (by kernel_rfl) (by kernel_rfl) (fun _ _ _ h => h) (Or.inl ⟨by rfl, by intro w _; go_simp; all_goals with_reducible rfl⟩) (fun _ => by assumption) ?_
          (try simp only [Act.put, List.getElem_toArray, List.getElem_cons_succ, List.getElem_cons_zero, List.setIfInBounds_toArray, List.set_cons_zero, List.set_cons_succ])
          refine wpLate_take0 (i := 4) (oi := _) (v := _) rfl (by kernel_rfl) (by kernel_rfl) (by kernel_rfl) (by kernel_rfl) (fun _ _ _ h => h) (Or.inl ⟨by rfl, by intro w _; go_simp; all_goals with_reducible rfl⟩) (fun _ => by assumption) ?_
          (try simp only [Act.put, List.getElem_toArray, List.getElem_cons_succ, List.getElem_cons_zero, List.setIfInBounds_toArray, List.set_cons_zero, List.set_cons_succ])
          refine wpLate_take [12, 14] (i := 5) (oi := _) (v := _) rfl (by kernel_rfl) (by kernel_rfl) (by kernel_rfl) (by kernel_rfl) (by kernel_rfl) (fun _ _ _ h => h) (Or.inl ⟨by rfl, by intro w hSw; (try dsimp only at hSw); go_simp; all_goals with_reducible rfl⟩) (by assumption) ?_
          (try simp only [Act.put, List.getElem_toArray, List.getElem_cons_succ, List.getElem_cons_zero, List.setIfInBounds_toArray, List.set_cons_zero, List.set_cons_succ])
          refine wpLate_take0 (i := 6) (oi := _) (v := _) rfl (by kernel_rfl) (by kernel_rfl) (by kernel_rfl) (by kernel_rfl) (fun _ _ _ h => h) (Or.inl ⟨by rfl, by intro w _; go_simp; all_goals with_reducible rfl⟩) (fun _ => by assumption) ?_
          (try simp only [Act.put, List.getElem_toArray, List.getElem_cons_succ, List.getElem_cons_zero, List.setIfInBounds_toArray, List.set_cons_zero, List.set_cons_succ])
          refine wpLate_take [9, 10, 11, 12, 14] (i := 7) (oi := _) (v := _) rfl (by kernel_rfl) (by kernel_rfl) (by kernel_rfl) (by kernel_rfl) (by kernel_rfl) (fun _ _ _ h => h) (Or.inl ⟨by rfl, by intro w hSw; (try dsimp only at hSw); go_simp; all_goals with_reducible rfl⟩) (by assumption) ?_
          (try simp only [Act.put, List.getElem_toArray, List.getElem_cons_succ, List.getElem_cons_zero, List.setIfInBounds_toArray, List.set_cons_zero, List.set_cons_succ])
          refine wpLate_take0 (i := 8) (oi := _) (v := _) rfl (by kernel_rfl) (by kernel_rfl) (by kernel_rfl) (by kernel_rfl) (fun _ _ _ h => h) (Or.inl ⟨by rfl, by intro w _; go_simp; all_goals with_reducible rfl⟩) (fun _ => by assumption) ?_
          (try simp only [Act.put, List.getElem_toArray, List.getElem_cons_succ, List.getElem_cons_zero, List.setIfInBounds_toArray, List.set_cons_zero, List.set_cons_succ])
          refine wpLate_take0 (i := 9) (oi := _) (v := _) rfl (by kernel_rfl) (by kernel_rfl) (by kernel_rfl) (by kernel_rfl) (fun _ _ _ h => h) (Or.inl ⟨by rfl, by intro w _; go_simp; all_goals with_reducible rfl⟩) (fun _ => by assumption) ?_
          (try simp only [Act.put, List.getElem_toArray, List.getElem_cons_succ, List.getElem_cons_zero, List.setIfInBounds_toArray, List.set_cons_zero, List.set_cons_succ])
          refine wpLate_take0 (i := 10) (oi := _) (v := _) rfl (by kernel_rfl) (by kernel_rfl) (by kernel_rfl) (by kernel_rfl) (fun _ _ _ h => h) (Or.inl ⟨by rfl, by intro w _; go_simp; all_goals with_reducible rfl⟩) (fun _ => by assumption) ?_
          (try simp only [Act.put, List.getElem_toArray, List.getElem_cons_succ, List.getElem_cons_zero, List.setIfInBounds_toArray, List.set_cons_zero, List.set_cons_succ])
          refine wpLate_take [12, 14] (i := 11) (oi := _) (v := _) rfl (by kernel_rfl) (by kernel_rfl) (by kernel_rfl) (by kernel_rfl) (by kernel_rfl) (fun _ _ _ h => h) (Or.inl ⟨by rfl, by intro w hSw; (try dsimp only at hSw); go_simp; all_goals with_reducible rfl⟩) (by assumption) ?_
          (try simp only [Act.put, List.getElem_toArray, List.getElem_cons_succ, List.getElem_cons_zero, List.setIfInBounds_toArray, List.set_cons_zero, List.set_cons_succ])
          refine wpLate_take0 (i := 12) (oi := _) (v := _) rfl (by kernel_rfl) (by kernel_rfl) (by kernel_rfl) (by kernel_rfl) (fun _ _ _ h => h) (Or.inl ⟨by rfl, by intro w _; go_simp; all_goals with_reducible rfl⟩) (fun _ => by assumption) ?_
          (try simp only [Act.put, List.getElem_toArray, List.getElem_cons_succ, List.getElem_cons_zero, List.setIfInBounds_toArray, List.set_cons_zero, List.set_cons_succ])
          refine wpLate_ready (rs := [13]) (by kernel_rfl) (by simp) ?_
          refine (AllReadyL.cons (i := 13) rfl (fun K hK => ?_) AllReadyL.nil)
          simp only [List.getElem_toArray, List.getElem_cons_succ, List.getElem_cons_zero]
          go_simp
          refine hK.out _ _ (SK.out _ ((Frm.refl No _).drew.alloc _)) (fun hHeld => ?_)
          clear hK K
          (try simp only [Act.put, List.getElem_toArray, List.getElem_cons_succ, List.getElem_cons_zero, List.setIfInBounds_toArray, List.set_cons_zero, List.set_cons_succ])
          refine wpLate_ready (rs := [14]) (by kernel_rfl) (by simp) ?_
          refine (AllReadyL.late (i := 14) rfl (by kernel_rfl) (fun K hK => ?_) AllReadyL.nil)
          simp only [List.getElem_toArray, List.getElem_cons_succ, List.getElem_cons_zero]
          go_simp
          refine hK.out _ _ ?_
          clear hK K
          (try simp only [Act.put, List.getElem_toArray, List.getElem_cons_succ, List.getElem_cons_zero, List.setIfInBounds_toArray, List.set_cons_zero, List.set_cons_succ])
          refine wpLate_done (by kernel_rfl) ?_ _
          have HB0 := Box.new HT.out.box.frm [.string ⟨xn.toArray⟩, .string ⟨xt.toArray⟩, .slice none 0 0] 57
          have HS0 := HT.out.begin (((Frm.refl No wr).alloc _).drew) (HB0.no (Frm.refl No _).drew) (Nat.le_refl _)
          obtain ⟨WF, hWF⟩ : ∃ WF, WF = (wr.alloc (.cells #[.string ⟨xn.toArray⟩, .string ⟨xt.toArray⟩, .slice none 0 0] 57)).drew := ⟨_, rfl⟩
          have hWF2 : WF = (wr.alloc (.cells ([.string ⟨xn.toArray⟩, .string ⟨xt.toArray⟩, .slice none 0 0] : List Value).toArray 57)).drew := hWF
          have hFW : Frm No wr WF := by rw [hWF]; exact ((Frm.refl No wr).alloc _).drew
          rw [← hWF] at ⊢
          rw [← hWF2] at HS0
          clear hWF hWF2 HB0 hHeld
          obtain ⟨F, hF⟩ : ∃ F, wr.heap.size = F := ⟨_, rfl⟩
          rw [hF] at HS0
          (try simp only [hF])
          have HSF := hid HS0
          clear HS0 hFW SK hgl hbl HT hF
          go_wp2_with fail
          go_loopw [9] (fun iv wr => ∃ (j : Nat) (xv : Value) (ys : List B), j ≤ sl ∧ iv = .int .i64 (j : Int) ∧ CpS w wr (b + 1) (b + 1 + 1) b F (.slice mao i mcp) (.slice (some ⟨g, o, none⟩) cl ccp) mv cv ms cs' xn xt xv ys ∧ ys = (xs.take j).filter (fun s => keeps n s) ∧ ys.length ≤ j)
            (fun iv _ => sl - (intOf iv).toNat)
          case atStart => exact ⟨0, _, [], by omega, rfl, HSF.out, rfl, by simp⟩
          case round =>
            clear HSF
            obtain ⟨j, xv, ys, hj, rfl, hS, hys, hysl⟩ := hrel
            have HYS := hid hys
            clear hys
            have c1 := hS.st.arg.cell 1
            have hfz := hS.st.arg.frm
            simp only [List.getElem?_cons_zero, List.getElem?_cons_succ] at c1
            have q2 := SKW.out _ hfz
            by_cases hjl : j < sl
            · as_aux_lemma =>
              have hjz : (j : Int) < (sl : Int) := by omega
              have hj2 : j < xs.length := by rw [HSLE.out]; exact hjl
              have hsr : RdL wr (.slice xo xs.length xc) 1 strV xs := by rw [HSLE.out]; exact HSX.out wr hfz
              obtain ⟨g2, o2, rfl, hcc2⟩ := hsr.at_ (by omega)
              have r0 := hcc2 j hj2 0 (by omega)
              have HTK2 := hid (keeps_take id n xs j hj2)
              obtain ⟨sx, hsx⟩ : ∃ sx, xs[j] = sx := ⟨_, rfl⟩
              simp only [hsx, id] at r0 HTK2
              simp only [strV, List.getElem?_cons_zero, Nat.mul_one, Nat.add_zero] at r0
              have HS := hid hS
              have HYL := hid hysl
              clear hS hsr hcc2 hsx hysl HSX HTK HCS
              go_upto_region 14 with fail
              go_cut [84] from 70 to 84 (fun p wq => p = .bool (keeps n sx) ∧ wq = wr)
              case first =>
                as_aux_lemma =>
                rcases n with _ | ⟨n0, nt⟩
                · go_wp2_with fail
                  go_meet
                  exact ⟨rfl, rfl⟩
                · have HKP : Hid (keeps (n0 :: nt) sx = !(sx == n0 :: nt)) := hid (by rw [HDL.out]; simp [keeps])
                  have hn0 : ((n0 :: nt : B) == []) = false := rfl
                  generalize n0 :: nt = n at *
                  go_wp2_with fail
                  go_meet
                  exact ⟨by rw [HKP.out], rfl⟩
              case rest =>
                as_aux_lemma =>
                obtain ⟨rfl, hwq⟩ := hcut
                have hwq := hwq.symm
                subst hwq
                cases hkp : keeps n sx with
                | false =>
                  as_aux_lemma =>
                  have HNX : Hid (ys = (xs.take (j + 1)).filter (fun s => keeps n s)) := hid (by rw [HTK2.out, ← HYS.out, hkp]; simp)
                  have hysl := HYL.out
                  clear hkp HTK2 HYS r0 HYL
                  go_wp2_with fail
                  exact ⟨⟨j + 1, _, _, by omega, by go_num, HS.out, HNX.out, by omega⟩, by simp only [intOf]; omega⟩
                | true =>
                  as_aux_lemma =>
                  have HNX : Hid (ys ++ [sx] = (xs.take (j + 1)).filter (fun s => keeps n s)) := hid (by rw [HTK2.out, ← HYS.out, hkp]; simp)
                  have hysl := HYL.out
                  clear hkp HTK2 HYS HYL
                  have hS := HS.out
                  have hso := hS.so
                  obtain ⟨yo, yc, rfl⟩ := ownsRow_shape hso
                  obtain ⟨yl, hyl⟩ : ∃ yl, ys.length = yl := ⟨_, rfl⟩
                  have HMO := hid (fun w2 (h : CpS w w2 (b + 1) (b + 1 + 1) b F (.slice mao i mcp) (.slice (some ⟨g, o, none⟩) cl ccp) mv cv ms cs' xn xt (.slice yo ys.length yc) ys) => (h.so : w2.ownsRow w.heap.size 9 1 (.slice yo ys.length yc) ys.length (rows strV ys)))
                  have HMX := hid hyl
                  rw [hyl] at HS HMO hysl
                  have hS := HS.out
                  have hk2' := hS.fb.cell 2
                  simp only [List.getElem?_cons_zero, List.getElem?_cons_succ] at hk2'
                  have hgl : g < wr.heap.size := Nat.lt_of_lt_of_le hgw hfz.size
                  have hg2l : g2 < wr.heap.size := World.block_lt_of_cell? (u := .string ⟨sx.toArray⟩) wr ⟨g2, o2 + j, none⟩ r0
                  have hbl := hS.st.arg.lC
                  have hFl := hS.fb.lC
                  have SK : Hid (∀ w', Frm No wr w' → w'.cell? ⟨F, 2, none⟩ = some (.slice yo yl yc) ∧ w'.cell? ⟨b, 1, none⟩ = some (.slice (some ⟨g, o, none⟩) cl ccp) ∧ w'.cell? ⟨g, o + k * 3 + 2, none⟩ = some (.slice (some ⟨g2, o2, none⟩) sl xc) ∧ w'.cell? ⟨g2, o2 + j, none⟩ = some (.string ⟨sx.toArray⟩)) := hid fun w' hf => ⟨(hf.cell (p := ⟨F, 2, none⟩) hFl (fun h => h)).trans hk2', (hf.cell (p := ⟨b, 1, none⟩) hbl (fun h => h)).trans c1, (hf.cell (p := ⟨g, o + k * 3 + 2, none⟩) hgl (fun h => h)).trans q2, (hf.cell (p := ⟨g2, o2 + j, none⟩) hg2l (fun h => h)).trans r0⟩
                  clear hS hso q2 r0 hk2' hyl
                  go_upto_region 15 with fail
                  clear c1
                  refine wp_region_late (fun w' => w'.cell? ⟨F, 2, none⟩ = some (.slice yo yl yc) ∧ w'.cell? ⟨b, 1, none⟩ = some (.slice (some ⟨g, o, none⟩) cl ccp) ∧ w'.cell? ⟨g, o + k * 3 + 2, none⟩ = some (.slice (some ⟨g2, o2, none⟩) sl xc) ∧ w'.cell? ⟨g2, o2 + j, none⟩ = some (.string ⟨sx.toArray⟩)) [12, 14] (by kernel_rfl) (SK.out _ (Frm.refl _ _).drew) (fun hHeld => ?_)
                  refine wpLate_take0 (i := 0) (oi := _) (v := _) rfl (by kernel_rfl) (by kernel_rfl) (by kernel_rfl) (by kernel_rfl) (fun _ _ _ h => h) (Or.inl ⟨by rfl, by intro w _; go_simp; all_goals with_reducible rfl⟩) (fun _ => by assumption) ?_
                  (try simp only [Act.put, List.getElem_toArray, List.getElem_cons_zero, List.setIfInBounds_toArray, List.set_cons_zero, List.set_cons_succ])
                  refine wpLate_take [12, 14] (i := 1) (oi := _) (v := _) rfl (by kernel_rfl) (by kernel_rfl) (by kernel_rfl) (by kernel_rfl) (by kernel_rfl) (fun _ _ _ h => h) (Or.inl ⟨by rfl, by intro w hSw; (try dsimp only at hSw); go_simp; all_goals with_reducible rfl⟩) (by assumption) ?_
                  (try simp only [Act.put, List.getElem_toArray, List.getElem_cons_succ, List.getElem_cons_zero, List.setIfInBounds_toArray, List.set_cons_zero, List.set_cons_succ])
                  refine wpLate_take0 (i := 2) (oi := _) (v := _) rfl (by kernel_rfl) (by kernel_rfl) (by kernel_rfl) (by kernel_rfl) (fun _ _ _ h => h) (Or.inl ⟨by rfl, by intro w _; go_simp; all_goals with_reducible rfl⟩) (fun _ => by assumption) ?_
                  (try simp only [Act.put, List.getElem_toArray, List.getElem_cons_succ, List.getElem_cons_zero, List.setIfInBounds_toArray, List.set_cons_zero, List.set_cons_succ])
                  refine wpLate_take [5, 6, 7, 9, 10, 11, 12, 14] (i := 3) (oi := _) (v := _) rfl (by kernel_rfl) (by kernel_rfl) (by kernel_rfl) (by kernel_rfl) (by kernel_rfl) (fun _ _ _ h => h) (Or.inl ⟨by rfl, by intro w hSw; (try dsimp only at hSw); go_simp; all_goals with_reducible rfl⟩) (by assumption) ?_
                  (try simp only [Act.put, List.getElem_toArray, List.getElem_cons_succ, List.getElem_cons_zero, List.setIfInBounds_toArray, List.set_cons_zero, List.set_cons_succ])
                  refine wpLate_take0 (i := 4) (oi := _) (v := _) rfl (by kernel_rfl) (by kernel_rfl) (by kernel_rfl) (by kernel_rfl) (fun _ _ _ h => h) (Or.inl ⟨by rfl, by intro w _; go_simp; all_goals with_reducible rfl⟩) (fun _ => by assumption) ?_
                  (try simp only [Act.put, List.getElem_toArray, List.getElem_cons_succ, List.getElem_cons_zero, List.setIfInBounds_toArray, List.set_cons_zero, List.set_cons_succ])
                  refine wpLate_take0 (i := 5) (oi := _) (v := _) rfl (by kernel_rfl) (by kernel_rfl) (by kernel_rfl) (by kernel_rfl) (fun _ _ _ h => h) (Or.inl ⟨by rfl, by intro w _; go_simp; all_goals with_reducible rfl⟩) (fun _ => by assumption) ?_
                  (try simp only [Act.put, List.getElem_toArray, List.getElem_cons_succ, List.getElem_cons_zero, List.setIfInBounds_toArray, List.set_cons_zero, List.set_cons_succ])
                  refine wpLate_take0 (i := 6) (oi := _) (v := _) rfl (by kernel_rfl) (by kernel_rfl) (by kernel_rfl) (by kernel_rfl) (fun _ _ _ h => h) (Or.inl ⟨by rfl, by intro w _; go_simp; all_goals with_reducible rfl⟩) (fun _ => by assumption) ?_
                  (try simp only [Act.put, List.getElem_toArray, List.getElem_cons_succ, List.getElem_cons_zero, List.setIfInBounds_toArray, List.set_cons_zero, List.set_cons_succ])
                  refine wpLate_take [9, 10, 11, 12, 14] (i := 7) (oi := _) (v := _) rfl (by kernel_rfl) (by kernel_rfl) (by kernel_rfl) (by kernel_rfl) (by kernel_rfl) (fun _ _ _ h => h) (Or.inl ⟨by rfl, by intro w hSw; (try dsimp only at hSw); go_simp; all_goals with_reducible rfl⟩) (by assumption) ?_
                  (try simp only [Act.put, List.getElem_toArray, List.getElem_cons_succ, List.getElem_cons_zero, List.setIfInBounds_toArray, List.set_cons_zero, List.set_cons_succ])
                  refine wpLate_take0 (i := 8) (oi := _) (v := _) rfl (by kernel_rfl) (by kernel_rfl) (by kernel_rfl) (by kernel_rfl) (fun _ _ _ h => h) (Or.inl ⟨by rfl, by intro w _; go_simp; all_goals with_reducible rfl⟩) (fun _ => by assumption) ?_
                  (try simp only [Act.put, List.getElem_toArray, List.getElem_cons_succ, List.getElem_cons_zero, List.setIfInBounds_toArray, List.set_cons_zero, List.set_cons_succ])
                  refine wpLate_take0 (i := 9) (oi := _) (v := _) rfl (by kernel_rfl) (by kernel_rfl) (by kernel_rfl) (by kernel_rfl) (fun _ _ _ h => h) (Or.inl ⟨by rfl, by intro w _; go_simp; all_goals with_reducible rfl⟩) (fun _ => by assumption) ?_
                  (try simp only [Act.put, List.getElem_toArray, List.getElem_cons_succ, List.getElem_cons_zero, List.setIfInBounds_toArray, List.set_cons_zero, List.set_cons_succ])
                  refine wpLate_take [11, 12, 14] (i := 10) (oi := _) (v := _) rfl (by kernel_rfl) (by kernel_rfl) (by kernel_rfl) (by kernel_rfl) (by kernel_rfl) (fun _ _ _ h => h) (Or.inl ⟨by rfl, by intro w hSw; (try dsimp only at hSw); go_simp; all_goals with_reducible rfl⟩) (by assumption) ?_
                  (try simp only [Act.put, List.getElem_toArray, List.getElem_cons_succ, List.getElem_cons_zero, List.setIfInBounds_toArray, List.set_cons_zero, List.set_cons_succ])
                  refine wpLate_ready (rs := [11]) (by kernel_rfl) (by simp) ?_
                  refine (AllReadyL.cons (i := 11) rfl (fun K hK => ?_) AllReadyL.nil)
                  simp only [List.getElem_toArray, List.getElem_cons_succ, List.getElem_cons_zero]
                  go_simp
                  have hTe := (HS.out.no (Frm.refl No wr).drew).no ((Frm.refl No wr.drew).alloc (.cells #[.string ⟨sx.toArray⟩] 9))
                  have hBX := Box.new (Frm.refl No wr.drew) [.string ⟨sx.toArray⟩] 9
                  refine hK.out _ _ (SK.out _ ((Frm.refl No wr).drew.alloc _)) (fun hHeld => ?_)
                  clear hK K
                  (try simp only [Act.put, List.getElem_toArray, List.getElem_cons_succ, List.getElem_cons_zero, List.setIfInBounds_toArray, List.set_cons_zero, List.set_cons_succ])
                  refine wpLate_ready (rs := [12]) (by kernel_rfl) (by simp) ?_
                  refine (AllReadyL.late (i := 12) rfl (by kernel_rfl) (fun K hK => ?_) AllReadyL.nil)
                  refine step_append_own rfl (.tmp 86) (.tmp 96) 51 51 rfl w.heap.size 9 s0 _ 1 16 Tryz.underlying51 si sz0 sz1 sz2 rfl (.slice yo yl yc) yl (rows strV ys) (by simp [Act.eval]) (HMO.out _ hTe) (.slice (some ⟨wr.heap.size, 0, none⟩) 1 1) 1 (strV sx) (by simp [Act.eval]) (src_box Tryz.underlying51 (strS.len _) (strS.one _) hBX.cell) (by unfold maxLen; omega) (by omega) hTe.st.box.frm.size ?_
                  intro v4 w4 hown4 hf4 hv4
                  refine hK.out _ _ ?_
                  clear hK K
                  (try simp only [Act.put, List.getElem_toArray, List.getElem_cons_succ, List.getElem_cons_zero, List.setIfInBounds_toArray, List.set_cons_zero, List.set_cons_succ])
                  obtain ⟨ao4, cp4, rfl⟩ := ownsRow_shape hown4
                  have hB4 := hTe.fb.other hf4 (fun e => (hTe.xo _ e).2.2.2.2 rfl) (fun k hk => (hTe.so.lt k hk).1)
                  have cX := hB4.cell
                  have fX := hB4.fr
                  refine wpLate_ready (rs := [13]) (by kernel_rfl) (by simp) ?_
                  refine (AllReadyL.late (i := 13) rfl (by kernel_rfl) (fun K hK => ?_) AllReadyL.nil)
                  simp only [List.getElem_toArray, List.getElem_cons_succ, List.getElem_cons_zero]
                  go_simp
                  refine hK.out _ _ ?_
                  clear hK K
                  (try simp only [Act.put, List.getElem_toArray, List.getElem_cons_succ, List.getElem_cons_zero, List.setIfInBounds_toArray, List.set_cons_zero, List.set_cons_succ])
                  refine wpLate_ready (rs := [14]) (by kernel_rfl) (by simp) ?_
                  refine (AllReadyL.late (i := 14) rfl (by kernel_rfl) (fun K hK => ?_) AllReadyL.nil)
                  simp only [List.getElem_toArray, List.getElem_cons_succ, List.getElem_cons_zero]
                  go_simp
                  refine hK.out _ _ ?_
                  clear hK K
                  (try simp only [Act.put, List.getElem_toArray, List.getElem_cons_succ, List.getElem_cons_zero, List.setIfInBounds_toArray, List.set_cons_zero, List.set_cons_succ])
                  refine wpLate_done (by kernel_rfl) ?_ _
                  have hTz := hTe.addS (xs' := ys ++ [sx]) hf4 (by rw [List.length_append, HMX.out, ← rows_snoc]; exact hown4) hv4
                  have HTz := hid hTz
                  clear hTz cX fX hB4 hown4 hf4 hTe hBX hHeld SK HMO
                  generalize w4.setCell ⟨F, 2, none⟩ (.slice ao4 (yl + 1) cp4) = wy at *
                  go_wp2_with fail
                  exact ⟨⟨j + 1, _, _, by omega, by go_num, HTz.out, HNX.out, by rw [List.length_append, HMX.out]; simp; omega⟩, by simp only [intOf]; omega⟩
            · as_aux_lemma =>
              obtain rfl : j = sl := by omega
              have hjz : ¬ (j : Int) < (j : Int) := by omega
              have HYSF : Hid (ys = xs.filter (fun s => keeps n s)) := hid (by have := HYS.out; rw [← HSLE.out, List.take_length] at this; exact this)
              obtain ⟨yo, yc, rfl⟩ := ownsRow_shape hS.so
              have hco : wr.ownsRow w.heap.size 57 3 cv cs'.length (rows clsV cs') := hS.st.own.co
              obtain ⟨co, cc, rfl⟩ := ownsRow_shape hco
              obtain ⟨yl, hyl⟩ : ∃ yl, ys.length = yl := ⟨_, rfl⟩
              have HMX := hid hyl
              rw [HCSL.out] at hS hco
              rw [hyl] at hS
              have HCO := hid hco
              have HS := hid hS
              have k1 := hS.st.box.cell 1
              have f0 := hS.fb.cell 0
              have f1 := hS.fb.cell 1
              have f2 := hS.fb.cell 2
              simp only [List.getElem?_cons_zero, List.getElem?_cons_succ] at k1 f0 f1 f2
              have hsz := hfz.size
              have HNX : Hid ((cs' ++ [((⟨xn, xt, ys⟩ : Cls), (yo, yc))]).map (·.1) = (cs.take (k + 1)).map (fun x => cpc n x.1)) := hid (by rw [HTK.out, List.map_append, HCS.out, HYSF.out]; rfl)
              clear hS hco hfz HCS HTK HYS hyl SKW HSX hysl
              have hkl32 : k ≤ 32 := by omega
              go_wp2_with (at_builtin; refine wpList_push _ rfl (.tmp 100) (.tmp 102) 29 rfl w.heap.size 57 j0 _ 3 56 Tryz.underlying29 ji jz0 jz1 jz2 rfl (.slice co k cc) k (rows clsV cs') rfl HCO.out [.string ⟨xn.toArray⟩, .string ⟨xt.toArray⟩, .slice yo yl yc] rfl rfl (fun u hu => by simp only [List.mem_cons, List.not_mem_nil, or_false] at hu; rcases hu with rfl | rfl | rfl <;> rfl) (by omega) (by omega) hsz ?_; intro v4 w4 hown4 hf4 hv4 hz4; obtain ⟨ao4, cp4, rfl⟩ := ownsRow_shape hown4; have hB4 := HS.out.st.box.other hf4 (fun e => (HS.out.st.off _ (.inr (.inl e))).2.2 rfl) (fun k hk => (HS.out.st.own.co.lt k hk).1); have cX := hB4.cell; have fX := hB4.fr)
              have hTz := HS.out.st.addC ((⟨xn, xt, ys⟩ : Cls), (yo, yc)) (by have := HS.out.so; rw [← HMX.out] at this; exact this) (fun k' hk' => by rw [show sv ((⟨xn, xt, ys⟩ : Cls), (yo, yc)) = .slice yo yl yc by rw [← HMX.out]; rfl] at hk'; have := HS.out.xo k' hk'; exact ⟨this.1, this.2.1, this.2.2.1, this.2.2.2.1⟩) hf4 (by rw [List.length_append, HCSL.out, ← rows_snoc]; rw [show clsV ((⟨xn, xt, ys⟩ : Cls), (yo, yc)) = [.string ⟨xn.toArray⟩, .string ⟨xt.toArray⟩, .slice yo yl yc] by rw [← HMX.out]; rfl]; exact hown4) hv4
              exact ⟨⟨k + 1, _, _, by omega, by go_num, hTz, HNX.out, by rw [List.length_append, HCSL.out]; rfl⟩, by simp only [intOf]; omega⟩
        · as_aux_lemma =>
          obtain rfl : k = cl := by omega
          have hkz : ¬ (k : Int) < (k : Int) := by omega
          have HCSF : Hid (cs'.map (·.1) = cs.map (fun x => cpc n x.1)) := hid (by have := HCS.out; rw [← HCL.out, List.take_length] at this; exact this)
          obtain ⟨ao, cp, rfl⟩ := ownsRow_shape hT.own.mo
          obtain ⟨co, cc, rfl⟩ := ownsRow_shape hT.own.co
          have k0 := hT.box.cell 0
          have k1 := hT.box.cell 1
          have a0 := hT.res.cell
          have af := hT.res.fr
          dsimp only at k0 k1
          simp only [List.getElem?_cons_zero, List.getElem?_cons_succ] at k0 k1
          have HT := hid hT
          clear hT hf0 HC HCS
          dsimp only at HT
          obtain ⟨x1, hx1⟩ : ∃ x1, ms.length = x1 := ⟨_, rfl⟩
          obtain ⟨x2, hx2⟩ : ∃ x2, cs'.length = x2 := ⟨_, rfl⟩
          rw [hx1] at k0
          rw [hx2] at k1
          rw [hx1, hx2] at HT
          go_wp2_with fail
          have BX4 := (HT.out.res.set 0 (by simp) (.slice ao x1 cp)).set 1 (by simp) (.slice co x2 cc)
          have e0 := BX4.cell 0
          have e1 := BX4.cell 1
          simp only [List.set_cons_zero, List.set_cons_succ, List.getElem?_cons_zero, List.getElem?_cons_succ] at e0 e1
          have hFA : Frm (One (b + 1)) wr ((wr.setCell ⟨b + 1, 0, none⟩ (.slice ao x1 cp)).setCell ⟨b + 1, 1, none⟩ (.slice co x2 cc)) := (setCell_own _).then_ (setCell_own _)
          have hown := HT.out.own.keep hFA (fun k' hk e => (HT.out.off k' hk).1 e)
          refine bodyPost_ret (v := .agg #[.slice ao x1 cp, .slice co x2 cc]) (by simp [results, Tryz.results67, go_sem, e0, e1]) rfl ⟨_, _, cs', rfl, ?_, BX4.frm⟩
          rw [show cpy R n = ⟨ms, cs'.map (·.1)⟩ by rw [HMSF.out, HCSF.out, cpy_eq, ← HFS.out]; simp [List.map_map, Function.comp_def]]
          exact hown
end Go.Proofs.YtofcmghhmklmiaaGreat
