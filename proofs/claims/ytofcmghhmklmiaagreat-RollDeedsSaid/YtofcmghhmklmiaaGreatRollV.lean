/- right: is it a roll? Printed by a program (rollv.py). -/
import Derived.Test.YtofcmghhmklmiaaGreatRollD
import Derived.Test.YtofcmghhmklmiaaGreatRollTT
import Derived.BigQuiet
namespace Go.Proofs.YtofcmghhmklmiaaGreat
open Go.RowKit
open Roll
def MGood (m : Mem) : Prop := Cmd.gn m.name = true ∧ (m.role = 1 ∨ m.role = 2) ∧ 0 ≤ m.quota ∧ m.quota ≤ 65536
/-- What a class of a roll is. -/
structure CGood (R : Rl) (c : Cls) : Prop where
  gn : Cmd.gn c.name = true
  te : ∃ m, find Mem.name R.mems c.teacher = some m ∧ m.role = 2
  ss : Srt id c.students
  st : ∀ s ∈ c.students, ∃ m, find Mem.name R.mems s = some m ∧ m.role = 1
structure Right (R : Rl) : Prop where
  mg : ∀ m ∈ R.mems, MGood m
  ms : Srt Mem.name R.mems
  cs : Srt Cls.name R.clss
  cg : ∀ c ∈ R.clss, CGood R c
theorem Right.inv {R : Rl} (h : Right R) (h1 : R.mems.length ≤ 256) (h2 : R.clss.length ≤ 32) : Inv R := by
  refine ⟨h.ms, h.mg, h1, h.cs, h2, fun c hc => ?_⟩
  obtain ⟨g, ⟨m, hm, hr⟩, s, st⟩ := h.cg c hc
  refine ⟨g, ⟨m, (find_some hm).1, (find_some hm).2, hr⟩, s, fun x hx => ?_⟩
  obtain ⟨m, hm, hr⟩ := st x hx
  exact ⟨m, (find_some hm).1, (find_some hm).2, hr⟩
theorem Right.of {R : Rl} (h : Inv R) : Right R := by
  refine ⟨h.mg, h.ms, h.cs, fun c hc => ?_⟩
  obtain ⟨g, ⟨m, hm, he, hr⟩, s, st⟩ := h.cg c hc
  refine ⟨g, ⟨m, find_of h.ms hm he, hr⟩, s, fun x hx => ?_⟩
  obtain ⟨m, hm, he, hr⟩ := st x hx
  exact ⟨m, find_of h.ms hm he, hr⟩
theorem good_frm (n : B) (w : World) (hn : n.length ≤ 9223372036854775807) : Calls Tryz.prog 54 #[.string ⟨n.toArray⟩] w fun e w' => e = .returned (.bool (Cmd.gn n)) ∧ Frm No w w' :=
  (good_any n w hn).mono fun _ _ h => ⟨h.1, by rw [← h.2]; exact Frm.refl _ _⟩
theorem wrap_small (k : Nat) (h : k ≤ 100000) : wrap64 (k : Int) = (k : Int) := IntWalk.wrap64_in _ (by omega)
section
variable {α : Type} {key : α → B}
theorem srt_snoc {l : List α} {i : Nat} (h : Srt key (l.take i)) (hi : i < l.length) (hj : ∀ (j : Nat) (e : j + 1 = i), key (l[j]'(by omega)) < key l[i]) : Srt key (l.take (i + 1)) := by
  unfold Srt at *
  rw [List.pairwise_iff_getElem] at h ⊢
  intro a b ha hb hab
  simp only [List.length_take] at ha hb
  simp only [List.getElem_take]
  by_cases hbi : b < i
  · have := h a b (by simp; omega) (by simp; omega) hab
    simpa only [List.getElem_take] using this
  · obtain rfl : b = i := by omega
    obtain ⟨j, rfl⟩ : ∃ j, b = j + 1 := ⟨b - 1, by omega⟩
    by_cases haj : a = j
    · subst haj
      exact hj a rfl
    · have h1 := h a j (by simp; omega) (by simp; omega) (by omega)
      simp only [List.getElem_take] at h1
      exact ltt h1 (hj j rfl)
theorem srt_not {l : List α} {j : Nat} (hj : j + 1 < l.length) (h : ¬ key l[j] < key l[j + 1]) : ¬ Srt key l := fun hs => h (List.pairwise_iff_getElem.1 hs j (j + 1) (by omega) hj (by omega))
theorem le_of {a b : B} (h : ¬ a < b) : (Op.bytesLess b a || b == a) = true := by
  rw [less_eq]
  rcases ltri a b with h1 | h1 | h1
  · exact absurd h1 h
  · rw [h1]; simp
  · rw [decide_eq_true h1]; rfl
theorem gt_of {a b : B} (h : a < b) : (Op.bytesLess b a || b == a) = false := by
  rw [less_eq, decide_eq_false (lta h)]
  rw [Bool.false_or, beq_eq_false_iff_ne]
  intro e
  rw [e] at h
  exact ltn _ h
end
/-- What Member answers. -/
def MemP (o : Option Mem) (w : World) (e : Ending) (w' : World) : Prop := match o with
  | none => e = .returned (.tuple #[.agg #[.string ⟨([] : B).toArray⟩, .int .i64 0, .int .i64 0], .bool false]) ∧ Frm No w w'
  | some m => e = .returned (.tuple #[.agg #[.string ⟨m.name.toArray⟩, .int .i64 m.role, .int .i64 m.quota], .bool true]) ∧ Frm No w w'
theorem mem_is' {P : Program} {f : FuncId} {args : Array Value} {w : World} {o : Option Mem} (h : Calls P f args w fun e w' => e = .returned (.tuple #[mag (o.getD memZ), .bool o.isSome]) ∧ Frm No w w') : Calls P f args w (MemP o w) :=
  h.mono fun _ _ h => by cases o <;> exact h
/-- The first k members are good, and rise. -/
def MSt (R : Rl) (k : Nat) : Prop := (∀ m ∈ R.mems.take k, MGood m) ∧ Srt Mem.name (R.mems.take k)
theorem MSt.next {R : Rl} {k : Nat} (h : MSt R k) (hk : k < R.mems.length) (hg : MGood R.mems[k]) (hj : ∀ (j : Nat) (e : j + 1 = k), (R.mems[j]'(by omega)).name < R.mems[k].name) : MSt R (k + 1) := by
  refine ⟨fun m hm => ?_, srt_snoc h.2 hk hj⟩
  rw [List.take_succ_eq_append_getElem hk, List.mem_append, List.mem_singleton] at hm
  rcases hm with hm | rfl
  · exact h.1 m hm
  · exact hg
def CSt (R : Rl) (k : Nat) : Prop := (∀ c ∈ R.clss.take k, CGood R c) ∧ Srt Cls.name (R.clss.take k)
theorem CSt.next {R : Rl} {k : Nat} (h : CSt R k) (hk : k < R.clss.length) (hg : CGood R R.clss[k]) (hj : ∀ (j : Nat) (e : j + 1 = k), (R.clss[j]'(by omega)).name < R.clss[k].name) : CSt R (k + 1) := by
  refine ⟨fun m hm => ?_, srt_snoc h.2 hk hj⟩
  rw [List.take_succ_eq_append_getElem hk, List.mem_append, List.mem_singleton] at hm
  rcases hm with hm | rfl
  · exact h.1 m hm
  · exact hg
def SSt (R : Rl) (l : List B) (k : Nat) : Prop := (∀ s ∈ l.take k, ∃ m, find Mem.name R.mems s = some m ∧ m.role = 1) ∧ Srt id (l.take k)
theorem SSt.next {R : Rl} {l : List B} {k : Nat} (h : SSt R l k) (hk : k < l.length) (hg : ∃ m, find Mem.name R.mems l[k] = some m ∧ m.role = 1) (hj : ∀ (j : Nat) (e : j + 1 = k), (l[j]'(by omega)) < l[k]) : SSt R l (k + 1) := by
  refine ⟨fun m hm => ?_, srt_snoc h.2 hk hj⟩
  rw [List.take_succ_eq_append_getElem hk, List.mem_append, List.mem_singleton] at hm
  rcases hm with hm | rfl
  · exact h.1 m hm
  · exact hg
def RightP (R : Rl) (w : World) (e : Ending) (w' : World) : Prop := ∃ q : Bool, e = .returned (.bool q) ∧ (q = true ↔ Right R) ∧ Frm No w w'
theorem RightP.no {R : Rl} {w w' : World} (h : ¬ Right R) (hf : Frm No w w') : RightP R w (.returned (.bool false)) w' := ⟨false, rfl, ⟨fun e => (by cases e), fun e => absurd e h⟩, hf⟩
set_option maxRecDepth 100000 in
set_option maxHeartbeats 8000000 in
theorem right_any (R : Rl) (mv cv : Value) (w : World) (hr : RlR w mv cv R) (h1 : R.mems.length ≤ 1000) (h2 : R.clss.length ≤ 1000) (h3 : ∀ c ∈ R.clss, c.students.length ≤ 1000 ∧ c.name.length ≤ 65536) (h4 : ∀ m ∈ R.mems, m.name.length ≤ 65536) :
    Calls Tryz.prog 44 #[.agg #[mv, cv]] w (RightP R w) := by
  have HG := hid (fun w1 (n : B) (hn : n.length ≤ 65536) => good_frm n w1 (by omega))
  have HM := hid (fun w1 (hf : Frm No w w1) (hs : Srt Mem.name R.mems) n => rmember_any R mv cv n w1 (hr.no hf) hs (by omega))
  have HMR := hid (fun w1 (hf : Frm No w w1) => (hr.no hf).mr)
  obtain ⟨mao, mcp, rfl⟩ := hr.mr.shape
  obtain ⟨cs, hfs, hc, hst⟩ := hr.cr
  have hcl : cs.length = R.clss.length := by rw [← hfs]; simp
  have HC := hid (fun w1 (hf : Frm No w w1) => hc.frm (fun _ _ => rfl) hf (fun _ _ h => h))
  have HST := hid (fun w1 (hf : Frm No w w1) (x : CV) (hx : x ∈ cs) => (hst x hx).frm (fun _ _ => rfl) hf (fun _ _ h => h))
  obtain ⟨cao, ccp, rfl⟩ := hc.shape
  have HFS := hid hfs
  have H3 := hid h3
  have H4 := hid h4
  obtain ⟨ml, hml⟩ : ∃ ml, R.mems.length = ml := ⟨_, rfl⟩
  obtain ⟨cl, hcle⟩ : ∃ cl, cs.length = cl := ⟨_, rfl⟩
  have HML := hid hml
  have HCL := hid hcle
  have hcl2 : cl ≤ 1000 := by omega
  rw [hml] at h1 HM ⊢
  rw [hcle] at HM ⊢
  rw [hml] at HMR
  clear hr hc hst hfs hcl h2 h3 h4 hml hcle
  go_enter Tryz.func44, Tryz.ntmps44
  go_upto_region 1 with fail
  have X0 := Box.new (Frm.refl No w) [.slice mao ml mcp, .slice cao cl ccp] 27
  obtain ⟨W, hW⟩ : ∃ W, W = w.alloc (.cells #[.slice mao ml mcp, .slice cao cl ccp] 27) := ⟨_, rfl⟩
  rw [← hW] at X0 ⊢
  clear hW
  obtain ⟨b, hb⟩ : ∃ b, w.heap.size = b := ⟨_, rfl⟩
  rw [hb] at X0
  simp only [hb]
  have HX := hid X0
  have c0 := X0.cell
  clear X0
  go_wp2_with fail
  clear c0
  go_loopw [3, 4, 16] (fun _ _ iv wr => ∃ i : Nat, i ≤ ml ∧ iv = .int .i64 (i : Int) ∧ MSt R i ∧ Frm No W wr)
    (fun _ _ iv _ => ml - (intOf iv).toNat)
  case atStart => exact ⟨0, by omega, rfl, ⟨by simp, by simp [Srt]⟩, Frm.refl _ _⟩
  case round =>
    obtain ⟨i, hi, rfl, hms, hf⟩ := hrel
    have hX := HX.out.no hf
    have c0 := hX.cell 0
    have c1 := hX.cell 1
    have hf0 := hX.frm
    simp only [List.getElem?_cons_zero, List.getElem?_cons_succ] at c0 c1
    by_cases hil : i < ml
    · as_aux_lemma =>
      have hilz : (i : Int) < (ml : Int) := by omega
      have hi2 : i < R.mems.length := by rw [HML.out]; exact hil
      have hmr : RdL wr (.slice mao R.mems.length mcp) 3 memV R.mems := by rw [HML.out]; exact HMR.out wr hf0
      obtain ⟨g, o, rfl, hcc⟩ := hmr.at_ (by omega)
      have q0 := hcc i hi2 0 (by omega)
      have q1 := hcc i hi2 1 (by omega)
      have q2 := hcc i hi2 2 (by omega)
      have hmem := List.getElem_mem hi2
      have hnl := H4.out _ hmem
      have HPV : Hid (∀ (j : Nat) (e : j + 1 = i), wr.cell? ⟨g, o + j * 3, none⟩ = some (.string ⟨(R.mems[j]'(by omega)).name.toArray⟩)) := hid (fun j e => hcc j (by omega) 0 (by omega))
      have HMS := hid (fun hg hj => MSt.next hms hi2 hg hj)
      have HNG : Hid (¬ MGood R.mems[i] → ¬ Right R) := hid (fun h hr => h (hr.mg _ hmem))
      have HNS : Hid (∀ (j : Nat) (e : j + 1 = i), ¬ (R.mems[j]'(by omega)).name < R.mems[i].name → ¬ Right R) := hid (fun j e h hr => by subst e; exact srt_not hi2 h hr.ms)
      obtain ⟨m, hm⟩ : ∃ m, R.mems[i] = m := ⟨_, rfl⟩
      simp only [hm] at q0 q1 q2 hnl HMS HNG HNS
      obtain ⟨nm, ro, qu⟩ := m
      simp only [memV, List.getElem?_cons_zero, List.getElem?_cons_succ, ← Nat.add_assoc, Nat.add_zero] at q0 q1 q2
      dsimp only at hnl
      have HF := hid hf
      have HF0 := hid hf0
      have HGN := hid (fun w1 => HG.out w1 nm hnl)
      have BF := Box.new (Frm.refl No wr) [.string ⟨nm.toArray⟩, .int .i64 ro, .int .i64 qu] 45
      have BX := hX.no ((Frm.refl No wr).alloc (.cells #[.string ⟨nm.toArray⟩, .int .i64 ro, .int .i64 qu] 45))
      clear hms hf hf0 hcc hmem hm hnl hX hmr HG HM HMR HC HST HFS H3 H4 HX
      go_upto_region 4 with fail
      obtain ⟨WF, hWF⟩ : ∃ WF, WF = wr.alloc (.cells #[.string ⟨nm.toArray⟩, .int .i64 ro, .int .i64 qu] 45) := ⟨_, rfl⟩
      have hWF2 : WF = wr.alloc (.cells [.string ⟨nm.toArray⟩, .int .i64 ro, .int .i64 qu].toArray 45) := hWF
      rw [← hWF] at BX ⊢
      rw [← hWF2] at BF
      clear hWF hWF2
      obtain ⟨F, hF⟩ : ∃ F, wr.heap.size = F := ⟨_, rfl⟩
      have hgF : g < F := by rw [← hF]; exact World.block_lt_of_cell? (u := .string ⟨nm.toArray⟩) wr ⟨g, o + i * 3, none⟩ q0
      rw [hF] at BF
      (try simp only [hF])
      have HBF := hid BF.frm
      have e0 := BF.cell 0
      have e1 := BF.cell 1
      have e2 := BF.cell 2
      have e3 := BX.cell 0
      simp only [List.getElem?_cons_zero, List.getElem?_cons_succ] at e0 e1 e2 e3
      have f0 := Wd.cell e0
      have f1 := Wd.cell e1
      have f2 := Wd.cell e2
      have f3 := Wd.cell e3
      clear e0 e1 e2 e3
      have HWF := hid (HF.out.thenNo HBF.out)
      have HWF0 := hid (HF0.out.thenNo HBF.out)
      clear q0 q1 q2 c0 c1 BF BX
      cases hgn : Cmd.gn nm
      · as_aux_lemma =>
        have HNO : Hid (¬ Right R) := hid (HNG.out (fun h => by have := h.1; rw [hgn] at this; cases this))
        rw [hgn] at HGN
        clear HNG HNS HMS HPV HF HF0 hgn
        refine wp_region_frm (by kernel_rfl) (by kernel_rfl) ?_
        repeat (go_big_quiet_step (exact Calls.wd (HGN.out _)))
        refine wpQuiet_nil ?_
        intro w9 hf9
        clear f0 f1 f2 f3
        go_wp2_with fail
        go_ret
        exact RightP.no HNO.out (HWF0.out.thenNo hf9)
      by_cases hro : ro = 1 ∨ ro = 2
      case neg =>
        as_aux_lemma =>
        have HNO : Hid (¬ Right R) := hid (HNG.out (fun h => hro h.2.1))
        rw [hgn] at HGN
        have hr1 : (ro == 1) = false := beq_eq_false_iff_ne.2 (fun e => hro (.inl e))
        have hr2 : (ro == 2) = false := beq_eq_false_iff_ne.2 (fun e => hro (.inr e))
        have hr3 : (ro != 1) = true := bne_iff_ne.2 (fun e => hro (.inl e))
        have hr4 : (ro != 2) = true := bne_iff_ne.2 (fun e => hro (.inr e))
        clear HNG HNS HMS HPV HF HF0 hgn
        refine wp_region_frm (by kernel_rfl) (by kernel_rfl) ?_
        repeat (go_big_quiet_step (exact Calls.wd (HGN.out _)))
        refine wpQuiet_nil ?_
        intro w9 hf9
        clear f0 f1 f2 f3
        go_wp2_with fail
        go_ret
        exact RightP.no HNO.out (HWF0.out.thenNo hf9)
      rw [hgn] at HGN
      rcases hro with rfl | rfl
      · by_cases hq0 : qu < 0
        · as_aux_lemma =>
          have HNO : Hid (¬ Right R) := hid (HNG.out (fun h => by have := h.2.2.1; dsimp only at this; omega))
          clear HNG HNS HMS HPV HF HF0 hgn
          refine wp_region_frm (by kernel_rfl) (by kernel_rfl) ?_
          repeat (go_big_quiet_step (exact Calls.wd (HGN.out _)))
          refine wpQuiet_nil ?_
          intro w9 hf9
          clear f0 f1 f2 f3
          go_wp2_with fail
          go_ret
          exact RightP.no HNO.out (HWF0.out.thenNo hf9)
        by_cases hq1 : 65536 < qu
        · as_aux_lemma =>
          have HNO : Hid (¬ Right R) := hid (HNG.out (fun h => by have := h.2.2.2; dsimp only at this; omega))
          clear HNG HNS HMS HPV HF HF0 hgn
          refine wp_region_frm (by kernel_rfl) (by kernel_rfl) ?_
          repeat (go_big_quiet_step (exact Calls.wd (HGN.out _)))
          refine wpQuiet_nil ?_
          intro w9 hf9
          clear f0 f1 f2 f3
          go_wp2_with fail
          go_ret
          exact RightP.no HNO.out (HWF0.out.thenNo hf9)
        have hgood : MGood ⟨nm, 1, qu⟩ := ⟨hgn, .inl rfl, by dsimp only; omega, by dsimp only; omega⟩
        rcases Nat.eq_zero_or_pos i with hi0 | hi0
        · as_aux_lemma =>
          subst hi0
          have HNX := hid (HMS.out hgood (fun j e => by omega))
          clear hgood
          clear HNG HNS HMS HPV HF HF0 hgn
          refine wp_region_frm (by kernel_rfl) (by kernel_rfl) ?_
          repeat (go_big_quiet_step (exact Calls.wd (HGN.out _)))
          refine wpQuiet_nil ?_
          intro w9 hf9
          clear f0 f1 f2 f3
          go_wp2_with fail
          exact ⟨⟨0 + 1, by omega, by go_num, HNX.out, HWF.out.thenNo hf9⟩, by simp only [intOf]; omega⟩
        · obtain ⟨j, rfl⟩ : ∃ j, i = j + 1 := ⟨i - 1, by omega⟩
          have hpv := HPV.out j rfl
          have HNS2 := hid (HNS.out j rfl)
          have HMS2 := hid (HMS.out hgood)
          clear hgood
          obtain ⟨pn, hpn⟩ : ∃ pn, (R.mems[j]'(by omega)).name = pn := ⟨_, rfl⟩
          rw [hpn] at hpv HNS2
          have f4 := Wd.cell ((HBF.out.cell (p := ⟨g, o + j * 3, none⟩) (by show g < wr.heap.size; omega) (fun h => h)).trans hpv)
          clear hpv
          have hk1 : ((j + 1 : Nat) : Int) - 1 = (j : Int) := by omega
          have hk2 : (0 : Int) < ((j + 1 : Nat) : Int) := by omega
          have hk3 : (j : Int) < (ml : Int) := by omega
          have hk4 : (j : Int) + 1 < (ml : Int) := by omega
          have hk6 : j ≤ 1000 := by omega
          by_cases hlt : pn < nm
          · as_aux_lemma =>
            have HNX := hid (HMS2.out (fun j' e => by
              have e' : j' = j := by omega
              subst e'
              rw [hpn]
              exact hlt))
            have hle : (Op.bytesLess nm pn || nm == pn) = false := gt_of hlt
            clear hpn
            clear HNG HNS HMS HPV HF HF0 hgn HNS2 HMS2
            refine wp_region_frm (by kernel_rfl) (by kernel_rfl) ?_
            repeat (go_big_quiet_step (exact Calls.wd (HGN.out _)))
            refine wpQuiet_nil ?_
            intro w9 hf9
            clear f0 f1 f2 f3 f4
            go_wp2_with fail
            exact ⟨⟨j + 1 + 1, by omega, by go_num, HNX.out, HWF.out.thenNo hf9⟩, by simp only [intOf]; omega⟩
          · as_aux_lemma =>
            have HNO := hid (HNS2.out hlt)
            have hle : (Op.bytesLess nm pn || nm == pn) = true := le_of hlt
            clear hpn
            clear HNG HNS HMS HPV HF HF0 hgn HNS2 HMS2
            refine wp_region_frm (by kernel_rfl) (by kernel_rfl) ?_
            repeat (go_big_quiet_step (exact Calls.wd (HGN.out _)))
            refine wpQuiet_nil ?_
            intro w9 hf9
            clear f0 f1 f2 f3 f4
            go_wp2_with fail
            go_ret
            exact RightP.no HNO.out (HWF0.out.thenNo hf9)
      · by_cases hq0 : qu < 0
        · as_aux_lemma =>
          have HNO : Hid (¬ Right R) := hid (HNG.out (fun h => by have := h.2.2.1; dsimp only at this; omega))
          clear HNG HNS HMS HPV HF HF0 hgn
          refine wp_region_frm (by kernel_rfl) (by kernel_rfl) ?_
          repeat (go_big_quiet_step (exact Calls.wd (HGN.out _)))
          refine wpQuiet_nil ?_
          intro w9 hf9
          clear f0 f1 f2 f3
          go_wp2_with fail
          go_ret
          exact RightP.no HNO.out (HWF0.out.thenNo hf9)
        by_cases hq1 : 65536 < qu
        · as_aux_lemma =>
          have HNO : Hid (¬ Right R) := hid (HNG.out (fun h => by have := h.2.2.2; dsimp only at this; omega))
          clear HNG HNS HMS HPV HF HF0 hgn
          refine wp_region_frm (by kernel_rfl) (by kernel_rfl) ?_
          repeat (go_big_quiet_step (exact Calls.wd (HGN.out _)))
          refine wpQuiet_nil ?_
          intro w9 hf9
          clear f0 f1 f2 f3
          go_wp2_with fail
          go_ret
          exact RightP.no HNO.out (HWF0.out.thenNo hf9)
        have hgood : MGood ⟨nm, 2, qu⟩ := ⟨hgn, .inr rfl, by dsimp only; omega, by dsimp only; omega⟩
        rcases Nat.eq_zero_or_pos i with hi0 | hi0
        · as_aux_lemma =>
          subst hi0
          have HNX := hid (HMS.out hgood (fun j e => by omega))
          clear hgood
          clear HNG HNS HMS HPV HF HF0 hgn
          refine wp_region_frm (by kernel_rfl) (by kernel_rfl) ?_
          repeat (go_big_quiet_step (exact Calls.wd (HGN.out _)))
          refine wpQuiet_nil ?_
          intro w9 hf9
          clear f0 f1 f2 f3
          go_wp2_with fail
          exact ⟨⟨0 + 1, by omega, by go_num, HNX.out, HWF.out.thenNo hf9⟩, by simp only [intOf]; omega⟩
        · obtain ⟨j, rfl⟩ : ∃ j, i = j + 1 := ⟨i - 1, by omega⟩
          have hpv := HPV.out j rfl
          have HNS2 := hid (HNS.out j rfl)
          have HMS2 := hid (HMS.out hgood)
          clear hgood
          obtain ⟨pn, hpn⟩ : ∃ pn, (R.mems[j]'(by omega)).name = pn := ⟨_, rfl⟩
          rw [hpn] at hpv HNS2
          have f4 := Wd.cell ((HBF.out.cell (p := ⟨g, o + j * 3, none⟩) (by show g < wr.heap.size; omega) (fun h => h)).trans hpv)
          clear hpv
          have hk1 : ((j + 1 : Nat) : Int) - 1 = (j : Int) := by omega
          have hk2 : (0 : Int) < ((j + 1 : Nat) : Int) := by omega
          have hk3 : (j : Int) < (ml : Int) := by omega
          have hk4 : (j : Int) + 1 < (ml : Int) := by omega
          have hk6 : j ≤ 1000 := by omega
          by_cases hlt : pn < nm
          · as_aux_lemma =>
            have HNX := hid (HMS2.out (fun j' e => by
              have e' : j' = j := by omega
              subst e'
              rw [hpn]
              exact hlt))
            have hle : (Op.bytesLess nm pn || nm == pn) = false := gt_of hlt
            clear hpn
            clear HNG HNS HMS HPV HF HF0 hgn HNS2 HMS2
            refine wp_region_frm (by kernel_rfl) (by kernel_rfl) ?_
            repeat (go_big_quiet_step (exact Calls.wd (HGN.out _)))
            refine wpQuiet_nil ?_
            intro w9 hf9
            clear f0 f1 f2 f3 f4
            go_wp2_with fail
            exact ⟨⟨j + 1 + 1, by omega, by go_num, HNX.out, HWF.out.thenNo hf9⟩, by simp only [intOf]; omega⟩
          · as_aux_lemma =>
            have HNO := hid (HNS2.out hlt)
            have hle : (Op.bytesLess nm pn || nm == pn) = true := le_of hlt
            clear hpn
            clear HNG HNS HMS HPV HF HF0 hgn HNS2 HMS2
            refine wp_region_frm (by kernel_rfl) (by kernel_rfl) ?_
            repeat (go_big_quiet_step (exact Calls.wd (HGN.out _)))
            refine wpQuiet_nil ?_
            intro w9 hf9
            clear f0 f1 f2 f3 f4
            go_wp2_with fail
            go_ret
            exact RightP.no HNO.out (HWF0.out.thenNo hf9)
    · as_aux_lemma =>
      obtain rfl : i = ml := by omega
      have hiz : ¬ (i : Int) < (i : Int) := by omega
      have hmsr : Srt Mem.name R.mems := by have := hms.2; rw [← HML.out, List.take_length] at this; exact this
      have hmg : ∀ m ∈ R.mems, MGood m := by have := hms.1; rw [← HML.out, List.take_length] at this; exact this
      have HMT := hid (fun w1 (hf : Frm No w w1) n => mem_is' (HM.out w1 hf hmsr n))
      have HMSR := hid hmsr
      have HMG := hid hmg
      have HF1 := hid hf0
      obtain ⟨WL, hWL⟩ : ∃ WL, wr = WL := ⟨_, rfl⟩
      rw [hWL] at HF1 hX c0 c1 ⊢
      have HX2 := hid hX
      have hF2 := HF1.out
      clear hms hmsr hmg HM HMR H4 hf hf0 hX HX hWL
      go_wp2_with fail
      clear c0 c1 hF2
      go_loopw [5, 6, 7, 8, 9, 10, 11, 12, 65, 109] (fun _ _ _ _ _ _ _ _ iv _ wr => ∃ k : Nat, k ≤ cl ∧ iv = .int .i64 (k : Int) ∧ CSt R k ∧ Frm No WL wr)
        (fun _ _ _ _ _ _ _ _ iv _ _ => cl - (intOf iv).toNat)
      case atStart => exact ⟨0, by omega, rfl, ⟨by simp, by simp [Srt]⟩, Frm.refl _ _⟩
      case round =>
        obtain ⟨k, hk, rfl, hcs, hf⟩ := hrel
        have hX := HX2.out.no hf
        have c0 := hX.cell 0
        have c1 := hX.cell 1
        have hf0 := hX.frm
        simp only [List.getElem?_cons_zero, List.getElem?_cons_succ] at c0 c1
        by_cases hkl : k < cl
        · as_aux_lemma =>
          have hkz : (k : Int) < (cl : Int) := by omega
          have hk2 : k < cs.length := by rw [HCL.out]; exact hkl
          have hk3 : k < R.clss.length := by rw [← HFS.out, List.length_map]; exact hk2
          have hcr : RdL wr (.slice cao cs.length ccp) 3 clsV cs := HC.out wr hf0
          obtain ⟨g, o, rfl, hcc⟩ := hcr.at_ (by omega)
          have q0 := hcc k hk2 0 (by omega)
          have q1 := hcc k hk2 1 (by omega)
          have q2 := hcc k hk2 2 (by omega)
          have hst := HST.out wr hf0 _ (List.getElem_mem hk2)
          have hfs : ∀ (j : Nat) (hj : j < cs.length), (cs[j]).1 = R.clss[j]'(by rw [← HFS.out, List.length_map]; exact hj) := fun j hj => by
            have := HFS.out
            simp only [← this, List.getElem_map]
          have HPV : Hid (∀ (j : Nat) (e : j + 1 = k), wr.cell? ⟨g, o + j * 3, none⟩ = some (.string ⟨(R.clss[j]'(by omega)).name.toArray⟩)) := hid (fun j e => by
            have h0 := hcc j (by omega) 0 (by omega)
            have h1 := hfs j (by omega)
            rw [← h1]
            exact h0)
          have hmem := List.getElem_mem hk3
          have h3 := H3.out _ hmem
          have HMS := hid (fun hg hj => CSt.next hcs hk3 hg hj)
          have HNG : Hid (¬ CGood R R.clss[k] → ¬ Right R) := hid (fun h hr => h (hr.cg _ hmem))
          have HNS : Hid (∀ (j : Nat) (e : j + 1 = k), ¬ (R.clss[j]'(by omega)).name < R.clss[k].name → ¬ Right R) := hid (fun j e h hr => by subst e; exact srt_not hk3 h hr.cs)
          have hfk := hfs k hk2
          rw [← hfk] at HMS HNG h3
          have HNS2 : Hid (∀ (j : Nat) (e : j + 1 = k), ¬ (R.clss[j]'(by omega)).name < (cs[k]).1.name → ¬ Right R) := hid (fun j e => by rw [hfk]; exact HNS.out j e)
          have HMS2 : Hid (CGood R (cs[k]).1 → (∀ (j : Nat) (e : j + 1 = k), (R.clss[j]'(by omega)).name < (cs[k]).1.name) → CSt R (k + 1)) := hid (fun a b => HMS.out a b)
          obtain ⟨x, hx⟩ : ∃ x, cs[k] = x := ⟨_, rfl⟩
          simp only [hx] at q0 q1 q2 hst h3 HNG HNS2 HMS2
          obtain ⟨⟨xn, xt, xs⟩, xo, xc⟩ := x
          simp only [clsV, sv, List.getElem?_cons_zero, List.getElem?_cons_succ, ← Nat.add_assoc, Nat.add_zero] at q0 q1 q2 hst
          dsimp only at h3
          obtain ⟨hxl, hnl⟩ := h3
          have HF := hid hf
          have HF0 := hid hf0
          have HGN := hid (fun w1 => HG.out w1 xn hnl)
          have HS := hid (fun w1 (hf1 : Frm No wr w1) => hst.frm (fun _ _ => rfl) hf1 (fun _ _ h => h))
          have hgl : g < wr.heap.size := World.block_lt_of_cell? (u := .string ⟨xn.toArray⟩) wr ⟨g, o + k * 3, none⟩ q0
          have BG := Box.new (Frm.refl No wr) [.string ⟨xn.toArray⟩, .string ⟨xt.toArray⟩, .slice xo xs.length xc] 53
          have BX := hX.no ((Frm.refl No wr).alloc (.cells #[.string ⟨xn.toArray⟩, .string ⟨xt.toArray⟩, .slice xo xs.length xc] 53))
          clear hcs hf hf0 hcc hmem hx hX hcr HG HC HST HFS H3 HX2 hst hfs hfk HNS HMS
          go_upto_region 10 with fail
          obtain ⟨WG, hWG⟩ : ∃ WG, WG = wr.alloc (.cells #[.string ⟨xn.toArray⟩, .string ⟨xt.toArray⟩, .slice xo xs.length xc] 53) := ⟨_, rfl⟩
          have hWG2 : WG = wr.alloc (.cells [.string ⟨xn.toArray⟩, .string ⟨xt.toArray⟩, .slice xo xs.length xc].toArray 53) := hWG
          rw [← hWG] at BX ⊢
          rw [← hWG2] at BG
          clear hWG hWG2
          obtain ⟨G, hG⟩ : ∃ G, wr.heap.size = G := ⟨_, rfl⟩
          have hgG : g < G := by omega
          rw [hG] at BG
          (try simp only [hG])
          have HBG := hid BG
          have HBX := hid BX
          have dG := BG.cell
          have dX := BX.cell
          clear q0 q1 q2 c0 c1 BG BX
          have HTM := hid (fun w1 (hf1 : Frm No WG w1) => HMT.out w1 ((HF0.out.thenNo HBG.out.frm).thenNo hf1) xt)
          cases hfd : find Mem.name R.mems xt
          case none =>
            as_aux_lemma =>
            have HNO : Hid (¬ Right R) := hid (HNG.out (fun h => by obtain ⟨m, hm, -⟩ := h.te; dsimp only at hm; rw [hfd] at hm; cases hm))
            rw [hfd] at HTM
            go_upto_region 11 with (go_at_call 12; refine (HTM.out _ (Frm.refl No WG)).mono ?_; rintro e w1 ⟨rfl, hf1⟩)
            obtain ⟨WT, hWT⟩ : ∃ WT, WT = w1.alloc (.cells #[.string ⟨([] : B).toArray⟩, .int .i64 0, .int .i64 0] 45) := ⟨_, rfl⟩
            have BT := Box.new hf1 [.string ⟨([] : B).toArray⟩, .int .i64 0, .int .i64 0] 45
            have hWT2 : WT = w1.alloc (.cells ([.string ⟨([] : B).toArray⟩, .int .i64 0, .int .i64 0] : List Value).toArray 45) := hWT
            rw [← hWT] at ⊢
            rw [← hWT2] at BT
            clear hWT hWT2
            have e0 := (HBG.out.no BT.frm).cell 0
            have e1 := (HBG.out.no BT.frm).cell 2
            have e2 := (HBX.out.no BT.frm).cell 1
            have e3 := BT.cell 1
            simp only [List.getElem?_cons_zero, List.getElem?_cons_succ] at e0 e1 e2 e3
            have f0 := Wd.cell e0
            have f1 := Wd.cell e1
            have f2 := Wd.cell e2
            have f3 := Wd.cell e3
            have hwg : wr.heap.size ≤ WG.heap.size := HBG.out.frm.size
            have HWT := hid ((HF.out.thenNo HBG.out.frm).thenNo BT.frm)
            have HWT0 := hid ((HF0.out.thenNo HBG.out.frm).thenNo BT.frm)
            have HGT := hid (HBG.out.frm.thenNo BT.frm)
            obtain ⟨T, hT⟩ : ∃ T, w1.heap.size = T := ⟨_, rfl⟩
            rw [hT] at BT f3
            (try simp only [hT])
            have HBT := hid BT
            clear e0 e1 e2 e3 dG dX BT hT hf1
            cases hgn : Cmd.gn xn
            · rw [hgn] at HGN
              clear HNG HNS2 HMS2 HPV HMT HMG HMSR HS HTM
              refine wp_region_frm (by kernel_rfl) (by kernel_rfl) ?_
              repeat (go_big_quiet_step (exact Calls.wd (HGN.out _)))
              refine wpQuiet_nil ?_
              intro w9 hf9
              clear f0 f1 f2 f3
              go_wp2_with fail
              go_ret
              exact RightP.no HNO.out (HWT0.out.thenNo hf9)
            · rw [hgn] at HGN
              clear HNG HNS2 HMS2 HPV HMT HMG HMSR HS HTM
              refine wp_region_frm (by kernel_rfl) (by kernel_rfl) ?_
              repeat (go_big_quiet_step (exact Calls.wd (HGN.out _)))
              refine wpQuiet_nil ?_
              intro w9 hf9
              clear f0 f1 f2 f3
              go_wp2_with fail
              go_ret
              exact RightP.no HNO.out (HWT0.out.thenNo hf9)
          case some m =>
            rw [hfd] at HTM
            obtain ⟨tn, tr, tq⟩ := m
            go_upto_region 11 with (go_at_call 12; refine (HTM.out _ (Frm.refl No WG)).mono ?_; rintro e w1 ⟨rfl, hf1⟩)
            obtain ⟨WT, hWT⟩ : ∃ WT, WT = w1.alloc (.cells #[.string ⟨tn.toArray⟩, .int .i64 tr, .int .i64 tq] 45) := ⟨_, rfl⟩
            have BT := Box.new hf1 [.string ⟨tn.toArray⟩, .int .i64 tr, .int .i64 tq] 45
            have hWT2 : WT = w1.alloc (.cells ([.string ⟨tn.toArray⟩, .int .i64 tr, .int .i64 tq] : List Value).toArray 45) := hWT
            rw [← hWT] at ⊢
            rw [← hWT2] at BT
            clear hWT hWT2
            have e0 := (HBG.out.no BT.frm).cell 0
            have e1 := (HBG.out.no BT.frm).cell 2
            have e2 := (HBX.out.no BT.frm).cell 1
            have e3 := BT.cell 1
            simp only [List.getElem?_cons_zero, List.getElem?_cons_succ] at e0 e1 e2 e3
            have f0 := Wd.cell e0
            have f1 := Wd.cell e1
            have f2 := Wd.cell e2
            have f3 := Wd.cell e3
            have hwg : wr.heap.size ≤ WG.heap.size := HBG.out.frm.size
            have HWT := hid ((HF.out.thenNo HBG.out.frm).thenNo BT.frm)
            have HWT0 := hid ((HF0.out.thenNo HBG.out.frm).thenNo BT.frm)
            have HGT := hid (HBG.out.frm.thenNo BT.frm)
            obtain ⟨T, hT⟩ : ∃ T, w1.heap.size = T := ⟨_, rfl⟩
            rw [hT] at BT f3
            (try simp only [hT])
            have HBT := hid BT
            clear e0 e1 e2 e3 dG dX BT hT hf1
            cases hgn : Cmd.gn xn
            · as_aux_lemma =>
              have HNO : Hid (¬ Right R) := hid (HNG.out (fun h => by have := h.gn; dsimp only at this; rw [hgn] at this; cases this))
              rw [hgn] at HGN
              clear HNG HNS2 HMS2 HPV HMT HMG HMSR HS HTM
              refine wp_region_frm (by kernel_rfl) (by kernel_rfl) ?_
              repeat (go_big_quiet_step (exact Calls.wd (HGN.out _)))
              refine wpQuiet_nil ?_
              intro w9 hf9
              clear f0 f1 f2 f3
              go_wp2_with fail
              go_ret
              exact RightP.no HNO.out (HWT0.out.thenNo hf9)
            rw [hgn] at HGN
            by_cases htr : tr = 2
            case neg =>
              as_aux_lemma =>
              have HNO : Hid (¬ Right R) := hid (HNG.out (fun h => by
                obtain ⟨m, hm, h2⟩ := h.te
                dsimp only at hm
                rw [hfd] at hm
                cases hm
                exact htr h2))
              have hr2 : (tr == 2) = false := beq_eq_false_iff_ne.2 htr
              have hr4 : (tr != 2) = true := bne_iff_ne.2 htr
              clear HNG HNS2 HMS2 HPV HMT HMG HMSR HS HTM
              refine wp_region_frm (by kernel_rfl) (by kernel_rfl) ?_
              repeat (go_big_quiet_step (exact Calls.wd (HGN.out _)))
              refine wpQuiet_nil ?_
              intro w9 hf9
              clear f0 f1 f2 f3
              go_wp2_with fail
              go_ret
              exact RightP.no HNO.out (HWT0.out.thenNo hf9)
            subst htr
            have HCG : Hid (Srt id xs → (∀ s ∈ xs, ∃ m, find Mem.name R.mems s = some m ∧ m.role = 1) → CGood R ⟨xn, xt, xs⟩) := hid (fun a b => ⟨hgn, ⟨_, hfd, rfl⟩, a, b⟩)
            have HNSr : Hid (¬ Srt id xs → ¬ Right R) := hid (fun h => HNG.out (fun hc => h hc.ss))
            have HNSt : Hid (∀ s ∈ xs, ¬ (∃ m, find Mem.name R.mems s = some m ∧ m.role = 1) → ¬ Right R) := hid (fun s hs h => HNG.out (fun hc => h (hc.st s hs)))
            rcases Nat.eq_zero_or_pos k with hi0 | hi0
            · as_aux_lemma =>
              have hkp : ¬ (0 : Int) < (k : Int) := by omega
              have hkp2 : ¬ 0 < k := by omega
              have hkp3 : decide (0 < k) = false := decide_eq_false hkp2
              have HNX := hid (fun hg => HMS2.out hg (fun j e => by omega))
              clear HNG HNS2 HMS2 HPV HMG HTM hi0
              refine wp_region_frm (by kernel_rfl) (by kernel_rfl) ?_
              repeat (go_big_quiet_step (exact Calls.wd (HGN.out _)))
              refine wpQuiet_nil ?_
              intro w9 hf9
              clear f0 f1 f2 f3
              have HBT2 := hid (HBT.out.no hf9)
              have HBG2 := hid (HBG.out.no (HBT.out.frm.thenNo hf9))
              have HBX2 := hid (HBX.out.no (HBT.out.frm.thenNo hf9))
              have HW9 := hid (HWT.out.thenNo hf9)
              have HW90 := hid (HWT0.out.thenNo hf9)
              have HG9 := hid (HGT.out.thenNo hf9)
              have m0 := HBG2.out.cell
              have m1 := HBX2.out.cell
              obtain ⟨sl, hsl⟩ : ∃ sl, xs.length = sl := ⟨_, rfl⟩
              have HSL := hid hsl
              rw [hsl] at hxl
              rw [hsl] at m0 HBG2
              clear hsl hf9 HBT HWT HWT0 HGT HBG HBX
              go_wp2_with fail
              clear m0 m1
              go_loopw [9, 10, 11, 12, 109] (fun _ _ _ _ kv wr => ∃ k : Nat, k ≤ sl ∧ kv = .int .i64 (k : Int) ∧ SSt R xs k ∧ Frm No w9 wr)
                (fun _ _ _ _ kv _ => sl - (intOf kv).toNat)
              case atStart => exact ⟨0, by omega, rfl, ⟨by simp, by simp [Srt]⟩, Frm.refl _ _⟩
              case round =>
                obtain ⟨n, hn, rfl, hss, hf⟩ := hrel
                have hG := HBG2.out.no hf
                have hX := HBX2.out.no hf
                by_cases hnl2 : n < sl
                · as_aux_lemma =>
                  have hnz : (n : Int) < (sl : Int) := by omega
                  have hn2 : n < xs.length := by rw [HSL.out]; exact hnl2
                  have hs3 : RdL wr (.slice xo xs.length xc) 1 strV xs := HS.out wr (HG9.out.thenNo hf)
                  obtain ⟨g2, o2, rfl, hsc⟩ := hs3.at_ (by omega)
                  have hsk := hsc n hn2 0 (by omega)
                  simp only [strV, List.getElem?_cons_zero, Nat.mul_one, Nat.add_zero] at hsk
                  have hg2 : g2 < wr.heap.size := World.block_lt_of_cell? wr _ hsk
                  have HMS3 := hid (fun hg hj => SSt.next hss hn2 hg hj)
                  have hmem := List.getElem_mem hn2
                  have HN1 := hid (HNSt.out _ hmem)
                  have HN2 : Hid (∀ (j : Nat) (e : j + 1 = n), ¬ (xs[j]'(by omega)) < xs[n] → ¬ Right R) := hid (fun j e h => by subst e; exact HNSr.out (srt_not (key := id) hn2 h))
                  have HPV : Hid (∀ (j : Nat) (e : j + 1 = n), wr.cell? ⟨g2, o2 + j, none⟩ = some (.string ⟨(xs[j]'(by omega)).toArray⟩)) := hid (fun j e => by have := hsc j (by omega) 0 (by omega); simpa only [strV, List.getElem?_cons_zero, Nat.mul_one, Nat.add_zero] using this)
                  obtain ⟨s, hs⟩ : ∃ s, xs[n] = s := ⟨_, rfl⟩
                  simp only [hs] at hsk HMS3 HN1 HN2
                  have hx0 := hX.cell 0
                  have hx1 := hX.cell 1
                  simp only [List.getElem?_cons_zero, List.getElem?_cons_succ] at hx0 hx1
                  have HGn := hid hG
                  have HF := hid hf
                  have HTS := hid (fun w1 (hf1 : Frm No wr w1) => HMT.out w1 (HW90.out.thenNo (hf.thenNo hf1)) s)
                  clear hss hf hG hX hsc hs3 hmem HNX HCG HNSr HNSt HMT HMSR HS HBG2 HBX2 HBT2 HG9
                  cases hfd2 : find Mem.name R.mems s
                  case none =>
                    as_aux_lemma =>
                    have HNO : Hid (¬ Right R) := hid (HN1.out (fun ⟨m, hm, _⟩ => by rw [hfd2] at hm; cases hm))
                    rw [hfd2] at HTS
                    clear HMS3 HN1 HN2 HPV
                    go_wp2_with (go_at_call 12; refine (HTS.out _ (Frm.refl No wr)).mono ?_; rintro e w1 ⟨rfl, hf1⟩)
                    go_ret
                    exact RightP.no HNO.out (HW90.out.thenNo (HF.out.thenNo (hf1.alloc _)))
                  case some m =>
                    rw [hfd2] at HTS
                    obtain ⟨sn, sr, sq⟩ := m
                    by_cases hsr : sr = 1
                    case neg =>
                      as_aux_lemma =>
                      have HNO : Hid (¬ Right R) := hid (HN1.out (fun ⟨m, hm, h2⟩ => by rw [hfd2] at hm; cases hm; exact hsr h2))
                      have hr2 : (sr == 1) = false := beq_eq_false_iff_ne.2 hsr
                      have hr4 : (sr != 1) = true := bne_iff_ne.2 hsr
                      clear HMS3 HN1 HN2 HPV
                      go_wp2_with (go_at_call 12; refine (HTS.out _ (Frm.refl No wr)).mono ?_; rintro e w1 ⟨rfl, hf1⟩)
                      go_ret
                      exact RightP.no HNO.out (HW90.out.thenNo (HF.out.thenNo (hf1.alloc _)))
                    subst hsr
                    rcases Nat.eq_zero_or_pos n with hn0 | hn0
                    · as_aux_lemma =>
                      have hnp : ¬ (0 : Int) < (n : Int) := by omega
                      have hnp2 : ¬ 0 < n := by omega
                      have hnp3 : decide (0 < n) = false := decide_eq_false hnp2
                      have HNX := hid (HMS3.out ⟨_, hfd2, rfl⟩ (fun j e => by omega))
                      clear HMS3 HN1 HN2 HPV hn0
                      go_wp2_with (go_at_call 12; refine (HTS.out _ (Frm.refl No wr)).mono ?_; rintro e w1 ⟨rfl, hf1⟩)
                      exact ⟨⟨n + 1, by omega, by go_num, HNX.out, HF.out.thenNo (hf1.alloc _)⟩, by simp only [intOf]; omega⟩
                    · obtain ⟨j, hnj⟩ : ∃ j, n = j + 1 := ⟨n - 1, by omega⟩
                      have hpv := HPV.out j hnj.symm
                      have HN2j := hid (HN2.out j hnj.symm)
                      obtain ⟨pn, hpn⟩ : ∃ pn, (xs[j]'(by omega)) = pn := ⟨_, rfl⟩
                      rw [hpn] at hpv HN2j
                      have HP2 := hid (fun w' (hf : Frm No wr w') => (hf.cell (p := ⟨g2, o2 + j, none⟩) hg2 (fun h => h)).trans hpv)
                      clear hpv
                      have hk1 : (n : Int) - 1 = (j : Int) := by omega
                      have hk2 : (0 : Int) < (n : Int) := by omega
                      have hk2b : 0 < n := by omega
                      have hk3 : (j : Int) < (sl : Int) := by omega
                      have hk6 : j ≤ 1000 := by omega
                      by_cases hlt : pn < s
                      · as_aux_lemma =>
                        have HNX := hid (HMS3.out ⟨_, hfd2, rfl⟩ (fun j' e => by
                          have e' : j' = j := by omega
                          subst e'
                          rw [hpn]
                          exact hlt))
                        have hle : (Op.bytesLess s pn || s == pn) = false := gt_of hlt
                        clear hpn HMS3 HN1 HN2 HPV HN2j hnj hn0
                        go_wp2_with (go_at_call 12; refine (HTS.out _ (Frm.refl No wr)).mono ?_; rintro e w1 ⟨rfl, hf1⟩; have p2 := HP2.out _ (hf1.alloc (.cells #[.string ⟨sn.toArray⟩, .int .i64 1, .int .i64 sq] 45)); have hGc := (HGn.out.no (hf1.alloc (.cells #[.string ⟨sn.toArray⟩, .int .i64 1, .int .i64 sq] 45))).cell 2; simp only [List.getElem?_cons_zero, List.getElem?_cons_succ] at hGc)
                        exact ⟨⟨n + 1, by omega, by go_num, HNX.out, HF.out.thenNo (hf1.alloc _)⟩, by simp only [intOf]; omega⟩
                      · as_aux_lemma =>
                        have HNO := hid (HN2j.out hlt)
                        have hle : (Op.bytesLess s pn || s == pn) = true := le_of hlt
                        clear hpn HMS3 HN1 HN2 HPV HN2j hnj hn0
                        go_wp2_with (go_at_call 12; refine (HTS.out _ (Frm.refl No wr)).mono ?_; rintro e w1 ⟨rfl, hf1⟩; have p2 := HP2.out _ (hf1.alloc (.cells #[.string ⟨sn.toArray⟩, .int .i64 1, .int .i64 sq] 45)); have hGc := (HGn.out.no (hf1.alloc (.cells #[.string ⟨sn.toArray⟩, .int .i64 1, .int .i64 sq] 45))).cell 2; simp only [List.getElem?_cons_zero, List.getElem?_cons_succ] at hGc)
                        go_ret
                        exact RightP.no HNO.out (HW90.out.thenNo (HF.out.thenNo (hf1.alloc _)))
                · as_aux_lemma =>
                  obtain rfl : n = sl := by omega
                  have hnz : ¬ (n : Int) < (n : Int) := by omega
                  have HNX2 := hid (HNX.out (HCG.out (by have := hss.2; rw [← HSL.out, List.take_length] at this; exact this) (by have := hss.1; rw [← HSL.out, List.take_length] at this; exact this)))
                  have HFin := hid (HW9.out.thenNo hf)
                  clear hss hf hG hX HNX HCG HNSr HNSt HMT HMSR HS HBG2 HBX2 HBT2
                  go_wp2_with fail
                  exact ⟨⟨k + 1, by omega, by go_num, HNX2.out, HFin.out⟩, by simp only [intOf]; omega⟩
            · obtain ⟨j, hkj⟩ : ∃ j, k = j + 1 := ⟨k - 1, by omega⟩
              have hpv := HPV.out j hkj.symm
              have HNSj := hid (HNS2.out j hkj.symm)
              have HMSj := hid HMS2.out
              obtain ⟨pn, hpn⟩ : ∃ pn, (R.clss[j]'(by omega)).name = pn := ⟨_, rfl⟩
              rw [hpn] at hpv HNSj
              have f4 := Wd.cell ((HGT.out.cell (p := ⟨g, o + j * 3, none⟩) (by show g < wr.heap.size; omega) (fun h => h)).trans hpv)
              clear hpv
              have hk1 : (k : Int) - 1 = (j : Int) := by omega
              have hk2 : (0 : Int) < (k : Int) := by omega
              have hk2b : 0 < k := by omega
              have hk3 : (j : Int) < (cl : Int) := by omega
              have hk6 : j ≤ 1000 := by omega
              by_cases hlt : pn < xn
              · as_aux_lemma =>
                have HNX := hid (fun hg => HMSj.out hg (fun j' e => by
                  have e' : j' = j := by omega
                  subst e'
                  rw [hpn]
                  exact hlt))
                have hle : (Op.bytesLess xn pn || xn == pn) = false := gt_of hlt
                clear hpn HNG HNS2 HMS2 HPV HMG HTM HNSj HMSj hkj hi0
                refine wp_region_frm (by kernel_rfl) (by kernel_rfl) ?_
                repeat (go_big_quiet_step (exact Calls.wd (HGN.out _)))
                refine wpQuiet_nil ?_
                intro w9 hf9
                clear f0 f1 f2 f3 f4
                have HBT2 := hid (HBT.out.no hf9)
                have HBG2 := hid (HBG.out.no (HBT.out.frm.thenNo hf9))
                have HBX2 := hid (HBX.out.no (HBT.out.frm.thenNo hf9))
                have HW9 := hid (HWT.out.thenNo hf9)
                have HW90 := hid (HWT0.out.thenNo hf9)
                have HG9 := hid (HGT.out.thenNo hf9)
                have m0 := HBG2.out.cell
                have m1 := HBX2.out.cell
                obtain ⟨sl, hsl⟩ : ∃ sl, xs.length = sl := ⟨_, rfl⟩
                have HSL := hid hsl
                rw [hsl] at hxl
                rw [hsl] at m0 HBG2
                clear hsl hf9 HBT HWT HWT0 HGT HBG HBX
                go_wp2_with fail
                clear m0 m1
                go_loopw [9, 10, 11, 12, 109] (fun _ _ _ _ kv wr => ∃ k : Nat, k ≤ sl ∧ kv = .int .i64 (k : Int) ∧ SSt R xs k ∧ Frm No w9 wr)
                  (fun _ _ _ _ kv _ => sl - (intOf kv).toNat)
                case atStart => exact ⟨0, by omega, rfl, ⟨by simp, by simp [Srt]⟩, Frm.refl _ _⟩
                case round =>
                  obtain ⟨n, hn, rfl, hss, hf⟩ := hrel
                  have hG := HBG2.out.no hf
                  have hX := HBX2.out.no hf
                  by_cases hnl2 : n < sl
                  · as_aux_lemma =>
                    have hnz : (n : Int) < (sl : Int) := by omega
                    have hn2 : n < xs.length := by rw [HSL.out]; exact hnl2
                    have hs3 : RdL wr (.slice xo xs.length xc) 1 strV xs := HS.out wr (HG9.out.thenNo hf)
                    obtain ⟨g2, o2, rfl, hsc⟩ := hs3.at_ (by omega)
                    have hsk := hsc n hn2 0 (by omega)
                    simp only [strV, List.getElem?_cons_zero, Nat.mul_one, Nat.add_zero] at hsk
                    have hg2 : g2 < wr.heap.size := World.block_lt_of_cell? wr _ hsk
                    have HMS3 := hid (fun hg hj => SSt.next hss hn2 hg hj)
                    have hmem := List.getElem_mem hn2
                    have HN1 := hid (HNSt.out _ hmem)
                    have HN2 : Hid (∀ (j : Nat) (e : j + 1 = n), ¬ (xs[j]'(by omega)) < xs[n] → ¬ Right R) := hid (fun j e h => by subst e; exact HNSr.out (srt_not (key := id) hn2 h))
                    have HPV : Hid (∀ (j : Nat) (e : j + 1 = n), wr.cell? ⟨g2, o2 + j, none⟩ = some (.string ⟨(xs[j]'(by omega)).toArray⟩)) := hid (fun j e => by have := hsc j (by omega) 0 (by omega); simpa only [strV, List.getElem?_cons_zero, Nat.mul_one, Nat.add_zero] using this)
                    obtain ⟨s, hs⟩ : ∃ s, xs[n] = s := ⟨_, rfl⟩
                    simp only [hs] at hsk HMS3 HN1 HN2
                    have hx0 := hX.cell 0
                    have hx1 := hX.cell 1
                    simp only [List.getElem?_cons_zero, List.getElem?_cons_succ] at hx0 hx1
                    have HGn := hid hG
                    have HF := hid hf
                    have HTS := hid (fun w1 (hf1 : Frm No wr w1) => HMT.out w1 (HW90.out.thenNo (hf.thenNo hf1)) s)
                    clear hss hf hG hX hsc hs3 hmem HNX HCG HNSr HNSt HMT HMSR HS HBG2 HBX2 HBT2 HG9
                    cases hfd2 : find Mem.name R.mems s
                    case none =>
                      as_aux_lemma =>
                      have HNO : Hid (¬ Right R) := hid (HN1.out (fun ⟨m, hm, _⟩ => by rw [hfd2] at hm; cases hm))
                      rw [hfd2] at HTS
                      clear HMS3 HN1 HN2 HPV
                      go_wp2_with (go_at_call 12; refine (HTS.out _ (Frm.refl No wr)).mono ?_; rintro e w1 ⟨rfl, hf1⟩)
                      go_ret
                      exact RightP.no HNO.out (HW90.out.thenNo (HF.out.thenNo (hf1.alloc _)))
                    case some m =>
                      rw [hfd2] at HTS
                      obtain ⟨sn, sr, sq⟩ := m
                      by_cases hsr : sr = 1
                      case neg =>
                        as_aux_lemma =>
                        have HNO : Hid (¬ Right R) := hid (HN1.out (fun ⟨m, hm, h2⟩ => by rw [hfd2] at hm; cases hm; exact hsr h2))
                        have hr2 : (sr == 1) = false := beq_eq_false_iff_ne.2 hsr
                        have hr4 : (sr != 1) = true := bne_iff_ne.2 hsr
                        clear HMS3 HN1 HN2 HPV
                        go_wp2_with (go_at_call 12; refine (HTS.out _ (Frm.refl No wr)).mono ?_; rintro e w1 ⟨rfl, hf1⟩)
                        go_ret
                        exact RightP.no HNO.out (HW90.out.thenNo (HF.out.thenNo (hf1.alloc _)))
                      subst hsr
                      rcases Nat.eq_zero_or_pos n with hn0 | hn0
                      · as_aux_lemma =>
                        have hnp : ¬ (0 : Int) < (n : Int) := by omega
                        have hnp2 : ¬ 0 < n := by omega
                        have hnp3 : decide (0 < n) = false := decide_eq_false hnp2
                        have HNX := hid (HMS3.out ⟨_, hfd2, rfl⟩ (fun j e => by omega))
                        clear HMS3 HN1 HN2 HPV hn0
                        go_wp2_with (go_at_call 12; refine (HTS.out _ (Frm.refl No wr)).mono ?_; rintro e w1 ⟨rfl, hf1⟩)
                        exact ⟨⟨n + 1, by omega, by go_num, HNX.out, HF.out.thenNo (hf1.alloc _)⟩, by simp only [intOf]; omega⟩
                      · obtain ⟨j, hnj⟩ : ∃ j, n = j + 1 := ⟨n - 1, by omega⟩
                        have hpv := HPV.out j hnj.symm
                        have HN2j := hid (HN2.out j hnj.symm)
                        obtain ⟨pn, hpn⟩ : ∃ pn, (xs[j]'(by omega)) = pn := ⟨_, rfl⟩
                        rw [hpn] at hpv HN2j
                        have HP2 := hid (fun w' (hf : Frm No wr w') => (hf.cell (p := ⟨g2, o2 + j, none⟩) hg2 (fun h => h)).trans hpv)
                        clear hpv
                        have hk1 : (n : Int) - 1 = (j : Int) := by omega
                        have hk2 : (0 : Int) < (n : Int) := by omega
                        have hk2b : 0 < n := by omega
                        have hk3 : (j : Int) < (sl : Int) := by omega
                        have hk6 : j ≤ 1000 := by omega
                        by_cases hlt : pn < s
                        · as_aux_lemma =>
                          have HNX := hid (HMS3.out ⟨_, hfd2, rfl⟩ (fun j' e => by
                            have e' : j' = j := by omega
                            subst e'
                            rw [hpn]
                            exact hlt))
                          have hle : (Op.bytesLess s pn || s == pn) = false := gt_of hlt
                          clear hpn HMS3 HN1 HN2 HPV HN2j hnj hn0
                          go_wp2_with (go_at_call 12; refine (HTS.out _ (Frm.refl No wr)).mono ?_; rintro e w1 ⟨rfl, hf1⟩; have p2 := HP2.out _ (hf1.alloc (.cells #[.string ⟨sn.toArray⟩, .int .i64 1, .int .i64 sq] 45)); have hGc := (HGn.out.no (hf1.alloc (.cells #[.string ⟨sn.toArray⟩, .int .i64 1, .int .i64 sq] 45))).cell 2; simp only [List.getElem?_cons_zero, List.getElem?_cons_succ] at hGc)
                          exact ⟨⟨n + 1, by omega, by go_num, HNX.out, HF.out.thenNo (hf1.alloc _)⟩, by simp only [intOf]; omega⟩
                        · as_aux_lemma =>
                          have HNO := hid (HN2j.out hlt)
                          have hle : (Op.bytesLess s pn || s == pn) = true := le_of hlt
                          clear hpn HMS3 HN1 HN2 HPV HN2j hnj hn0
                          go_wp2_with (go_at_call 12; refine (HTS.out _ (Frm.refl No wr)).mono ?_; rintro e w1 ⟨rfl, hf1⟩; have p2 := HP2.out _ (hf1.alloc (.cells #[.string ⟨sn.toArray⟩, .int .i64 1, .int .i64 sq] 45)); have hGc := (HGn.out.no (hf1.alloc (.cells #[.string ⟨sn.toArray⟩, .int .i64 1, .int .i64 sq] 45))).cell 2; simp only [List.getElem?_cons_zero, List.getElem?_cons_succ] at hGc)
                          go_ret
                          exact RightP.no HNO.out (HW90.out.thenNo (HF.out.thenNo (hf1.alloc _)))
                  · as_aux_lemma =>
                    obtain rfl : n = sl := by omega
                    have hnz : ¬ (n : Int) < (n : Int) := by omega
                    have HNX2 := hid (HNX.out (HCG.out (by have := hss.2; rw [← HSL.out, List.take_length] at this; exact this) (by have := hss.1; rw [← HSL.out, List.take_length] at this; exact this)))
                    have HFin := hid (HW9.out.thenNo hf)
                    clear hss hf hG hX HNX HCG HNSr HNSt HMT HMSR HS HBG2 HBX2 HBT2
                    go_wp2_with fail
                    exact ⟨⟨k + 1, by omega, by go_num, HNX2.out, HFin.out⟩, by simp only [intOf]; omega⟩
              · as_aux_lemma =>
                have HNO := hid (HNSj.out hlt)
                have hle : (Op.bytesLess xn pn || xn == pn) = true := le_of hlt
                clear hpn HNSj HMSj HNG HNS2 HMS2 HPV HMT HMG HMSR HS HTM hkj hi0
                refine wp_region_frm (by kernel_rfl) (by kernel_rfl) ?_
                repeat (go_big_quiet_step (exact Calls.wd (HGN.out _)))
                refine wpQuiet_nil ?_
                intro w9 hf9
                clear f0 f1 f2 f3 f4
                go_wp2_with fail
                go_ret
                exact RightP.no HNO.out (HWT0.out.thenNo hf9)
        · as_aux_lemma =>
          obtain rfl : k = cl := by omega
          have hkz : ¬ (k : Int) < (k : Int) := by omega
          have hcl3 : R.clss.length = k := by rw [← HFS.out, List.length_map, HCL.out]
          have HRT : Hid (Right R) := hid ⟨HMG.out, HMSR.out, by have := hcs.2; rw [← hcl3, List.take_length] at this; exact this, by have := hcs.1; rw [← hcl3, List.take_length] at this; exact this⟩
          have HF0 := hid hf0
          clear hcs hf hX hf0 HC HST HFS H3 HMT HMG HMSR HG
          go_wp2_with fail
          go_ret
          exact ⟨true, rfl, ⟨fun _ => HRT.out, fun _ => rfl⟩, HF0.out⟩
end Go.Proofs.YtofcmghhmklmiaaGreat
