/- RollKeeps: whatever was done, each class's teacher and students are members of their roles, each once, for every list of deeds. Printed by a program (rollkeeps.py). -/
import Derived.Test.YtekailaoanpcgaaRollR
import Derived.Test.YtekailaoanpcgaaRollL
import Derived.Test.YtekailaoanpcgaaRollP
import Derived.Deep.Cut
import Derived.Deep.CutRange
import Derived.Deep.CutBlock
import Derived.BigQuiet
namespace Go.Proofs.Ytekailaoanpcgaa
open Go.ChangeShapes Go.WideShapes Go.ChangeAt Go.RowKit Go.Deep
open Roll
namespace RollKeeps
theorem wrap_small (k : Nat) (h : k ≤ 1000) : wrap64 (k : Int) = (k : Int) := IntWalk.wrap64_in _ (by omega)
theorem keep_t {R : Rl} (h : Inv R) {c : Cls} (hc : c ∈ R.clss) : ∃ m, find Mem.name R.mems c.teacher = some m ∧ m.role = 2 ∧ m.name = c.teacher := by
  obtain ⟨-, ⟨m, h1, h2, h3⟩, -⟩ := h.cg c hc
  exact ⟨m, find_of h.ms h1 h2, h3, h2⟩
theorem keep_s {R : Rl} (h : Inv R) {c : Cls} (hc : c ∈ R.clss) {s : B} (hs : s ∈ c.students) : ∃ m, find Mem.name R.mems s = some m ∧ m.role = 1 ∧ m.name = s := by
  obtain ⟨-, -, -, h1⟩ := h.cg c hc
  obtain ⟨m, h1, h2, h3⟩ := h1 s hs
  exact ⟨m, find_of h.ms h1 h2, h3, h2⟩
theorem keep_te {R : Rl} {c : Cls} (hc : c ∈ R.clss) {s : B} (hs : s ∈ c.students) : teaches R c.teacher s = true := by
  unfold teaches
  refine List.any_eq_true.2 ⟨c, hc, ?_⟩
  have : has id c.students s = true := has_iff.2 ⟨s, hs, rfl⟩
  simp [this]
theorem keep_lt {R : Rl} (h : Inv R) {c : Cls} (hc : c ∈ R.clss) (k : Nat) (hk : k + 1 < c.students.length) : c.students[k] < c.students[k + 1] := by
  obtain ⟨-, -, h1, -⟩ := h.cg c hc
  exact List.pairwise_iff_getElem.1 h1 k (k + 1) (by omega) hk (by omega)
theorem member_is {R : Rl} {mv cv : Value} {n : B} {m : Mem} {w : World} (hr : RlR w mv cv R) (hI : Inv R) (he : find Mem.name R.mems n = some m) :
    Calls Try.prog 14 #[.agg #[mv, cv], .string ⟨n.toArray⟩] w fun e w' => e = .returned (.tuple #[.agg #[.string ⟨m.name.toArray⟩, .int .i64 m.role, .int .i64 m.quota], .bool true]) ∧ Frm No w w' :=
  (rmember_any R mv cv n w hr hI.ms (by have := hI.ml; omega)).mono fun _ _ h => by rw [he] at h; exact h
/-- What is left by 't, ok := r.Member(..)'. -/
def MbP (w w1 : World) (m : Mem) (p q : Value) (wq : World) : Prop := ∃ F, p = .pointer (some ⟨F, 0, none⟩) ∧ q = .bool true ∧ Box w wq F (memV m) ∧ Frm No w1 wq
theorem mb_end1 {w w1 wa : World} {m : Mem} {T : TypeId} (h0 : Frm No w wa) (hf : Frm No w1 wa) : MbP w w1 m (.pointer (some ⟨wa.heap.size, 0, none⟩)) (.bool true) (wa.alloc (.cells #[.string ⟨m.name.toArray⟩, .int .i64 m.role, .int .i64 m.quota] T)) :=
  ⟨_, rfl, rfl, Box.new h0 (memV m) T, hf.alloc _⟩
theorem mb_end {w w1 wb : World} {m : Mem} {F : Nat} {x y z : Value} (hB : Box w wb F [x, y, z]) (hf : Frm No w1 wb) (hF : w1.heap.size ≤ F) : MbP w w1 m (.pointer (some ⟨F, 0, none⟩)) (.bool true) (((wb.setCell ⟨F, 0, none⟩ (.string ⟨m.name.toArray⟩)).setCell ⟨F, 1, none⟩ (.int .i64 m.role)).setCell ⟨F, 2, none⟩ (.int .i64 m.quota)) := by
  refine ⟨F, rfl, rfl, ?_, hf.trans (((setCell_own _).then_ (setCell_own _)).then_ (setCell_own _) : Frm (One F) wb _) (fun _ _ h => h) (fun k hk e => by have e : k = F := e; omega)⟩
  have := ((hB.set 0 (by simp) (.string ⟨m.name.toArray⟩)).set 1 (by simp) (.int .i64 m.role)).set 2 (by simp) (.int .i64 m.quota)
  simpa [memV] using this
/-- What the loop over the deeds keeps: a roll in block E. -/
def KpI (w : World) (E : Nat) (wr : World) : Prop := ∃ mv cv R, Box w wr E [mv, cv] ∧ RlR wr mv cv R ∧ Inv R
/-- What is left by 'n, e := do(r, l[i])'. -/
def DoP (w : World) (E : Nat) (mv cv : Value) (R R2 : Rl) (er : Int) (p q : Value) (wq : World) : Prop :=
  ∃ (F : Nat) (mv2 cv2 : Value), p = .pointer (some ⟨F, 0, none⟩) ∧ q = .int .i64 er ∧ E ≠ F ∧ Box w wq F [mv2, cv2] ∧ Box w wq E [mv, cv] ∧ RlR wq mv2 cv2 R2 ∧ RlR wq mv cv R
theorem do_end {w wb : World} {E F : Nat} {mv cv mv2 cv2 x y : Value} {R R2 : Rl} {er : Int} (hF : Box w wb F [x, y]) (hx : ∃ a n c, x = .slice a n c) (hy : ∃ a n c, y = .slice a n c) (hE : Box w wb E [mv, cv]) (hne : E ≠ F) (h1 : RlR wb mv2 cv2 R2) (h2 : RlR wb mv cv R) :
    DoP w E mv cv R R2 er (.pointer (some ⟨F, 0, none⟩)) (.int .i64 er) ((wb.setCell ⟨F, 0, none⟩ mv2).setCell ⟨F, 1, none⟩ cv2) := by
  have hFr : Frm (One F) wb ((wb.setCell ⟨F, 0, none⟩ mv2).setCell ⟨F, 1, none⟩ cv2) := (setCell_own _).then_ (setCell_own _)
  have hns : ∀ (j : Nat) s, wb.cell? ⟨F, j, none⟩ ≠ some (.string s) := fun j s e => noStr2 hx hy j s (by rw [← hF.cell j]; exact e)
  refine ⟨F, mv2, cv2, rfl, rfl, hne, ?_, (hE.setOther hF.hC hne 0 mv2).setOther hF.hC hne 1 cv2, h1.box hns hFr, h2.box hns hFr⟩
  have := (hF.set 0 (by simp) mv2).set 1 (by simp) cv2
  simpa using this
theorem do_end1 {w wa : World} {E : Nat} {mv cv mv2 cv2 : Value} {R R2 : Rl} {er : Int} {T : TypeId} (hf : Frm No w wa) (hE : Box w (wa.alloc (.cells #[mv2, cv2] T)) E [mv, cv]) (hne : E ≠ wa.heap.size) (h1 : RlR (wa.alloc (.cells #[mv2, cv2] T)) mv2 cv2 R2) (h2 : RlR (wa.alloc (.cells #[mv2, cv2] T)) mv cv R) :
    DoP w E mv cv R R2 er (.pointer (some ⟨wa.heap.size, 0, none⟩)) (.int .i64 er) (wa.alloc (.cells #[mv2, cv2] T)) :=
  ⟨_, mv2, cv2, rfl, rfl, hne, Box.new hf [mv2, cv2] T, hE, h1, h2⟩
set_option maxRecDepth 100000 in
set_option maxHeartbeats 8000000 in
theorem walk (v : Value) (l : List Deed) (w : World) (hr : RdL w v 4 deedV l) (hal : l.length ≤ maxLen) (_hg : ∀ y ∈ l, DeedOK y) :
    Calls Try.prog 4 #[v] w fun e w' => e = .returned (.bool true) ∧ Frm No w w' := by
  unfold maxLen at hal
  obtain ⟨ao, cp, rfl⟩ := hr.shape
  have HD := hid (fun w1 (hf : Frm No w w1) k (hk : k < l.length) => deed_at hr hf k hk)
  have HDO := hid (fun w1 mv cv R (d : Deed) (hr : RlR w1 mv cv R) (hI : Inv R) (ha : d.a.length ≤ 200) => do_any R mv cv d w1 hr hI ha)
  have HLG := hid (fun w1 d => long_any d w1)
  obtain ⟨al, hale⟩ : ∃ al, l.length = al := ⟨_, rfl⟩
  have HAL := hid hale
  rw [hale] at hal ⊢
  clear hr hale
  rcases Nat.lt_or_ge 60 al with h60 | h60
  · as_aux_lemma =>
    go_enter Try.func4, Try.ntmps4
    go_upto_region 4 with (go_at_call 7; refine (rollspeaks _).mono ?_; rintro e w1 ⟨rfl, hf1⟩)
    have BE := Box.new hf1 [.slice none 0 0, .slice none 0 0] 27
    obtain ⟨W, hW⟩ : ∃ W, W = w1.alloc (.cells #[.slice none 0 0, .slice none 0 0] 27) := ⟨_, rfl⟩
    rw [← hW] at BE ⊢
    clear hW
    obtain ⟨E, hE⟩ : ∃ E, w1.heap.size = E := ⟨_, rfl⟩
    rw [hE] at BE
    (try simp only [hE])
    clear hE hf1
    have HI : Hid (KpI w E W) := hid ⟨_, _, Roll.nil, BE, nil_rd W, inv_nil⟩
    clear BE
    go_wp2_with fail
    go_loopw [4, 5, 6] (fun i _ _ wr => ∃ k : Nat, k ≤ 60 ∧ i = .int .i64 (k : Int) ∧ KpI w E wr)
      (fun i _ _ _ => 60 - (intOf i).toNat)
    case atStart => exact ⟨0, by omega, rfl, HI.out⟩
    case round =>
      clear HI
      obtain ⟨k, hk, rfl, mv, cv, R, hB, hR, hI⟩ := hrel
      by_cases hkn : k < 60
      · as_aux_lemma =>
        have hka : k < al := by omega
        have hkz : (k : Int) < (al : Int) := by omega
        have hk6 : (k : Int) < 60 := by omega
        have hk6' : k < 60 := by omega
        obtain ⟨b, o, rfl, hbw, q0, q1, q2, q3⟩ := HD.out wr hB.frm k (by rw [HAL.out]; exact hka)
        have hbr : b < wr.heap.size := by have := hB.frm.size; omega
        obtain ⟨d, hd⟩ : ∃ d, l[k]'(by rw [HAL.out]; exact hka) = d := ⟨_, rfl⟩
        simp only [hd] at q0 q1 q2 q3
        clear hd
        have HL := hid (fun w1 => HLG.out w1 d)
        obtain ⟨lg, hlg⟩ : ∃ lg, decide (200 < d.a.length ∨ 200 < d.b.length) = lg := ⟨_, rfl⟩
        rw [hlg] at HL
        have HB := hid hB
        have HR := hid hR
        cases lg
        case true =>
          clear hlg hB hR
          obtain ⟨x, da, db, dn⟩ := d
          dsimp only at q0 q1 q2 q3 HL
          go_wp2_with (go_at_call 12; refine (HL.out _).mono ?_; rintro e w2 ⟨rfl, hf2⟩)
          go_ret
          exact ⟨rfl, HB.out.frm.thenNo hf2⟩
        case false =>
          have hda : d.a.length ≤ 200 := by
            simp only [decide_eq_false_iff_not, not_or] at hlg
            omega
          have HDK := hid (fun w1 (hf : Frm No wr w1) => HDO.out w1 mv cv R d (hR.no hf) hI hda)
          have HINV := hid hI
          have HINV2 := hid (inv_deed hI d)
          obtain ⟨res, hres⟩ : ∃ res, deed R d = res := ⟨_, rfl⟩
          rw [hres] at HDK HINV2
          clear hres hlg hI hR hda
          obtain ⟨R2, er⟩ := res
          obtain ⟨x, da, db, dn⟩ := d
          dsimp only at q0 q1 q2 q3 HL HDK HINV2
          go_upto_region 9 with (go_at_call 12; refine (HL.out _).mono ?_; rintro e w2 ⟨rfl, hf2⟩)
          have B2 := HB.out.no hf2
          have HR2 := hid (HR.out.no hf2)
          have r0 := (hf2.cell (p := ⟨b, o + k * 4, none⟩) hbr (fun h => h)).trans q0
          have r1 := (hf2.cell (p := ⟨b, o + k * 4 + 1, none⟩) hbr (fun h => h)).trans q1
          have r2 := (hf2.cell (p := ⟨b, o + k * 4 + 2, none⟩) hbr (fun h => h)).trans q2
          have r3 := (hf2.cell (p := ⟨b, o + k * 4 + 3, none⟩) hbr (fun h => h)).trans q3
          have HDK2 := hid (fun w1 (hf : Frm No w2 w1) => HDK.out w1 (hf2.thenNo hf))
          obtain ⟨ma, ml, mc, ca, cl, cc, rfl, rfl⟩ := HR2.out.any
          have c0 := B2.cell 0
          have c1 := B2.cell 1
          simp only [List.getElem?_cons_zero, List.getElem?_cons_succ] at c0 c1
          have hb2 : b < w2.heap.size := by have := hf2.size; omega
          have hE2 := B2.lC
          have SK : Hid (∀ w', Frm No w2 w' → w'.cell? ⟨E, 0, none⟩ = some (.slice ma ml mc) ∧ w'.cell? ⟨E, 1, none⟩ = some (.slice ca cl cc) ∧ w'.cell? ⟨b, o + k * 4, none⟩ = some (.int .i64 x) ∧ w'.cell? ⟨b, o + k * 4 + 1, none⟩ = some (.string ⟨da.toArray⟩) ∧ w'.cell? ⟨b, o + k * 4 + 2, none⟩ = some (.string ⟨db.toArray⟩) ∧ w'.cell? ⟨b, o + k * 4 + 3, none⟩ = some (.int .i64 dn)) := hid fun w' hf => ⟨(hf.cell (p := ⟨E, 0, none⟩) hE2 (fun h => h)).trans c0, (hf.cell (p := ⟨E, 1, none⟩) hE2 (fun h => h)).trans c1, (hf.cell (p := ⟨b, o + k * 4, none⟩) hb2 (fun h => h)).trans r0, (hf.cell (p := ⟨b, o + k * 4 + 1, none⟩) hb2 (fun h => h)).trans r1, (hf.cell (p := ⟨b, o + k * 4 + 2, none⟩) hb2 (fun h => h)).trans r2, (hf.cell (p := ⟨b, o + k * 4 + 3, none⟩) hb2 (fun h => h)).trans r3⟩
          have HB2 := hid B2
          clear q0 q1 q2 q3 r0 r1 r2 r3 c0 c1 HL HDK HB HR HD HDO HLG hB B2 hf2
          go_cut [5, 6] from 30 to 38 (fun p q wq => DoP w E (.slice ma ml mc) (.slice ca cl cc) R R2 er p q wq)
          case first =>
            as_aux_lemma =>
              refine wp_region_late (fun w' => w'.cell? ⟨E, 0, none⟩ = some (.slice ma ml mc) ∧ w'.cell? ⟨E, 1, none⟩ = some (.slice ca cl cc) ∧ w'.cell? ⟨b, o + k * 4, none⟩ = some (.int .i64 x) ∧ w'.cell? ⟨b, o + k * 4 + 1, none⟩ = some (.string ⟨da.toArray⟩) ∧ w'.cell? ⟨b, o + k * 4 + 2, none⟩ = some (.string ⟨db.toArray⟩) ∧ w'.cell? ⟨b, o + k * 4 + 3, none⟩ = some (.int .i64 dn)) [10] (by kernel_rfl) (SK.out _ (Frm.refl _ _).drew) (fun hHeld => ?_)
              refine wpLate_take [5, 6, 7, 8, 10, 11] (i := 0) (oi := _) (v := _) rfl (by kernel_rfl) (by kernel_rfl) (by kernel_rfl) (by kernel_rfl) (by kernel_rfl) (fun _ _ _ h => h) (Or.inl ⟨by rfl, by intro w hSw; (try dsimp only at hSw); go_simp; all_goals with_reducible rfl⟩) (by assumption) ?_
              (try simp only [Act.put, List.getElem_toArray, List.getElem_cons_zero, List.setIfInBounds_toArray, List.set_cons_zero, List.set_cons_succ])
              refine wpLate_take0 (i := 1) (oi := _) (v := _) rfl (by kernel_rfl) (by kernel_rfl) (by kernel_rfl) (by kernel_rfl) (fun _ _ _ h => h) (Or.inl ⟨by rfl, by intro w _; go_simp; all_goals with_reducible rfl⟩) (fun _ => by assumption) ?_
              (try simp only [Act.put, List.getElem_toArray, List.getElem_cons_succ, List.getElem_cons_zero, List.setIfInBounds_toArray, List.set_cons_zero, List.set_cons_succ])
              refine wpLate_take0 (i := 2) (oi := _) (v := _) rfl (by kernel_rfl) (by kernel_rfl) (by kernel_rfl) (by kernel_rfl) (fun _ _ _ h => h) (Or.inl ⟨by rfl, by intro w _; go_simp; all_goals with_reducible rfl⟩) (fun _ => by assumption) ?_
              (try simp only [Act.put, List.getElem_toArray, List.getElem_cons_succ, List.getElem_cons_zero, List.setIfInBounds_toArray, List.set_cons_zero, List.set_cons_succ])
              refine wpLate_take0 (i := 3) (oi := _) (v := _) rfl (by kernel_rfl) (by kernel_rfl) (by kernel_rfl) (by kernel_rfl) (fun _ _ _ h => h) (Or.inl ⟨by rfl, by intro w _; go_simp; all_goals with_reducible rfl⟩) (fun _ => by assumption) ?_
              (try simp only [Act.put, List.getElem_toArray, List.getElem_cons_succ, List.getElem_cons_zero, List.setIfInBounds_toArray, List.set_cons_zero, List.set_cons_succ])
              refine wpLate_take [5, 6, 7, 8, 10, 11] (i := 4) (oi := _) (v := _) rfl (by kernel_rfl) (by kernel_rfl) (by kernel_rfl) (by kernel_rfl) (by kernel_rfl) (fun _ _ _ h => h) (Or.inl ⟨by rfl, by intro w hSw; (try dsimp only at hSw); go_simp; all_goals with_reducible rfl⟩) (by assumption) ?_
              (try simp only [Act.put, List.getElem_toArray, List.getElem_cons_succ, List.getElem_cons_zero, List.setIfInBounds_toArray, List.set_cons_zero, List.set_cons_succ])
              refine wpLate_ready (rs := [5, 9]) (by kernel_rfl) (by simp) ?_
              refine (AllReadyL.cons (i := 5) rfl (fun K hK => ?_) (AllReadyL.cons (i := 9) rfl (fun K hK => ?_) AllReadyL.nil))
              · simp only [List.getElem_toArray, List.getElem_cons_succ, List.getElem_cons_zero]
                go_simp
                refine (HDK2.out _ (Frm.refl No w2).drew).mono ?_; rintro e wa ⟨mv2, cv2, rfl, hra, hfa0⟩; obtain ⟨a2, l2, c2, a3, l3, c3, rfl, rfl⟩ := hra.any; have hfa := (Frm.refl No w2).drew.thenNo hfa0
                refine hK.out _ _ (SK.out _ hfa) (fun hHeld => ?_)
                clear hK K
                (try simp only)
                refine wpLate_take0 (i := 6) (oi := _) (v := _) rfl (by kernel_rfl) (by kernel_rfl) (by kernel_rfl) (by kernel_rfl) (fun _ _ _ h => h) (Or.inl ⟨by rfl, by intro w _; go_simp; all_goals with_reducible rfl⟩) (fun _ => by assumption) ?_
                (try simp only [Act.put, List.getElem_toArray, List.getElem_cons_succ, List.getElem_cons_zero, List.setIfInBounds_toArray, List.set_cons_zero, List.set_cons_succ])
                refine wpLate_take0 (i := 7) (oi := _) (v := _) rfl (by kernel_rfl) (by kernel_rfl) (by kernel_rfl) (by kernel_rfl) (fun _ _ _ h => h) (Or.inl ⟨by rfl, by intro w _; go_simp; all_goals with_reducible rfl⟩) (fun _ => by assumption) ?_
                (try simp only [Act.put, List.getElem_toArray, List.getElem_cons_succ, List.getElem_cons_zero, List.setIfInBounds_toArray, List.set_cons_zero, List.set_cons_succ])
                refine wpLate_take0 (i := 8) (oi := _) (v := _) rfl (by kernel_rfl) (by kernel_rfl) (by kernel_rfl) (by kernel_rfl) (fun _ _ _ h => h) (Or.inl ⟨by rfl, by intro w _; go_simp; all_goals with_reducible rfl⟩) (fun _ => by assumption) ?_
                (try simp only [Act.put, List.getElem_toArray, List.getElem_cons_succ, List.getElem_cons_zero, List.setIfInBounds_toArray, List.set_cons_zero, List.set_cons_succ])
                refine wpLate_ready (rs := [9]) (by kernel_rfl) (by simp) ?_
                refine (AllReadyL.cons (i := 9) rfl (fun K hK => ?_) AllReadyL.nil)
                simp only [List.getElem_toArray, List.getElem_cons_succ, List.getElem_cons_zero]
                go_simp
                refine hK.out _ _ (SK.out _ (hfa.alloc _)) (fun hHeld => ?_)
                clear hK K
                (try simp only [Act.put, List.getElem_toArray, List.getElem_cons_succ, List.getElem_cons_zero, List.setIfInBounds_toArray, List.set_cons_zero, List.set_cons_succ])
                have hl9 := (HB2.out.no hfa).lC
                have B9 := HB2.out.no (hfa.alloc (.cells #[.slice a2 l2 c2, .slice a3 l3 c3] 27))
                have R9 := HR2.out.no (hfa.alloc (.cells #[.slice a2 l2 c2, .slice a3 l3 c3] 27))
                have N9 := hra.no ((Frm.refl No wa).alloc (.cells #[.slice a2 l2 c2, .slice a3 l3 c3] 27))
                refine wpLate_ready (rs := [10]) (by kernel_rfl) (by simp) ?_
                refine (AllReadyL.late (i := 10) rfl (by kernel_rfl) (fun K hK => ?_) AllReadyL.nil)
                simp only [List.getElem_toArray, List.getElem_cons_succ, List.getElem_cons_zero]
                go_simp
                refine hK.out _ _ ?_
                clear hK K
                (try simp only [Act.put, List.getElem_toArray, List.getElem_cons_succ, List.getElem_cons_zero, List.setIfInBounds_toArray, List.set_cons_zero, List.set_cons_succ])
                refine wpLate_ready (rs := [11]) (by kernel_rfl) (by simp) ?_
                refine (AllReadyL.late (i := 11) rfl (by kernel_rfl) (fun K hK => ?_) AllReadyL.nil)
                simp only [List.getElem_toArray, List.getElem_cons_succ, List.getElem_cons_zero]
                go_simp
                refine hK.out _ _ ?_
                clear hK K
                (try simp only [Act.put, List.getElem_toArray, List.getElem_cons_succ, List.getElem_cons_zero, List.setIfInBounds_toArray, List.set_cons_zero, List.set_cons_succ])
                refine wpLate_done (by kernel_rfl) ?_ _
                dsimp only [Exit.then]; go_step; go_meet
                exact do_end1 (HB2.out.frm.thenNo hfa) B9 (by omega) N9 R9
              · simp only [List.getElem_toArray, List.getElem_cons_succ, List.getElem_cons_zero]
                go_simp
                refine hK.out _ _ (SK.out _ ((Frm.refl No _).drew.alloc _)) (fun hHeld => ?_)
                clear hK K
                (try simp only [Act.put, List.getElem_toArray, List.getElem_cons_succ, List.getElem_cons_zero, List.setIfInBounds_toArray, List.set_cons_zero, List.set_cons_succ])
                refine wpLate_ready (rs := [5]) (by kernel_rfl) (by simp) ?_
                refine (AllReadyL.cons (i := 5) rfl (fun K hK => ?_) AllReadyL.nil)
                simp only [List.getElem_toArray, List.getElem_cons_succ, List.getElem_cons_zero]
                go_simp
                refine (HDK2.out _ ((Frm.refl No w2).drew.alloc _)).mono ?_; rintro e wb ⟨mv2, cv2, rfl, hra, hfb0⟩; obtain ⟨a2, l2, c2, a3, l3, c3, rfl, rfl⟩ := hra.any; have hfb := ((Frm.refl No w2).drew.alloc _).thenNo hfb0; have BXb := (Box.new (HB2.out.frm.drew) [.slice none 0 0, .slice none 0 0] 27).no hfb0
                refine hK.out _ _ (SK.out _ hfb) (fun hHeld => ?_)
                clear hK K
                (try simp only)
                refine wpLate_take0 (i := 6) (oi := _) (v := _) rfl (by kernel_rfl) (by kernel_rfl) (by kernel_rfl) (by kernel_rfl) (fun _ _ _ h => h) (Or.inl ⟨by rfl, by intro w _; go_simp; all_goals with_reducible rfl⟩) (fun _ => by assumption) ?_
                (try simp only [Act.put, List.getElem_toArray, List.getElem_cons_succ, List.getElem_cons_zero, List.setIfInBounds_toArray, List.set_cons_zero, List.set_cons_succ])
                refine wpLate_take0 (i := 7) (oi := _) (v := _) rfl (by kernel_rfl) (by kernel_rfl) (by kernel_rfl) (by kernel_rfl) (fun _ _ _ h => h) (Or.inl ⟨by rfl, by intro w _; go_simp; all_goals with_reducible rfl⟩) (fun _ => by assumption) ?_
                (try simp only [Act.put, List.getElem_toArray, List.getElem_cons_succ, List.getElem_cons_zero, List.setIfInBounds_toArray, List.set_cons_zero, List.set_cons_succ])
                refine wpLate_take0 (i := 8) (oi := _) (v := _) rfl (by kernel_rfl) (by kernel_rfl) (by kernel_rfl) (by kernel_rfl) (fun _ _ _ h => h) (Or.inl ⟨by rfl, by intro w _; go_simp; all_goals with_reducible rfl⟩) (fun _ => by assumption) ?_
                (try simp only [Act.put, List.getElem_toArray, List.getElem_cons_succ, List.getElem_cons_zero, List.setIfInBounds_toArray, List.set_cons_zero, List.set_cons_succ])
                have hl9 := HB2.out.lC
                have B9 := HB2.out.no hfb
                have R9 := HR2.out.no hfb
                have cX : ∀ j, wb.cell? ⟨w2.heap.size, j, none⟩ = ([.slice none 0 0, .slice none 0 0] : List Value)[j]? := BXb.cell
                have fX : ∀ j, wb.frozen? ⟨w2.heap.size, j, none⟩ = false := BXb.fr
                refine wpLate_ready (rs := [10]) (by kernel_rfl) (by simp) ?_
                refine (AllReadyL.late (i := 10) rfl (by kernel_rfl) (fun K hK => ?_) AllReadyL.nil)
                simp only [List.getElem_toArray, List.getElem_cons_succ, List.getElem_cons_zero]
                go_simp
                refine hK.out _ _ ?_
                clear hK K
                (try simp only [Act.put, List.getElem_toArray, List.getElem_cons_succ, List.getElem_cons_zero, List.setIfInBounds_toArray, List.set_cons_zero, List.set_cons_succ])
                refine wpLate_ready (rs := [11]) (by kernel_rfl) (by simp) ?_
                refine (AllReadyL.late (i := 11) rfl (by kernel_rfl) (fun K hK => ?_) AllReadyL.nil)
                simp only [List.getElem_toArray, List.getElem_cons_succ, List.getElem_cons_zero]
                go_simp
                refine hK.out _ _ ?_
                clear hK K
                (try simp only [Act.put, List.getElem_toArray, List.getElem_cons_succ, List.getElem_cons_zero, List.setIfInBounds_toArray, List.set_cons_zero, List.set_cons_succ])
                refine wpLate_done (by kernel_rfl) ?_ _
                dsimp only [Exit.then]; go_step; go_meet
                exact do_end (F := w2.heap.size) BXb ⟨_, _, _, rfl⟩ ⟨_, _, _, rfl⟩ B9 (by show E ≠ w2.heap.size; omega) hra R9
          case rest =>
            as_aux_lemma =>
              obtain ⟨F, mv3, cv3, rfl, rfl, hne, hBF, hBE, hR3, hRR⟩ := hcut
              obtain ⟨a3, l3, c3, a4, l4, c4, rfl, rfl⟩ := hR3.any
              by_cases her : er = 0
              · subst her
                have e0 := hBE.cell
                have f0 := hBF.cell
                have g0 := hBE.fr
                have hnx : KpI w E ((wc.setCell ⟨E, 0, none⟩ (.slice a3 l3 c3)).setCell ⟨E, 1, none⟩ (.slice a4 l4 c4)) := by
                  have hns : ∀ (j : Nat) s, wc.cell? ⟨E, j, none⟩ ≠ some (.string s) := fun j s e => noStr2 ⟨_, _, _, rfl⟩ ⟨_, _, _, rfl⟩ j s (by rw [← hBE.cell j]; exact e)
                  refine ⟨_, _, R2, ?_, hR3.box hns ((setCell_own _).then_ (setCell_own _)), HINV2.out⟩
                  have := (hBE.set 0 (by simp) (.slice a3 l3 c3)).set 1 (by simp) (.slice a4 l4 c4)
                  simpa using this
                have HNX := hid hnx
                clear hnx hBF hBE hR3 hRR SK HDK2 HB2 HR2
                go_wp2_with fail
                exact ⟨⟨k + 1, by omega, by go_num, HNX.out⟩, by simp only [intOf]; omega⟩
              · have HNX : Hid (KpI w E wc) := hid ⟨_, _, R, hBE, hRR, HINV.out⟩
                have herb : (er == 0) = false := beq_eq_false_iff_ne.2 her
                clear hBF hBE hR3 hRR SK HDK2 HB2 HR2
                go_wp2_with fail
                exact ⟨⟨k + 1, by omega, by go_num, HNX.out⟩, by simp only [intOf]; omega⟩
      · as_aux_lemma =>
        obtain rfl : k = 60 := by omega
        have hmx : (60 : Int) < (al : Int) := by omega
        clear hal
        have hI' := hI
        obtain ⟨ma, ml, mc, ca, cl, cc, rfl, rfl⟩ := hR.any
        obtain ⟨cs, hfs, hc, hst⟩ := hR.cr
        have hcl : cs.length = cl := by
          obtain ⟨_, _, e⟩ := hc.shape
          simp only [Value.slice.injEq] at e
          exact e.2.1.symm
        have hml : ∀ x ∈ cs, x.1 ∈ R.clss := fun x hx => by rw [← hfs]; exact List.mem_map_of_mem hx
        have hcl32 : cl ≤ 32 := by
          have := hI.cl
          rw [← hfs, List.length_map, hcl] at this
          exact this
        have HKT := hid (fun (x : CV) (hx : x ∈ cs) => keep_t hI (hml x hx))
        have HKS := hid (fun (x : CV) (hx : x ∈ cs) (s : B) (hs : s ∈ x.1.students) => keep_s hI (hml x hx) hs)
        have HTE := hid (fun (x : CV) (hx : x ∈ cs) (s : B) (hs : s ∈ x.1.students) => keep_te (R := R) (hml x hx) hs)
        have HLT := hid (fun (x : CV) (hx : x ∈ cs) => keep_lt hI (hml x hx))
        have HSN := hid (fun (x : CV) (hx : x ∈ cs) => hI.students (hml x hx))
        have HMB := hid (fun w1 (hf : Frm No wr w1) (n : B) (m : Mem) (he : find Mem.name R.mems n = some m) => member_is (hR.no hf) hI he)
        have HTS := hid (fun w1 (hf : Frm No wr w1) (t s : B) => teaches_any R _ _ t s w1 (hR.no hf) hI)
        have HC := hid (fun w1 (hf : Frm No wr w1) => hc.frm (fun _ _ => rfl) hf (fun _ _ h => h))
        have HST := hid (fun w1 (hf : Frm No wr w1) (x : CV) (hx : x ∈ cs) => (hst x hx).frm (fun _ _ => rfl) hf (fun _ _ h => h))
        have HB := hid hB
        have HCL := hid hcl
        obtain ⟨wl, hwl⟩ : ∃ wl, wr = wl := ⟨_, rfl⟩
        rw [hwl] at HMB HTS HC HST HB ⊢
        clear hB hR hI hI' hc hst hfs hcl hml HD HDO HLG hwl
        have kE := HB.out.cell
        go_wp2_with fail
        go_loopw [7, 8, 9, 10, 11, 12] (fun iv _ _ _ _ _ wr => ∃ i : Nat, i ≤ cl ∧ iv = .int .i64 (i : Int) ∧ Frm No wl wr)
          (fun iv _ _ _ _ _ _ => cl - (intOf iv).toNat)
        case atStart => exact ⟨0, by omega, rfl, Frm.refl _ _⟩
        case round =>
          clear kE
          obtain ⟨i, hi, rfl, hf⟩ := hrel
          have kE0 := (HB.out.no hf).cell 0
          have kE1 := (HB.out.no hf).cell 1
          simp only [List.getElem?_cons_zero, List.getElem?_cons_succ] at kE0 kE1
          by_cases hil : i < cl
          · as_aux_lemma =>
            have hil2 : i < cs.length := by rw [HCL.out]; exact hil
            have hilz : (i : Int) < (cl : Int) := by omega
            have hcr : RdL wr (.slice ca cs.length cc) 3 clsV cs := by rw [HCL.out]; exact HC.out wr hf
            obtain ⟨g, o, hca, hcc⟩ := hcr.at_ (by omega)
            have q1 := hcc i hil2 1 (by omega)
            have q2 := hcc i hil2 2 (by omega)
            have hmem := List.getElem_mem hil2
            have hst2 := HST.out wr hf _ hmem
            have hkt := HKT.out _ hmem
            have hks := HKS.out _ hmem
            have hte := HTE.out _ hmem
            have hlt := HLT.out _ hmem
            have hsn := HSN.out _ hmem
            obtain ⟨y, hy⟩ : ∃ y, cs[i] = y := ⟨_, rfl⟩
            rw [hy] at q1 q2 hst2 hkt hks hte hlt hsn
            obtain ⟨⟨xn, xt, xs⟩, xo, xc⟩ := y
            dsimp only at hkt hks hte hlt hsn
            simp only [clsV, sv, List.getElem?_cons_zero, List.getElem?_cons_succ, ← Nat.add_assoc] at q1 q2 hst2
            subst hca
            obtain ⟨m, hfm, hm2, hmn⟩ := hkt
            have HM := hid (fun w1 (hf1 : Frm No wr w1) => HMB.out w1 (hf.thenNo hf1) xt m hfm)
            obtain ⟨mn, mr, mq⟩ := m
            dsimp only at hm2 hmn
            subst hm2 hmn
            dsimp only at HM
            have hEl := HB.out.lC
            have hEl2 : E < wr.heap.size := by have := hf.size; omega
            have hgl : g < wr.heap.size := World.block_lt_of_cell? (u := .string ⟨mn.toArray⟩) wr ⟨g, o + i * 3 + 1, none⟩ q1
            have SK : Hid (∀ w', Frm No wr w' → w'.cell? ⟨E, 0, none⟩ = some (.slice ma ml mc) ∧ w'.cell? ⟨E, 1, none⟩ = some (.slice (some ⟨g, o, none⟩) cl cc) ∧ w'.cell? ⟨g, o + i * 3 + 1, none⟩ = some (.string ⟨mn.toArray⟩)) := hid fun w' hf => ⟨(hf.cell (p := ⟨E, 0, none⟩) hEl2 (fun h => h)).trans kE0, (hf.cell (p := ⟨E, 1, none⟩) hEl2 (fun h => h)).trans kE1, (hf.cell (p := ⟨g, o + i * 3 + 1, none⟩) hgl (fun h => h)).trans q1⟩
            have HFw := hid (HB.out.frm.thenNo hf)
            have HF := hid hf
            have HQ2 := hid q2
            have HS2 := hid hst2
            have HKS2 := hid hks
            have HTE2 := hid hte
            have HLT2 := hid hlt
            have HSN2 := hid hsn
            have HY := hid hy
            clear q1 q2 hst2 hks hte hlt hsn hy hf hfm hcr hcc hmem HKT HKS HTE HLT HSN HC HST
            go_upto_region 15 with fail
            go_cut [8, 9] from 49 to 59 (fun p q wq => MbP w wr ⟨mn, 2, mq⟩ p q wq)
            case first =>
              as_aux_lemma =>
                refine wp_region_late (fun w' => w'.cell? ⟨E, 0, none⟩ = some (.slice ma ml mc) ∧ w'.cell? ⟨E, 1, none⟩ = some (.slice (some ⟨g, o, none⟩) cl cc) ∧ w'.cell? ⟨g, o + i * 3 + 1, none⟩ = some (.string ⟨mn.toArray⟩)) [12] (by kernel_rfl) (SK.out _ (Frm.refl _ _).drew) (fun hHeld => ?_)
                refine wpLate_take [7, 8, 9, 10, 12, 13] (i := 0) (oi := _) (v := _) rfl (by kernel_rfl) (by kernel_rfl) (by kernel_rfl) (by kernel_rfl) (by kernel_rfl) (fun _ _ _ h => h) (Or.inl ⟨by rfl, by intro w hSw; (try dsimp only at hSw); go_simp; all_goals with_reducible rfl⟩) (by assumption) ?_
                (try simp only [Act.put, List.getElem_toArray, List.getElem_cons_zero, List.setIfInBounds_toArray, List.set_cons_zero, List.set_cons_succ])
                refine wpLate_take0 (i := 1) (oi := _) (v := _) rfl (by kernel_rfl) (by kernel_rfl) (by kernel_rfl) (by kernel_rfl) (fun _ _ _ h => h) (Or.inl ⟨by rfl, by intro w _; go_simp; all_goals with_reducible rfl⟩) (fun _ => by assumption) ?_
                (try simp only [Act.put, List.getElem_toArray, List.getElem_cons_succ, List.getElem_cons_zero, List.setIfInBounds_toArray, List.set_cons_zero, List.set_cons_succ])
                refine wpLate_take [4, 5, 6, 7, 8, 9, 10, 12, 13] (i := 2) (oi := _) (v := _) rfl (by kernel_rfl) (by kernel_rfl) (by kernel_rfl) (by kernel_rfl) (by kernel_rfl) (fun _ _ _ h => h) (Or.inl ⟨by rfl, by intro w hSw; (try dsimp only at hSw); go_simp; all_goals with_reducible rfl⟩) (by assumption) ?_
                (try simp only [Act.put, List.getElem_toArray, List.getElem_cons_succ, List.getElem_cons_zero, List.setIfInBounds_toArray, List.set_cons_zero, List.set_cons_succ])
                refine wpLate_take0 (i := 3) (oi := _) (v := _) rfl (by kernel_rfl) (by kernel_rfl) (by kernel_rfl) (by kernel_rfl) (fun _ _ _ h => h) (Or.inl ⟨by rfl, by intro w _; go_simp; all_goals with_reducible rfl⟩) (fun _ => by assumption) ?_
                (try simp only [Act.put, List.getElem_toArray, List.getElem_cons_succ, List.getElem_cons_zero, List.setIfInBounds_toArray, List.set_cons_zero, List.set_cons_succ])
                refine wpLate_take0 (i := 4) (oi := _) (v := _) rfl (by kernel_rfl) (by kernel_rfl) (by kernel_rfl) (by kernel_rfl) (fun _ _ _ h => h) (Or.inl ⟨by rfl, by intro w _; go_simp; all_goals with_reducible rfl⟩) (fun _ => by assumption) ?_
                (try simp only [Act.put, List.getElem_toArray, List.getElem_cons_succ, List.getElem_cons_zero, List.setIfInBounds_toArray, List.set_cons_zero, List.set_cons_succ])
                refine wpLate_take0 (i := 5) (oi := _) (v := _) rfl (by kernel_rfl) (by kernel_rfl) (by kernel_rfl) (by kernel_rfl) (fun _ _ _ h => h) (Or.inl ⟨by rfl, by intro w _; go_simp; all_goals with_reducible rfl⟩) (fun _ => by assumption) ?_
                (try simp only [Act.put, List.getElem_toArray, List.getElem_cons_succ, List.getElem_cons_zero, List.setIfInBounds_toArray, List.set_cons_zero, List.set_cons_succ])
                refine wpLate_take [7, 8, 9, 10, 12, 13] (i := 6) (oi := _) (v := _) rfl (by kernel_rfl) (by kernel_rfl) (by kernel_rfl) (by kernel_rfl) (by kernel_rfl) (fun _ _ _ h => h) (Or.inl ⟨by rfl, by intro w hSw; (try dsimp only at hSw); go_simp; all_goals with_reducible rfl⟩) (by assumption) ?_
                (try simp only [Act.put, List.getElem_toArray, List.getElem_cons_succ, List.getElem_cons_zero, List.setIfInBounds_toArray, List.set_cons_zero, List.set_cons_succ])
                refine wpLate_ready (rs := [7, 11]) (by kernel_rfl) (by simp) ?_
                refine (AllReadyL.cons (i := 7) rfl (fun K hK => ?_) (AllReadyL.cons (i := 11) rfl (fun K hK => ?_) AllReadyL.nil))
                · simp only [List.getElem_toArray, List.getElem_cons_succ, List.getElem_cons_zero]
                  go_simp
                  refine (HM.out _ ((Frm.refl No wr).drew)).mono ?_; rintro e wa ⟨rfl, hfa0⟩; have hfa := (Frm.refl No wr).drew.thenNo hfa0
                  refine hK.out _ _ (SK.out _ hfa) (fun hHeld => ?_)
                  clear hK K
                  (try simp only [Act.put, List.getElem_toArray, List.getElem_cons_succ, List.getElem_cons_zero, List.setIfInBounds_toArray, List.set_cons_zero, List.set_cons_succ])
                  refine wpLate_take0 (i := 8) (oi := _) (v := _) rfl (by kernel_rfl) (by kernel_rfl) (by kernel_rfl) (by kernel_rfl) (fun _ _ _ h => h) (Or.inl ⟨by rfl, by intro w _; go_simp; all_goals with_reducible rfl⟩) (fun _ => by assumption) ?_
                  (try simp only [Act.put, List.getElem_toArray, List.getElem_cons_succ, List.getElem_cons_zero, List.setIfInBounds_toArray, List.set_cons_zero, List.set_cons_succ])
                  refine wpLate_take0 (i := 9) (oi := _) (v := _) rfl (by kernel_rfl) (by kernel_rfl) (by kernel_rfl) (by kernel_rfl) (fun _ _ _ h => h) (Or.inl ⟨by rfl, by intro w _; go_simp; all_goals with_reducible rfl⟩) (fun _ => by assumption) ?_
                  (try simp only [Act.put, List.getElem_toArray, List.getElem_cons_succ, List.getElem_cons_zero, List.setIfInBounds_toArray, List.set_cons_zero, List.set_cons_succ])
                  refine wpLate_take0 (i := 10) (oi := _) (v := _) rfl (by kernel_rfl) (by kernel_rfl) (by kernel_rfl) (by kernel_rfl) (fun _ _ _ h => h) (Or.inl ⟨by rfl, by intro w _; go_simp; all_goals with_reducible rfl⟩) (fun _ => by assumption) ?_
                  (try simp only [Act.put, List.getElem_toArray, List.getElem_cons_succ, List.getElem_cons_zero, List.setIfInBounds_toArray, List.set_cons_zero, List.set_cons_succ])
                  refine wpLate_ready (rs := [11]) (by kernel_rfl) (by simp) ?_
                  refine (AllReadyL.cons (i := 11) rfl (fun K hK => ?_) AllReadyL.nil)
                  simp only [List.getElem_toArray, List.getElem_cons_succ, List.getElem_cons_zero]
                  go_simp
                  refine hK.out _ _ (SK.out _ (hfa.alloc _)) (fun hHeld => ?_)
                  clear hK K
                  (try simp only [Act.put, List.getElem_toArray, List.getElem_cons_succ, List.getElem_cons_zero, List.setIfInBounds_toArray, List.set_cons_zero, List.set_cons_succ])
                  refine wpLate_ready (rs := [12]) (by kernel_rfl) (by simp) ?_
                  refine (AllReadyL.late (i := 12) rfl (by kernel_rfl) (fun K hK => ?_) AllReadyL.nil)
                  simp only [List.getElem_toArray, List.getElem_cons_succ, List.getElem_cons_zero]
                  go_simp
                  refine hK.out _ _ ?_
                  clear hK K
                  (try simp only [Act.put, List.getElem_toArray, List.getElem_cons_succ, List.getElem_cons_zero, List.setIfInBounds_toArray, List.set_cons_zero, List.set_cons_succ])
                  refine wpLate_ready (rs := [13]) (by kernel_rfl) (by simp) ?_
                  refine (AllReadyL.late (i := 13) rfl (by kernel_rfl) (fun K hK => ?_) AllReadyL.nil)
                  simp only [List.getElem_toArray, List.getElem_cons_succ, List.getElem_cons_zero]
                  go_simp
                  refine hK.out _ _ ?_
                  clear hK K
                  (try simp only [Act.put, List.getElem_toArray, List.getElem_cons_succ, List.getElem_cons_zero, List.setIfInBounds_toArray, List.set_cons_zero, List.set_cons_succ])
                  refine wpLate_done (by kernel_rfl) ?_ _
                  dsimp only [Exit.then]; go_step; go_meet
                  exact mb_end1 (HFw.out.thenNo hfa) hfa
                · simp only [List.getElem_toArray, List.getElem_cons_succ, List.getElem_cons_zero]
                  go_simp
                  refine hK.out _ _ (SK.out _ ((Frm.refl No _).drew.alloc _)) (fun hHeld => ?_)
                  clear hK K
                  (try simp only [Act.put, List.getElem_toArray, List.getElem_cons_succ, List.getElem_cons_zero, List.setIfInBounds_toArray, List.set_cons_zero, List.set_cons_succ])
                  refine wpLate_ready (rs := [7]) (by kernel_rfl) (by simp) ?_
                  refine (AllReadyL.cons (i := 7) rfl (fun K hK => ?_) AllReadyL.nil)
                  simp only [List.getElem_toArray, List.getElem_cons_succ, List.getElem_cons_zero]
                  go_simp
                  refine (HM.out _ ((Frm.refl No wr).drew.alloc _)).mono ?_; rintro e wb ⟨rfl, hfb0⟩; have hfb := ((Frm.refl No wr).drew.alloc _).thenNo hfb0; have BXb := (Box.new (HFw.out.drew) [.string ByteArray.empty, .int .i64 0, .int .i64 0] 43).no hfb0
                  refine hK.out _ _ (SK.out _ hfb) (fun hHeld => ?_)
                  clear hK K
                  (try simp only [Act.put, List.getElem_toArray, List.getElem_cons_succ, List.getElem_cons_zero, List.setIfInBounds_toArray, List.set_cons_zero, List.set_cons_succ])
                  refine wpLate_take0 (i := 8) (oi := _) (v := _) rfl (by kernel_rfl) (by kernel_rfl) (by kernel_rfl) (by kernel_rfl) (fun _ _ _ h => h) (Or.inl ⟨by rfl, by intro w _; go_simp; all_goals with_reducible rfl⟩) (fun _ => by assumption) ?_
                  (try simp only [Act.put, List.getElem_toArray, List.getElem_cons_succ, List.getElem_cons_zero, List.setIfInBounds_toArray, List.set_cons_zero, List.set_cons_succ])
                  refine wpLate_take0 (i := 9) (oi := _) (v := _) rfl (by kernel_rfl) (by kernel_rfl) (by kernel_rfl) (by kernel_rfl) (fun _ _ _ h => h) (Or.inl ⟨by rfl, by intro w _; go_simp; all_goals with_reducible rfl⟩) (fun _ => by assumption) ?_
                  (try simp only [Act.put, List.getElem_toArray, List.getElem_cons_succ, List.getElem_cons_zero, List.setIfInBounds_toArray, List.set_cons_zero, List.set_cons_succ])
                  refine wpLate_take0 (i := 10) (oi := _) (v := _) rfl (by kernel_rfl) (by kernel_rfl) (by kernel_rfl) (by kernel_rfl) (fun _ _ _ h => h) (Or.inl ⟨by rfl, by intro w _; go_simp; all_goals with_reducible rfl⟩) (fun _ => by assumption) ?_
                  (try simp only [Act.put, List.getElem_toArray, List.getElem_cons_succ, List.getElem_cons_zero, List.setIfInBounds_toArray, List.set_cons_zero, List.set_cons_succ])
                  have cX : ∀ j, wb.cell? ⟨wr.heap.size, j, none⟩ = ([.string ByteArray.empty, .int .i64 0, .int .i64 0] : List Value)[j]? := BXb.cell
                  have fX : ∀ j, wb.frozen? ⟨wr.heap.size, j, none⟩ = false := BXb.fr
                  refine wpLate_ready (rs := [12]) (by kernel_rfl) (by simp) ?_
                  refine (AllReadyL.late (i := 12) rfl (by kernel_rfl) (fun K hK => ?_) AllReadyL.nil)
                  simp only [List.getElem_toArray, List.getElem_cons_succ, List.getElem_cons_zero]
                  go_simp
                  refine hK.out _ _ ?_
                  clear hK K
                  (try simp only [Act.put, List.getElem_toArray, List.getElem_cons_succ, List.getElem_cons_zero, List.setIfInBounds_toArray, List.set_cons_zero, List.set_cons_succ])
                  refine wpLate_ready (rs := [13]) (by kernel_rfl) (by simp) ?_
                  refine (AllReadyL.late (i := 13) rfl (by kernel_rfl) (fun K hK => ?_) AllReadyL.nil)
                  simp only [List.getElem_toArray, List.getElem_cons_succ, List.getElem_cons_zero]
                  go_simp
                  refine hK.out _ _ ?_
                  clear hK K
                  (try simp only [Act.put, List.getElem_toArray, List.getElem_cons_succ, List.getElem_cons_zero, List.setIfInBounds_toArray, List.set_cons_zero, List.set_cons_succ])
                  refine wpLate_done (by kernel_rfl) ?_ _
                  dsimp only [Exit.then]; go_step; go_meet
                  exact mb_end (F := wr.heap.size) BXb hfb (Nat.le_refl _)
            case rest =>
              as_aux_lemma =>
                obtain ⟨F, rfl, rfl, hBF, hfq⟩ := hcut
                have kF := hBF.cell
                have kF0 := kF 0
                have kF1 := kF 1
                simp only [memV, List.getElem?_cons_zero, List.getElem?_cons_succ] at kF0 kF1
                have HBF := hid hBF
                have HFQ := hid (HF.out.thenNo hfq)
                have HQ := hid (fun (w' : World) (hf : Frm No wc w') => (show w'.cell? ⟨E, 0, none⟩ = some (.slice ma ml mc) ∧ w'.cell? ⟨E, 1, none⟩ = some (.slice (some ⟨g, o, none⟩) cl cc) ∧ w'.cell? ⟨g, o + i * 3 + 2, none⟩ = some (.slice xo xs.length xc) from ⟨(SK.out w' (hfq.thenNo hf)).1, (SK.out w' (hfq.thenNo hf)).2.1, ((hfq.thenNo hf).cell (p := ⟨g, o + i * 3 + 2, none⟩) hgl (fun h => h)).trans HQ2.out⟩))
                have HS3 := hid (fun (w' : World) (hf : Frm No wc w') => HS2.out.frm (fun _ _ => rfl) (hfq.thenNo hf) (fun _ _ h => h))
                have hgl3 : g < wc.heap.size := by have := hfq.size; omega
                have hEl3 : E < wc.heap.size := by have := hfq.size; omega
                have HFw3 := hid (HFw.out.thenNo hfq)
                clear kF hBF hfq HQ2 HS2 SK HM
                obtain ⟨sl, hsl⟩ : ∃ sl, xs.length = sl := ⟨_, rfl⟩
                have HSL := hid hsl
                rw [hsl] at HQ HSN2
                rw [hsl] at HS3
                clear hsl
                go_wp2_with fail
                clear kF0 kF1
                go_loopw [10, 11, 12] (fun kv _ _ wr2 => ∃ k : Nat, k ≤ sl ∧ kv = .int .i64 (k : Int) ∧ Frm No wc wr2)
                  (fun kv _ _ _ => sl - (intOf kv).toNat)
                case atStart => exact ⟨0, by omega, rfl, Frm.refl _ _⟩
                case round =>
                  obtain ⟨k, hk, rfl, hf⟩ := hrel
                  obtain ⟨r0, r1, r2⟩ := HQ.out wr hf
                  by_cases hkl : k < sl
                  · as_aux_lemma =>
                    have hkz : (k : Int) < (sl : Int) := by omega
                    have hkx : k < xs.length := by rw [HSL.out]; exact hkl
                    have hs3 : RdL wr (.slice xo xs.length xc) 1 strV xs := by rw [HSL.out]; exact HS3.out wr hf
                    obtain ⟨g2, o2, hxo, hsc⟩ := hs3.at_ (by omega)
                    subst hxo
                    have hsk := hsc k hkx 0 (by omega)
                    simp only [strV, List.getElem?_cons_zero, Nat.mul_one, Nat.add_zero] at hsk
                    have hg2l : g2 < wr.heap.size := World.block_lt_of_cell? wr _ hsk
                    obtain ⟨m2, hfm2, hm2r, hm2n⟩ := HKS2.out _ (List.getElem_mem hkx)
                    have HM2 := hid (fun w1 (hf1 : Frm No wr w1) => HMB.out w1 (HFQ.out.thenNo (hf.thenNo hf1)) _ m2 hfm2)
                    have hte := HTE2.out _ (List.getElem_mem hkx)
                    obtain ⟨s, hs⟩ : ∃ s, xs[k] = s := ⟨_, rfl⟩
                    rw [hs] at hsk hm2n hte HM2
                    obtain ⟨m2n, m2r, m2q⟩ := m2
                    dsimp only at hm2r hm2n
                    subst hm2r hm2n
                    dsimp only at HM2
                    have hgw : g < wr.heap.size := by have := hf.size; omega
                    have hEw : E < wr.heap.size := by have := hf.size; omega
                    have SK : Hid (∀ w', Frm No wr w' → w'.cell? ⟨E, 0, none⟩ = some (.slice ma ml mc) ∧ w'.cell? ⟨E, 1, none⟩ = some (.slice (some ⟨g, o, none⟩) cl cc) ∧ w'.cell? ⟨g, o + i * 3 + 2, none⟩ = some (.slice (some ⟨g2, o2, none⟩) sl xc) ∧ w'.cell? ⟨g2, o2 + k, none⟩ = some (.string ⟨m2n.toArray⟩)) := hid fun w' hf => ⟨(hf.cell (p := ⟨E, 0, none⟩) hEw (fun h => h)).trans r0, (hf.cell (p := ⟨E, 1, none⟩) hEw (fun h => h)).trans r1, (hf.cell (p := ⟨g, o + i * 3 + 2, none⟩) hgw (fun h => h)).trans r2, (hf.cell (p := ⟨g2, o2 + k, none⟩) hg2l (fun h => h)).trans hsk⟩
                    have HFw2 := hid (HFw3.out.thenNo hf)
                    have HF2 := hid hf
                    have HSC := hid hsc
                    have HSE := hid hs
                    have HTEk := hid hte
                    clear hs3 hsc hsk hfm2 hte hs hf
                    go_upto_region 21 with fail
                    go_cut [11, 12] from 78 to 91 (fun p q wq => MbP w wr ⟨m2n, 1, m2q⟩ p q wq)
                    case first =>
                      as_aux_lemma =>
                        refine wp_region_late (fun w' => w'.cell? ⟨E, 0, none⟩ = some (.slice ma ml mc) ∧ w'.cell? ⟨E, 1, none⟩ = some (.slice (some ⟨g, o, none⟩) cl cc) ∧ w'.cell? ⟨g, o + i * 3 + 2, none⟩ = some (.slice (some ⟨g2, o2, none⟩) sl xc) ∧ w'.cell? ⟨g2, o2 + k, none⟩ = some (.string ⟨m2n.toArray⟩)) [15] (by kernel_rfl) (SK.out _ (Frm.refl _ _).drew) (fun hHeld => ?_)
                        refine wpLate_take [10, 11, 12, 13, 15, 16] (i := 0) (oi := _) (v := _) rfl (by kernel_rfl) (by kernel_rfl) (by kernel_rfl) (by kernel_rfl) (by kernel_rfl) (fun _ _ _ h => h) (Or.inl ⟨by rfl, by intro w hSw; (try dsimp only at hSw); go_simp; all_goals with_reducible rfl⟩) (by assumption) ?_
                        (try simp only [Act.put, List.getElem_toArray, List.getElem_cons_zero, List.setIfInBounds_toArray, List.set_cons_zero, List.set_cons_succ])
                        refine wpLate_take0 (i := 1) (oi := _) (v := _) rfl (by kernel_rfl) (by kernel_rfl) (by kernel_rfl) (by kernel_rfl) (fun _ _ _ h => h) (Or.inl ⟨by rfl, by intro w _; go_simp; all_goals with_reducible rfl⟩) (fun _ => by assumption) ?_
                        (try simp only [Act.put, List.getElem_toArray, List.getElem_cons_succ, List.getElem_cons_zero, List.setIfInBounds_toArray, List.set_cons_zero, List.set_cons_succ])
                        refine wpLate_take [4, 5, 6, 8, 9, 10, 11, 12, 13, 15, 16] (i := 2) (oi := _) (v := _) rfl (by kernel_rfl) (by kernel_rfl) (by kernel_rfl) (by kernel_rfl) (by kernel_rfl) (fun _ _ _ h => h) (Or.inl ⟨by rfl, by intro w hSw; (try dsimp only at hSw); go_simp; all_goals with_reducible rfl⟩) (by assumption) ?_
                        (try simp only [Act.put, List.getElem_toArray, List.getElem_cons_succ, List.getElem_cons_zero, List.setIfInBounds_toArray, List.set_cons_zero, List.set_cons_succ])
                        refine wpLate_take0 (i := 3) (oi := _) (v := _) rfl (by kernel_rfl) (by kernel_rfl) (by kernel_rfl) (by kernel_rfl) (fun _ _ _ h => h) (Or.inl ⟨by rfl, by intro w _; go_simp; all_goals with_reducible rfl⟩) (fun _ => by assumption) ?_
                        (try simp only [Act.put, List.getElem_toArray, List.getElem_cons_succ, List.getElem_cons_zero, List.setIfInBounds_toArray, List.set_cons_zero, List.set_cons_succ])
                        refine wpLate_take0 (i := 4) (oi := _) (v := _) rfl (by kernel_rfl) (by kernel_rfl) (by kernel_rfl) (by kernel_rfl) (fun _ _ _ h => h) (Or.inl ⟨by rfl, by intro w _; go_simp; all_goals with_reducible rfl⟩) (fun _ => by assumption) ?_
                        (try simp only [Act.put, List.getElem_toArray, List.getElem_cons_succ, List.getElem_cons_zero, List.setIfInBounds_toArray, List.set_cons_zero, List.set_cons_succ])
                        refine wpLate_take0 (i := 5) (oi := _) (v := _) rfl (by kernel_rfl) (by kernel_rfl) (by kernel_rfl) (by kernel_rfl) (fun _ _ _ h => h) (Or.inl ⟨by rfl, by intro w _; go_simp; all_goals with_reducible rfl⟩) (fun _ => by assumption) ?_
                        (try simp only [Act.put, List.getElem_toArray, List.getElem_cons_succ, List.getElem_cons_zero, List.setIfInBounds_toArray, List.set_cons_zero, List.set_cons_succ])
                        refine wpLate_take [8, 9, 10, 11, 12, 13, 15, 16] (i := 6) (oi := _) (v := _) rfl (by kernel_rfl) (by kernel_rfl) (by kernel_rfl) (by kernel_rfl) (by kernel_rfl) (fun _ _ _ h => h) (Or.inl ⟨by rfl, by intro w hSw; (try dsimp only at hSw); go_simp; all_goals with_reducible rfl⟩) (by assumption) ?_
                        (try simp only [Act.put, List.getElem_toArray, List.getElem_cons_succ, List.getElem_cons_zero, List.setIfInBounds_toArray, List.set_cons_zero, List.set_cons_succ])
                        refine wpLate_take0 (i := 7) (oi := _) (v := _) rfl (by kernel_rfl) (by kernel_rfl) (by kernel_rfl) (by kernel_rfl) (fun _ _ _ h => h) (Or.inl ⟨by rfl, by intro w _; go_simp; all_goals with_reducible rfl⟩) (fun _ => by assumption) ?_
                        (try simp only [Act.put, List.getElem_toArray, List.getElem_cons_succ, List.getElem_cons_zero, List.setIfInBounds_toArray, List.set_cons_zero, List.set_cons_succ])
                        refine wpLate_take0 (i := 8) (oi := _) (v := _) rfl (by kernel_rfl) (by kernel_rfl) (by kernel_rfl) (by kernel_rfl) (fun _ _ _ h => h) (Or.inl ⟨by rfl, by intro w _; go_simp; all_goals with_reducible rfl⟩) (fun _ => by assumption) ?_
                        (try simp only [Act.put, List.getElem_toArray, List.getElem_cons_succ, List.getElem_cons_zero, List.setIfInBounds_toArray, List.set_cons_zero, List.set_cons_succ])
                        refine wpLate_take [10, 11, 12, 13, 15, 16] (i := 9) (oi := _) (v := _) rfl (by kernel_rfl) (by kernel_rfl) (by kernel_rfl) (by kernel_rfl) (by kernel_rfl) (fun _ _ _ h => h) (Or.inl ⟨by rfl, by intro w hSw; (try dsimp only at hSw); go_simp; all_goals with_reducible rfl⟩) (by assumption) ?_
                        (try simp only [Act.put, List.getElem_toArray, List.getElem_cons_succ, List.getElem_cons_zero, List.setIfInBounds_toArray, List.set_cons_zero, List.set_cons_succ])
                        refine wpLate_ready (rs := [10, 14]) (by kernel_rfl) (by simp) ?_
                        refine (AllReadyL.cons (i := 10) rfl (fun K hK => ?_) (AllReadyL.cons (i := 14) rfl (fun K hK => ?_) AllReadyL.nil))
                        · simp only [List.getElem_toArray, List.getElem_cons_succ, List.getElem_cons_zero]
                          go_simp
                          refine (HM2.out _ ((Frm.refl No wr).drew)).mono ?_; rintro e wa ⟨rfl, hfa0⟩; have hfa := (Frm.refl No wr).drew.thenNo hfa0
                          refine hK.out _ _ (SK.out _ hfa) (fun hHeld => ?_)
                          clear hK K
                          (try simp only [Act.put, List.getElem_toArray, List.getElem_cons_succ, List.getElem_cons_zero, List.setIfInBounds_toArray, List.set_cons_zero, List.set_cons_succ])
                          refine wpLate_take0 (i := 11) (oi := _) (v := _) rfl (by kernel_rfl) (by kernel_rfl) (by kernel_rfl) (by kernel_rfl) (fun _ _ _ h => h) (Or.inl ⟨by rfl, by intro w _; go_simp; all_goals with_reducible rfl⟩) (fun _ => by assumption) ?_
                          (try simp only [Act.put, List.getElem_toArray, List.getElem_cons_succ, List.getElem_cons_zero, List.setIfInBounds_toArray, List.set_cons_zero, List.set_cons_succ])
                          refine wpLate_take0 (i := 12) (oi := _) (v := _) rfl (by kernel_rfl) (by kernel_rfl) (by kernel_rfl) (by kernel_rfl) (fun _ _ _ h => h) (Or.inl ⟨by rfl, by intro w _; go_simp; all_goals with_reducible rfl⟩) (fun _ => by assumption) ?_
                          (try simp only [Act.put, List.getElem_toArray, List.getElem_cons_succ, List.getElem_cons_zero, List.setIfInBounds_toArray, List.set_cons_zero, List.set_cons_succ])
                          refine wpLate_take0 (i := 13) (oi := _) (v := _) rfl (by kernel_rfl) (by kernel_rfl) (by kernel_rfl) (by kernel_rfl) (fun _ _ _ h => h) (Or.inl ⟨by rfl, by intro w _; go_simp; all_goals with_reducible rfl⟩) (fun _ => by assumption) ?_
                          (try simp only [Act.put, List.getElem_toArray, List.getElem_cons_succ, List.getElem_cons_zero, List.setIfInBounds_toArray, List.set_cons_zero, List.set_cons_succ])
                          refine wpLate_ready (rs := [14]) (by kernel_rfl) (by simp) ?_
                          refine (AllReadyL.cons (i := 14) rfl (fun K hK => ?_) AllReadyL.nil)
                          simp only [List.getElem_toArray, List.getElem_cons_succ, List.getElem_cons_zero]
                          go_simp
                          refine hK.out _ _ (SK.out _ (hfa.alloc _)) (fun hHeld => ?_)
                          clear hK K
                          (try simp only [Act.put, List.getElem_toArray, List.getElem_cons_succ, List.getElem_cons_zero, List.setIfInBounds_toArray, List.set_cons_zero, List.set_cons_succ])
                          refine wpLate_ready (rs := [15]) (by kernel_rfl) (by simp) ?_
                          refine (AllReadyL.late (i := 15) rfl (by kernel_rfl) (fun K hK => ?_) AllReadyL.nil)
                          simp only [List.getElem_toArray, List.getElem_cons_succ, List.getElem_cons_zero]
                          go_simp
                          refine hK.out _ _ ?_
                          clear hK K
                          (try simp only [Act.put, List.getElem_toArray, List.getElem_cons_succ, List.getElem_cons_zero, List.setIfInBounds_toArray, List.set_cons_zero, List.set_cons_succ])
                          refine wpLate_ready (rs := [16]) (by kernel_rfl) (by simp) ?_
                          refine (AllReadyL.late (i := 16) rfl (by kernel_rfl) (fun K hK => ?_) AllReadyL.nil)
                          simp only [List.getElem_toArray, List.getElem_cons_succ, List.getElem_cons_zero]
                          go_simp
                          refine hK.out _ _ ?_
                          clear hK K
                          (try simp only [Act.put, List.getElem_toArray, List.getElem_cons_succ, List.getElem_cons_zero, List.setIfInBounds_toArray, List.set_cons_zero, List.set_cons_succ])
                          refine wpLate_done (by kernel_rfl) ?_ _
                          dsimp only [Exit.then]; go_step; go_meet
                          exact mb_end1 (HFw2.out.thenNo hfa) hfa
                        · simp only [List.getElem_toArray, List.getElem_cons_succ, List.getElem_cons_zero]
                          go_simp
                          refine hK.out _ _ (SK.out _ ((Frm.refl No _).drew.alloc _)) (fun hHeld => ?_)
                          clear hK K
                          (try simp only [Act.put, List.getElem_toArray, List.getElem_cons_succ, List.getElem_cons_zero, List.setIfInBounds_toArray, List.set_cons_zero, List.set_cons_succ])
                          refine wpLate_ready (rs := [10]) (by kernel_rfl) (by simp) ?_
                          refine (AllReadyL.cons (i := 10) rfl (fun K hK => ?_) AllReadyL.nil)
                          simp only [List.getElem_toArray, List.getElem_cons_succ, List.getElem_cons_zero]
                          go_simp
                          refine (HM2.out _ ((Frm.refl No wr).drew.alloc _)).mono ?_; rintro e wb ⟨rfl, hfb0⟩; have hfb := ((Frm.refl No wr).drew.alloc _).thenNo hfb0; have BXb := (Box.new (HFw2.out.drew) [.string ByteArray.empty, .int .i64 0, .int .i64 0] 43).no hfb0
                          refine hK.out _ _ (SK.out _ hfb) (fun hHeld => ?_)
                          clear hK K
                          (try simp only [Act.put, List.getElem_toArray, List.getElem_cons_succ, List.getElem_cons_zero, List.setIfInBounds_toArray, List.set_cons_zero, List.set_cons_succ])
                          refine wpLate_take0 (i := 11) (oi := _) (v := _) rfl (by kernel_rfl) (by kernel_rfl) (by kernel_rfl) (by kernel_rfl) (fun _ _ _ h => h) (Or.inl ⟨by rfl, by intro w _; go_simp; all_goals with_reducible rfl⟩) (fun _ => by assumption) ?_
                          (try simp only [Act.put, List.getElem_toArray, List.getElem_cons_succ, List.getElem_cons_zero, List.setIfInBounds_toArray, List.set_cons_zero, List.set_cons_succ])
                          refine wpLate_take0 (i := 12) (oi := _) (v := _) rfl (by kernel_rfl) (by kernel_rfl) (by kernel_rfl) (by kernel_rfl) (fun _ _ _ h => h) (Or.inl ⟨by rfl, by intro w _; go_simp; all_goals with_reducible rfl⟩) (fun _ => by assumption) ?_
                          (try simp only [Act.put, List.getElem_toArray, List.getElem_cons_succ, List.getElem_cons_zero, List.setIfInBounds_toArray, List.set_cons_zero, List.set_cons_succ])
                          refine wpLate_take0 (i := 13) (oi := _) (v := _) rfl (by kernel_rfl) (by kernel_rfl) (by kernel_rfl) (by kernel_rfl) (fun _ _ _ h => h) (Or.inl ⟨by rfl, by intro w _; go_simp; all_goals with_reducible rfl⟩) (fun _ => by assumption) ?_
                          (try simp only [Act.put, List.getElem_toArray, List.getElem_cons_succ, List.getElem_cons_zero, List.setIfInBounds_toArray, List.set_cons_zero, List.set_cons_succ])
                          have cX : ∀ j, wb.cell? ⟨wr.heap.size, j, none⟩ = ([.string ByteArray.empty, .int .i64 0, .int .i64 0] : List Value)[j]? := BXb.cell
                          have fX : ∀ j, wb.frozen? ⟨wr.heap.size, j, none⟩ = false := BXb.fr
                          refine wpLate_ready (rs := [15]) (by kernel_rfl) (by simp) ?_
                          refine (AllReadyL.late (i := 15) rfl (by kernel_rfl) (fun K hK => ?_) AllReadyL.nil)
                          simp only [List.getElem_toArray, List.getElem_cons_succ, List.getElem_cons_zero]
                          go_simp
                          refine hK.out _ _ ?_
                          clear hK K
                          (try simp only [Act.put, List.getElem_toArray, List.getElem_cons_succ, List.getElem_cons_zero, List.setIfInBounds_toArray, List.set_cons_zero, List.set_cons_succ])
                          refine wpLate_ready (rs := [16]) (by kernel_rfl) (by simp) ?_
                          refine (AllReadyL.late (i := 16) rfl (by kernel_rfl) (fun K hK => ?_) AllReadyL.nil)
                          simp only [List.getElem_toArray, List.getElem_cons_succ, List.getElem_cons_zero]
                          go_simp
                          refine hK.out _ _ ?_
                          clear hK K
                          (try simp only [Act.put, List.getElem_toArray, List.getElem_cons_succ, List.getElem_cons_zero, List.setIfInBounds_toArray, List.set_cons_zero, List.set_cons_succ])
                          refine wpLate_done (by kernel_rfl) ?_ _
                          dsimp only [Exit.then]; go_step; go_meet
                          exact mb_end (F := wr.heap.size) BXb hfb (Nat.le_refl _)
                    case rest =>
                      as_aux_lemma =>
                        obtain ⟨G, rfl, rfl, hBG, hfq⟩ := hcut
                        have HT := hid (fun (w' : World) (hf : Frm No wc w') => HTS.out w' (HFQ.out.thenNo (HF2.out.thenNo (hfq.thenNo hf))) mn m2n)
                        rw [HTEk.out] at HT
                        obtain ⟨s0, s1, s2, s3⟩ := SK.out wc hfq
                        have kF := (HBF.out.no (HF2.out.thenNo hfq)).cell 0
                        have kG0 := hBG.cell 0
                        have kG1 := hBG.cell 1
                        simp only [memV, List.getElem?_cons_zero, List.getElem?_cons_succ] at kF kG0 kG1
                        have HFin := hid (HFQ.out.thenNo (HF2.out.thenNo hfq))
                        have HFin2 := hid (HF2.out.thenNo hfq)
                        have d0 := Wd.cell s0
                        have d1 := Wd.cell s1
                        have d2 := Wd.cell s2
                        have d3 := Wd.cell s3
                        have dF := Wd.cell kF
                        have dG0 := Wd.cell kG0
                        have dG1 := Wd.cell kG1
                        rcases Nat.eq_zero_or_pos k with hk0 | hk0
                        · subst hk0
                          simp only [Nat.add_zero] at s3 d3
                          clear HSC SK HTS HMB HS3 HQ HKS2 HTE2 HLT2 HBF hBG HM2 HY hfq kE0 kE1 r0 r1 r2 kF kG0 kG1 s0 s1 s2 s3
                          go_upto_region 22 with fail
                          refine wp_region_frm (by kernel_rfl) (by kernel_rfl) ?_
                          repeat (go_big_quiet_step (exact Calls.wd (HT.out _ (Wd.frm _))))
                          refine wpQuiet_nil ?_
                          intro w9 hf9
                          clear d0 d1 d2 d3 dF dG0 dG1 HT
                          go_wp2_with fail
                          exact ⟨⟨0 + 1, by omega, by go_num, HFin2.out.thenNo hf9⟩, by simp only [intOf]; omega⟩
                        · obtain ⟨k', rfl⟩ : ∃ k', k = k' + 1 := ⟨k - 1, by omega⟩
                          have hlt := HLT2.out k' hkx
                          have hsc := (hfq.cell (p := ⟨g2, o2 + (k' * 1 + 0), none⟩) hg2l (fun h => h)).trans (HSC.out k' (by omega) 0 (by omega))
                          rw [HSE.out] at hlt
                          obtain ⟨sp, hsp⟩ : ∃ sp, xs[k'] = sp := ⟨_, rfl⟩
                          rw [hsp] at hlt hsc
                          simp only [strV, List.getElem?_cons_zero, Nat.mul_one, Nat.add_zero] at hsc
                          have d4 := Wd.cell hsc
                          have hle : Op.bytesLess m2n sp = false := by rw [less_eq]; simpa using lta hlt
                          have hle2 : (m2n == sp) = false := by
                            rw [beq_eq_false_iff_ne]
                            intro e
                            rw [e] at hlt
                            exact ltn _ hlt
                          have hk1 : ((k' + 1 : Nat) : Int) - 1 = (k' : Int) := by omega
                          have hk2 : (0 : Int) < ((k' + 1 : Nat) : Int) := by omega
                          have hk3 : (k' : Int) < (sl : Int) := by omega
                          have hk4 : (k' : Int) + 1 < (sl : Int) := by omega
                          have hk6 : k' ≤ 1000 := by have := HSN2.out; omega
                          clear HSC SK HTS HMB HS3 HQ HKS2 HTE2 HLT2 HBF hBG HM2 HY hfq kE0 kE1 r0 r1 r2 kF kG0 kG1 s0 s1 s2 s3 hsp hlt hsc
                          go_upto_region 22 with fail
                          refine wp_region_frm (by kernel_rfl) (by kernel_rfl) ?_
                          repeat (go_big_quiet_step (exact Calls.wd (HT.out _ (Wd.frm _))))
                          refine wpQuiet_nil ?_
                          intro w9 hf9
                          clear d0 d1 d2 d3 d4 dF dG0 dG1 HT
                          go_wp2_with fail
                          exact ⟨⟨k' + 1 + 1, by omega, by go_num, HFin2.out.thenNo hf9⟩, by simp only [intOf]; omega⟩
                  · as_aux_lemma =>
                    obtain rfl : k = sl := by omega
                    have hpz : ¬ (k : Int) < (k : Int) := by omega
                    have HF2 := hid (HFQ.out.thenNo hf)
                    clear hf HQ HS3 HBF HKS2 HTE2 HLT2 HMB HTS
                    go_wp2_with fail
                    exact ⟨⟨i + 1, by omega, by go_num, HF2.out⟩, by simp only [intOf]; omega⟩
          · as_aux_lemma =>
            obtain rfl : i = cl := by omega
            have hpz : ¬ (i : Int) < (i : Int) := by omega
            have HF := hid (HB.out.frm.thenNo hf)
            clear hf HMB HTS HC HST HB HKT HKS HTE HLT HSN
            go_wp2_with fail
            go_ret
            exact ⟨rfl, HF.out⟩
  · as_aux_lemma =>
    go_enter Try.func4, Try.ntmps4
    go_upto_region 4 with (go_at_call 7; refine (rollspeaks _).mono ?_; rintro e w1 ⟨rfl, hf1⟩)
    have BE := Box.new hf1 [.slice none 0 0, .slice none 0 0] 27
    obtain ⟨W, hW⟩ : ∃ W, W = w1.alloc (.cells #[.slice none 0 0, .slice none 0 0] 27) := ⟨_, rfl⟩
    rw [← hW] at BE ⊢
    clear hW
    obtain ⟨E, hE⟩ : ∃ E, w1.heap.size = E := ⟨_, rfl⟩
    rw [hE] at BE
    (try simp only [hE])
    clear hE hf1
    have HI : Hid (KpI w E W) := hid ⟨_, _, Roll.nil, BE, nil_rd W, inv_nil⟩
    clear BE
    go_wp2_with fail
    go_loopw [4, 5, 6] (fun i _ _ wr => ∃ k : Nat, k ≤ al ∧ i = .int .i64 (k : Int) ∧ KpI w E wr)
      (fun i _ _ _ => al - (intOf i).toNat)
    case atStart => exact ⟨0, by omega, rfl, HI.out⟩
    case round =>
      clear HI
      obtain ⟨k, hk, rfl, mv, cv, R, hB, hR, hI⟩ := hrel
      by_cases hkn : k < al
      · as_aux_lemma =>
        have hka : k < al := by omega
        have hkz : (k : Int) < (al : Int) := by omega
        have hk6 : (k : Int) < 60 := by omega
        have hk6' : k < 60 := by omega
        obtain ⟨b, o, rfl, hbw, q0, q1, q2, q3⟩ := HD.out wr hB.frm k (by rw [HAL.out]; exact hka)
        have hbr : b < wr.heap.size := by have := hB.frm.size; omega
        obtain ⟨d, hd⟩ : ∃ d, l[k]'(by rw [HAL.out]; exact hka) = d := ⟨_, rfl⟩
        simp only [hd] at q0 q1 q2 q3
        clear hd
        have HL := hid (fun w1 => HLG.out w1 d)
        obtain ⟨lg, hlg⟩ : ∃ lg, decide (200 < d.a.length ∨ 200 < d.b.length) = lg := ⟨_, rfl⟩
        rw [hlg] at HL
        have HB := hid hB
        have HR := hid hR
        cases lg
        case true =>
          clear hlg hB hR
          obtain ⟨x, da, db, dn⟩ := d
          dsimp only at q0 q1 q2 q3 HL
          go_wp2_with (go_at_call 12; refine (HL.out _).mono ?_; rintro e w2 ⟨rfl, hf2⟩)
          go_ret
          exact ⟨rfl, HB.out.frm.thenNo hf2⟩
        case false =>
          have hda : d.a.length ≤ 200 := by
            simp only [decide_eq_false_iff_not, not_or] at hlg
            omega
          have HDK := hid (fun w1 (hf : Frm No wr w1) => HDO.out w1 mv cv R d (hR.no hf) hI hda)
          have HINV := hid hI
          have HINV2 := hid (inv_deed hI d)
          obtain ⟨res, hres⟩ : ∃ res, deed R d = res := ⟨_, rfl⟩
          rw [hres] at HDK HINV2
          clear hres hlg hI hR hda
          obtain ⟨R2, er⟩ := res
          obtain ⟨x, da, db, dn⟩ := d
          dsimp only at q0 q1 q2 q3 HL HDK HINV2
          go_upto_region 9 with (go_at_call 12; refine (HL.out _).mono ?_; rintro e w2 ⟨rfl, hf2⟩)
          have B2 := HB.out.no hf2
          have HR2 := hid (HR.out.no hf2)
          have r0 := (hf2.cell (p := ⟨b, o + k * 4, none⟩) hbr (fun h => h)).trans q0
          have r1 := (hf2.cell (p := ⟨b, o + k * 4 + 1, none⟩) hbr (fun h => h)).trans q1
          have r2 := (hf2.cell (p := ⟨b, o + k * 4 + 2, none⟩) hbr (fun h => h)).trans q2
          have r3 := (hf2.cell (p := ⟨b, o + k * 4 + 3, none⟩) hbr (fun h => h)).trans q3
          have HDK2 := hid (fun w1 (hf : Frm No w2 w1) => HDK.out w1 (hf2.thenNo hf))
          obtain ⟨ma, ml, mc, ca, cl, cc, rfl, rfl⟩ := HR2.out.any
          have c0 := B2.cell 0
          have c1 := B2.cell 1
          simp only [List.getElem?_cons_zero, List.getElem?_cons_succ] at c0 c1
          have hb2 : b < w2.heap.size := by have := hf2.size; omega
          have hE2 := B2.lC
          have SK : Hid (∀ w', Frm No w2 w' → w'.cell? ⟨E, 0, none⟩ = some (.slice ma ml mc) ∧ w'.cell? ⟨E, 1, none⟩ = some (.slice ca cl cc) ∧ w'.cell? ⟨b, o + k * 4, none⟩ = some (.int .i64 x) ∧ w'.cell? ⟨b, o + k * 4 + 1, none⟩ = some (.string ⟨da.toArray⟩) ∧ w'.cell? ⟨b, o + k * 4 + 2, none⟩ = some (.string ⟨db.toArray⟩) ∧ w'.cell? ⟨b, o + k * 4 + 3, none⟩ = some (.int .i64 dn)) := hid fun w' hf => ⟨(hf.cell (p := ⟨E, 0, none⟩) hE2 (fun h => h)).trans c0, (hf.cell (p := ⟨E, 1, none⟩) hE2 (fun h => h)).trans c1, (hf.cell (p := ⟨b, o + k * 4, none⟩) hb2 (fun h => h)).trans r0, (hf.cell (p := ⟨b, o + k * 4 + 1, none⟩) hb2 (fun h => h)).trans r1, (hf.cell (p := ⟨b, o + k * 4 + 2, none⟩) hb2 (fun h => h)).trans r2, (hf.cell (p := ⟨b, o + k * 4 + 3, none⟩) hb2 (fun h => h)).trans r3⟩
          have HB2 := hid B2
          clear q0 q1 q2 q3 r0 r1 r2 r3 c0 c1 HL HDK HB HR HD HDO HLG hB B2 hf2
          go_cut [5, 6] from 30 to 38 (fun p q wq => DoP w E (.slice ma ml mc) (.slice ca cl cc) R R2 er p q wq)
          case first =>
            as_aux_lemma =>
              refine wp_region_late (fun w' => w'.cell? ⟨E, 0, none⟩ = some (.slice ma ml mc) ∧ w'.cell? ⟨E, 1, none⟩ = some (.slice ca cl cc) ∧ w'.cell? ⟨b, o + k * 4, none⟩ = some (.int .i64 x) ∧ w'.cell? ⟨b, o + k * 4 + 1, none⟩ = some (.string ⟨da.toArray⟩) ∧ w'.cell? ⟨b, o + k * 4 + 2, none⟩ = some (.string ⟨db.toArray⟩) ∧ w'.cell? ⟨b, o + k * 4 + 3, none⟩ = some (.int .i64 dn)) [10] (by kernel_rfl) (SK.out _ (Frm.refl _ _).drew) (fun hHeld => ?_)
              refine wpLate_take [5, 6, 7, 8, 10, 11] (i := 0) (oi := _) (v := _) rfl (by kernel_rfl) (by kernel_rfl) (by kernel_rfl) (by kernel_rfl) (by kernel_rfl) (fun _ _ _ h => h) (Or.inl ⟨by rfl, by intro w hSw; (try dsimp only at hSw); go_simp; all_goals with_reducible rfl⟩) (by assumption) ?_
              (try simp only [Act.put, List.getElem_toArray, List.getElem_cons_zero, List.setIfInBounds_toArray, List.set_cons_zero, List.set_cons_succ])
              refine wpLate_take0 (i := 1) (oi := _) (v := _) rfl (by kernel_rfl) (by kernel_rfl) (by kernel_rfl) (by kernel_rfl) (fun _ _ _ h => h) (Or.inl ⟨by rfl, by intro w _; go_simp; all_goals with_reducible rfl⟩) (fun _ => by assumption) ?_
              (try simp only [Act.put, List.getElem_toArray, List.getElem_cons_succ, List.getElem_cons_zero, List.setIfInBounds_toArray, List.set_cons_zero, List.set_cons_succ])
              refine wpLate_take0 (i := 2) (oi := _) (v := _) rfl (by kernel_rfl) (by kernel_rfl) (by kernel_rfl) (by kernel_rfl) (fun _ _ _ h => h) (Or.inl ⟨by rfl, by intro w _; go_simp; all_goals with_reducible rfl⟩) (fun _ => by assumption) ?_
              (try simp only [Act.put, List.getElem_toArray, List.getElem_cons_succ, List.getElem_cons_zero, List.setIfInBounds_toArray, List.set_cons_zero, List.set_cons_succ])
              refine wpLate_take0 (i := 3) (oi := _) (v := _) rfl (by kernel_rfl) (by kernel_rfl) (by kernel_rfl) (by kernel_rfl) (fun _ _ _ h => h) (Or.inl ⟨by rfl, by intro w _; go_simp; all_goals with_reducible rfl⟩) (fun _ => by assumption) ?_
              (try simp only [Act.put, List.getElem_toArray, List.getElem_cons_succ, List.getElem_cons_zero, List.setIfInBounds_toArray, List.set_cons_zero, List.set_cons_succ])
              refine wpLate_take [5, 6, 7, 8, 10, 11] (i := 4) (oi := _) (v := _) rfl (by kernel_rfl) (by kernel_rfl) (by kernel_rfl) (by kernel_rfl) (by kernel_rfl) (fun _ _ _ h => h) (Or.inl ⟨by rfl, by intro w hSw; (try dsimp only at hSw); go_simp; all_goals with_reducible rfl⟩) (by assumption) ?_
              (try simp only [Act.put, List.getElem_toArray, List.getElem_cons_succ, List.getElem_cons_zero, List.setIfInBounds_toArray, List.set_cons_zero, List.set_cons_succ])
              refine wpLate_ready (rs := [5, 9]) (by kernel_rfl) (by simp) ?_
              refine (AllReadyL.cons (i := 5) rfl (fun K hK => ?_) (AllReadyL.cons (i := 9) rfl (fun K hK => ?_) AllReadyL.nil))
              · simp only [List.getElem_toArray, List.getElem_cons_succ, List.getElem_cons_zero]
                go_simp
                refine (HDK2.out _ (Frm.refl No w2).drew).mono ?_; rintro e wa ⟨mv2, cv2, rfl, hra, hfa0⟩; obtain ⟨a2, l2, c2, a3, l3, c3, rfl, rfl⟩ := hra.any; have hfa := (Frm.refl No w2).drew.thenNo hfa0
                refine hK.out _ _ (SK.out _ hfa) (fun hHeld => ?_)
                clear hK K
                (try simp only)
                refine wpLate_take0 (i := 6) (oi := _) (v := _) rfl (by kernel_rfl) (by kernel_rfl) (by kernel_rfl) (by kernel_rfl) (fun _ _ _ h => h) (Or.inl ⟨by rfl, by intro w _; go_simp; all_goals with_reducible rfl⟩) (fun _ => by assumption) ?_
                (try simp only [Act.put, List.getElem_toArray, List.getElem_cons_succ, List.getElem_cons_zero, List.setIfInBounds_toArray, List.set_cons_zero, List.set_cons_succ])
                refine wpLate_take0 (i := 7) (oi := _) (v := _) rfl (by kernel_rfl) (by kernel_rfl) (by kernel_rfl) (by kernel_rfl) (fun _ _ _ h => h) (Or.inl ⟨by rfl, by intro w _; go_simp; all_goals with_reducible rfl⟩) (fun _ => by assumption) ?_
                (try simp only [Act.put, List.getElem_toArray, List.getElem_cons_succ, List.getElem_cons_zero, List.setIfInBounds_toArray, List.set_cons_zero, List.set_cons_succ])
                refine wpLate_take0 (i := 8) (oi := _) (v := _) rfl (by kernel_rfl) (by kernel_rfl) (by kernel_rfl) (by kernel_rfl) (fun _ _ _ h => h) (Or.inl ⟨by rfl, by intro w _; go_simp; all_goals with_reducible rfl⟩) (fun _ => by assumption) ?_
                (try simp only [Act.put, List.getElem_toArray, List.getElem_cons_succ, List.getElem_cons_zero, List.setIfInBounds_toArray, List.set_cons_zero, List.set_cons_succ])
                refine wpLate_ready (rs := [9]) (by kernel_rfl) (by simp) ?_
                refine (AllReadyL.cons (i := 9) rfl (fun K hK => ?_) AllReadyL.nil)
                simp only [List.getElem_toArray, List.getElem_cons_succ, List.getElem_cons_zero]
                go_simp
                refine hK.out _ _ (SK.out _ (hfa.alloc _)) (fun hHeld => ?_)
                clear hK K
                (try simp only [Act.put, List.getElem_toArray, List.getElem_cons_succ, List.getElem_cons_zero, List.setIfInBounds_toArray, List.set_cons_zero, List.set_cons_succ])
                have hl9 := (HB2.out.no hfa).lC
                have B9 := HB2.out.no (hfa.alloc (.cells #[.slice a2 l2 c2, .slice a3 l3 c3] 27))
                have R9 := HR2.out.no (hfa.alloc (.cells #[.slice a2 l2 c2, .slice a3 l3 c3] 27))
                have N9 := hra.no ((Frm.refl No wa).alloc (.cells #[.slice a2 l2 c2, .slice a3 l3 c3] 27))
                refine wpLate_ready (rs := [10]) (by kernel_rfl) (by simp) ?_
                refine (AllReadyL.late (i := 10) rfl (by kernel_rfl) (fun K hK => ?_) AllReadyL.nil)
                simp only [List.getElem_toArray, List.getElem_cons_succ, List.getElem_cons_zero]
                go_simp
                refine hK.out _ _ ?_
                clear hK K
                (try simp only [Act.put, List.getElem_toArray, List.getElem_cons_succ, List.getElem_cons_zero, List.setIfInBounds_toArray, List.set_cons_zero, List.set_cons_succ])
                refine wpLate_ready (rs := [11]) (by kernel_rfl) (by simp) ?_
                refine (AllReadyL.late (i := 11) rfl (by kernel_rfl) (fun K hK => ?_) AllReadyL.nil)
                simp only [List.getElem_toArray, List.getElem_cons_succ, List.getElem_cons_zero]
                go_simp
                refine hK.out _ _ ?_
                clear hK K
                (try simp only [Act.put, List.getElem_toArray, List.getElem_cons_succ, List.getElem_cons_zero, List.setIfInBounds_toArray, List.set_cons_zero, List.set_cons_succ])
                refine wpLate_done (by kernel_rfl) ?_ _
                dsimp only [Exit.then]; go_step; go_meet
                exact do_end1 (HB2.out.frm.thenNo hfa) B9 (by omega) N9 R9
              · simp only [List.getElem_toArray, List.getElem_cons_succ, List.getElem_cons_zero]
                go_simp
                refine hK.out _ _ (SK.out _ ((Frm.refl No _).drew.alloc _)) (fun hHeld => ?_)
                clear hK K
                (try simp only [Act.put, List.getElem_toArray, List.getElem_cons_succ, List.getElem_cons_zero, List.setIfInBounds_toArray, List.set_cons_zero, List.set_cons_succ])
                refine wpLate_ready (rs := [5]) (by kernel_rfl) (by simp) ?_
                refine (AllReadyL.cons (i := 5) rfl (fun K hK => ?_) AllReadyL.nil)
                simp only [List.getElem_toArray, List.getElem_cons_succ, List.getElem_cons_zero]
                go_simp
                refine (HDK2.out _ ((Frm.refl No w2).drew.alloc _)).mono ?_; rintro e wb ⟨mv2, cv2, rfl, hra, hfb0⟩; obtain ⟨a2, l2, c2, a3, l3, c3, rfl, rfl⟩ := hra.any; have hfb := ((Frm.refl No w2).drew.alloc _).thenNo hfb0; have BXb := (Box.new (HB2.out.frm.drew) [.slice none 0 0, .slice none 0 0] 27).no hfb0
                refine hK.out _ _ (SK.out _ hfb) (fun hHeld => ?_)
                clear hK K
                (try simp only)
                refine wpLate_take0 (i := 6) (oi := _) (v := _) rfl (by kernel_rfl) (by kernel_rfl) (by kernel_rfl) (by kernel_rfl) (fun _ _ _ h => h) (Or.inl ⟨by rfl, by intro w _; go_simp; all_goals with_reducible rfl⟩) (fun _ => by assumption) ?_
                (try simp only [Act.put, List.getElem_toArray, List.getElem_cons_succ, List.getElem_cons_zero, List.setIfInBounds_toArray, List.set_cons_zero, List.set_cons_succ])
                refine wpLate_take0 (i := 7) (oi := _) (v := _) rfl (by kernel_rfl) (by kernel_rfl) (by kernel_rfl) (by kernel_rfl) (fun _ _ _ h => h) (Or.inl ⟨by rfl, by intro w _; go_simp; all_goals with_reducible rfl⟩) (fun _ => by assumption) ?_
                (try simp only [Act.put, List.getElem_toArray, List.getElem_cons_succ, List.getElem_cons_zero, List.setIfInBounds_toArray, List.set_cons_zero, List.set_cons_succ])
                refine wpLate_take0 (i := 8) (oi := _) (v := _) rfl (by kernel_rfl) (by kernel_rfl) (by kernel_rfl) (by kernel_rfl) (fun _ _ _ h => h) (Or.inl ⟨by rfl, by intro w _; go_simp; all_goals with_reducible rfl⟩) (fun _ => by assumption) ?_
                (try simp only [Act.put, List.getElem_toArray, List.getElem_cons_succ, List.getElem_cons_zero, List.setIfInBounds_toArray, List.set_cons_zero, List.set_cons_succ])
                have hl9 := HB2.out.lC
                have B9 := HB2.out.no hfb
                have R9 := HR2.out.no hfb
                have cX : ∀ j, wb.cell? ⟨w2.heap.size, j, none⟩ = ([.slice none 0 0, .slice none 0 0] : List Value)[j]? := BXb.cell
                have fX : ∀ j, wb.frozen? ⟨w2.heap.size, j, none⟩ = false := BXb.fr
                refine wpLate_ready (rs := [10]) (by kernel_rfl) (by simp) ?_
                refine (AllReadyL.late (i := 10) rfl (by kernel_rfl) (fun K hK => ?_) AllReadyL.nil)
                simp only [List.getElem_toArray, List.getElem_cons_succ, List.getElem_cons_zero]
                go_simp
                refine hK.out _ _ ?_
                clear hK K
                (try simp only [Act.put, List.getElem_toArray, List.getElem_cons_succ, List.getElem_cons_zero, List.setIfInBounds_toArray, List.set_cons_zero, List.set_cons_succ])
                refine wpLate_ready (rs := [11]) (by kernel_rfl) (by simp) ?_
                refine (AllReadyL.late (i := 11) rfl (by kernel_rfl) (fun K hK => ?_) AllReadyL.nil)
                simp only [List.getElem_toArray, List.getElem_cons_succ, List.getElem_cons_zero]
                go_simp
                refine hK.out _ _ ?_
                clear hK K
                (try simp only [Act.put, List.getElem_toArray, List.getElem_cons_succ, List.getElem_cons_zero, List.setIfInBounds_toArray, List.set_cons_zero, List.set_cons_succ])
                refine wpLate_done (by kernel_rfl) ?_ _
                dsimp only [Exit.then]; go_step; go_meet
                exact do_end (F := w2.heap.size) BXb ⟨_, _, _, rfl⟩ ⟨_, _, _, rfl⟩ B9 (by show E ≠ w2.heap.size; omega) hra R9
          case rest =>
            as_aux_lemma =>
              obtain ⟨F, mv3, cv3, rfl, rfl, hne, hBF, hBE, hR3, hRR⟩ := hcut
              obtain ⟨a3, l3, c3, a4, l4, c4, rfl, rfl⟩ := hR3.any
              by_cases her : er = 0
              · subst her
                have e0 := hBE.cell
                have f0 := hBF.cell
                have g0 := hBE.fr
                have hnx : KpI w E ((wc.setCell ⟨E, 0, none⟩ (.slice a3 l3 c3)).setCell ⟨E, 1, none⟩ (.slice a4 l4 c4)) := by
                  have hns : ∀ (j : Nat) s, wc.cell? ⟨E, j, none⟩ ≠ some (.string s) := fun j s e => noStr2 ⟨_, _, _, rfl⟩ ⟨_, _, _, rfl⟩ j s (by rw [← hBE.cell j]; exact e)
                  refine ⟨_, _, R2, ?_, hR3.box hns ((setCell_own _).then_ (setCell_own _)), HINV2.out⟩
                  have := (hBE.set 0 (by simp) (.slice a3 l3 c3)).set 1 (by simp) (.slice a4 l4 c4)
                  simpa using this
                have HNX := hid hnx
                clear hnx hBF hBE hR3 hRR SK HDK2 HB2 HR2
                go_wp2_with fail
                exact ⟨⟨k + 1, by omega, by go_num, HNX.out⟩, by simp only [intOf]; omega⟩
              · have HNX : Hid (KpI w E wc) := hid ⟨_, _, R, hBE, hRR, HINV.out⟩
                have herb : (er == 0) = false := beq_eq_false_iff_ne.2 her
                clear hBF hBE hR3 hRR SK HDK2 HB2 HR2
                go_wp2_with fail
                exact ⟨⟨k + 1, by omega, by go_num, HNX.out⟩, by simp only [intOf]; omega⟩
      · as_aux_lemma =>
        obtain rfl : k = al := by omega
        have hmx : ¬ (k : Int) < (k : Int) := by omega
        clear hal
        have hI' := hI
        obtain ⟨ma, ml, mc, ca, cl, cc, rfl, rfl⟩ := hR.any
        obtain ⟨cs, hfs, hc, hst⟩ := hR.cr
        have hcl : cs.length = cl := by
          obtain ⟨_, _, e⟩ := hc.shape
          simp only [Value.slice.injEq] at e
          exact e.2.1.symm
        have hml : ∀ x ∈ cs, x.1 ∈ R.clss := fun x hx => by rw [← hfs]; exact List.mem_map_of_mem hx
        have hcl32 : cl ≤ 32 := by
          have := hI.cl
          rw [← hfs, List.length_map, hcl] at this
          exact this
        have HKT := hid (fun (x : CV) (hx : x ∈ cs) => keep_t hI (hml x hx))
        have HKS := hid (fun (x : CV) (hx : x ∈ cs) (s : B) (hs : s ∈ x.1.students) => keep_s hI (hml x hx) hs)
        have HTE := hid (fun (x : CV) (hx : x ∈ cs) (s : B) (hs : s ∈ x.1.students) => keep_te (R := R) (hml x hx) hs)
        have HLT := hid (fun (x : CV) (hx : x ∈ cs) => keep_lt hI (hml x hx))
        have HSN := hid (fun (x : CV) (hx : x ∈ cs) => hI.students (hml x hx))
        have HMB := hid (fun w1 (hf : Frm No wr w1) (n : B) (m : Mem) (he : find Mem.name R.mems n = some m) => member_is (hR.no hf) hI he)
        have HTS := hid (fun w1 (hf : Frm No wr w1) (t s : B) => teaches_any R _ _ t s w1 (hR.no hf) hI)
        have HC := hid (fun w1 (hf : Frm No wr w1) => hc.frm (fun _ _ => rfl) hf (fun _ _ h => h))
        have HST := hid (fun w1 (hf : Frm No wr w1) (x : CV) (hx : x ∈ cs) => (hst x hx).frm (fun _ _ => rfl) hf (fun _ _ h => h))
        have HB := hid hB
        have HCL := hid hcl
        obtain ⟨wl, hwl⟩ : ∃ wl, wr = wl := ⟨_, rfl⟩
        rw [hwl] at HMB HTS HC HST HB ⊢
        clear hB hR hI hI' hc hst hfs hcl hml HD HDO HLG hwl
        have kE := HB.out.cell
        go_wp2_with fail
        go_loopw [7, 8, 9, 10, 11, 12] (fun iv _ _ _ _ _ wr => ∃ i : Nat, i ≤ cl ∧ iv = .int .i64 (i : Int) ∧ Frm No wl wr)
          (fun iv _ _ _ _ _ _ => cl - (intOf iv).toNat)
        case atStart => exact ⟨0, by omega, rfl, Frm.refl _ _⟩
        case round =>
          clear kE
          obtain ⟨i, hi, rfl, hf⟩ := hrel
          have kE0 := (HB.out.no hf).cell 0
          have kE1 := (HB.out.no hf).cell 1
          simp only [List.getElem?_cons_zero, List.getElem?_cons_succ] at kE0 kE1
          by_cases hil : i < cl
          · as_aux_lemma =>
            have hil2 : i < cs.length := by rw [HCL.out]; exact hil
            have hilz : (i : Int) < (cl : Int) := by omega
            have hcr : RdL wr (.slice ca cs.length cc) 3 clsV cs := by rw [HCL.out]; exact HC.out wr hf
            obtain ⟨g, o, hca, hcc⟩ := hcr.at_ (by omega)
            have q1 := hcc i hil2 1 (by omega)
            have q2 := hcc i hil2 2 (by omega)
            have hmem := List.getElem_mem hil2
            have hst2 := HST.out wr hf _ hmem
            have hkt := HKT.out _ hmem
            have hks := HKS.out _ hmem
            have hte := HTE.out _ hmem
            have hlt := HLT.out _ hmem
            have hsn := HSN.out _ hmem
            obtain ⟨y, hy⟩ : ∃ y, cs[i] = y := ⟨_, rfl⟩
            rw [hy] at q1 q2 hst2 hkt hks hte hlt hsn
            obtain ⟨⟨xn, xt, xs⟩, xo, xc⟩ := y
            dsimp only at hkt hks hte hlt hsn
            simp only [clsV, sv, List.getElem?_cons_zero, List.getElem?_cons_succ, ← Nat.add_assoc] at q1 q2 hst2
            subst hca
            obtain ⟨m, hfm, hm2, hmn⟩ := hkt
            have HM := hid (fun w1 (hf1 : Frm No wr w1) => HMB.out w1 (hf.thenNo hf1) xt m hfm)
            obtain ⟨mn, mr, mq⟩ := m
            dsimp only at hm2 hmn
            subst hm2 hmn
            dsimp only at HM
            have hEl := HB.out.lC
            have hEl2 : E < wr.heap.size := by have := hf.size; omega
            have hgl : g < wr.heap.size := World.block_lt_of_cell? (u := .string ⟨mn.toArray⟩) wr ⟨g, o + i * 3 + 1, none⟩ q1
            have SK : Hid (∀ w', Frm No wr w' → w'.cell? ⟨E, 0, none⟩ = some (.slice ma ml mc) ∧ w'.cell? ⟨E, 1, none⟩ = some (.slice (some ⟨g, o, none⟩) cl cc) ∧ w'.cell? ⟨g, o + i * 3 + 1, none⟩ = some (.string ⟨mn.toArray⟩)) := hid fun w' hf => ⟨(hf.cell (p := ⟨E, 0, none⟩) hEl2 (fun h => h)).trans kE0, (hf.cell (p := ⟨E, 1, none⟩) hEl2 (fun h => h)).trans kE1, (hf.cell (p := ⟨g, o + i * 3 + 1, none⟩) hgl (fun h => h)).trans q1⟩
            have HFw := hid (HB.out.frm.thenNo hf)
            have HF := hid hf
            have HQ2 := hid q2
            have HS2 := hid hst2
            have HKS2 := hid hks
            have HTE2 := hid hte
            have HLT2 := hid hlt
            have HSN2 := hid hsn
            have HY := hid hy
            clear q1 q2 hst2 hks hte hlt hsn hy hf hfm hcr hcc hmem HKT HKS HTE HLT HSN HC HST
            go_upto_region 15 with fail
            go_cut [8, 9] from 49 to 59 (fun p q wq => MbP w wr ⟨mn, 2, mq⟩ p q wq)
            case first =>
              as_aux_lemma =>
                refine wp_region_late (fun w' => w'.cell? ⟨E, 0, none⟩ = some (.slice ma ml mc) ∧ w'.cell? ⟨E, 1, none⟩ = some (.slice (some ⟨g, o, none⟩) cl cc) ∧ w'.cell? ⟨g, o + i * 3 + 1, none⟩ = some (.string ⟨mn.toArray⟩)) [12] (by kernel_rfl) (SK.out _ (Frm.refl _ _).drew) (fun hHeld => ?_)
                refine wpLate_take [7, 8, 9, 10, 12, 13] (i := 0) (oi := _) (v := _) rfl (by kernel_rfl) (by kernel_rfl) (by kernel_rfl) (by kernel_rfl) (by kernel_rfl) (fun _ _ _ h => h) (Or.inl ⟨by rfl, by intro w hSw; (try dsimp only at hSw); go_simp; all_goals with_reducible rfl⟩) (by assumption) ?_
                (try simp only [Act.put, List.getElem_toArray, List.getElem_cons_zero, List.setIfInBounds_toArray, List.set_cons_zero, List.set_cons_succ])
                refine wpLate_take0 (i := 1) (oi := _) (v := _) rfl (by kernel_rfl) (by kernel_rfl) (by kernel_rfl) (by kernel_rfl) (fun _ _ _ h => h) (Or.inl ⟨by rfl, by intro w _; go_simp; all_goals with_reducible rfl⟩) (fun _ => by assumption) ?_
                (try simp only [Act.put, List.getElem_toArray, List.getElem_cons_succ, List.getElem_cons_zero, List.setIfInBounds_toArray, List.set_cons_zero, List.set_cons_succ])
                refine wpLate_take [4, 5, 6, 7, 8, 9, 10, 12, 13] (i := 2) (oi := _) (v := _) rfl (by kernel_rfl) (by kernel_rfl) (by kernel_rfl) (by kernel_rfl) (by kernel_rfl) (fun _ _ _ h => h) (Or.inl ⟨by rfl, by intro w hSw; (try dsimp only at hSw); go_simp; all_goals with_reducible rfl⟩) (by assumption) ?_
                (try simp only [Act.put, List.getElem_toArray, List.getElem_cons_succ, List.getElem_cons_zero, List.setIfInBounds_toArray, List.set_cons_zero, List.set_cons_succ])
                refine wpLate_take0 (i := 3) (oi := _) (v := _) rfl (by kernel_rfl) (by kernel_rfl) (by kernel_rfl) (by kernel_rfl) (fun _ _ _ h => h) (Or.inl ⟨by rfl, by intro w _; go_simp; all_goals with_reducible rfl⟩) (fun _ => by assumption) ?_
                (try simp only [Act.put, List.getElem_toArray, List.getElem_cons_succ, List.getElem_cons_zero, List.setIfInBounds_toArray, List.set_cons_zero, List.set_cons_succ])
                refine wpLate_take0 (i := 4) (oi := _) (v := _) rfl (by kernel_rfl) (by kernel_rfl) (by kernel_rfl) (by kernel_rfl) (fun _ _ _ h => h) (Or.inl ⟨by rfl, by intro w _; go_simp; all_goals with_reducible rfl⟩) (fun _ => by assumption) ?_
                (try simp only [Act.put, List.getElem_toArray, List.getElem_cons_succ, List.getElem_cons_zero, List.setIfInBounds_toArray, List.set_cons_zero, List.set_cons_succ])
                refine wpLate_take0 (i := 5) (oi := _) (v := _) rfl (by kernel_rfl) (by kernel_rfl) (by kernel_rfl) (by kernel_rfl) (fun _ _ _ h => h) (Or.inl ⟨by rfl, by intro w _; go_simp; all_goals with_reducible rfl⟩) (fun _ => by assumption) ?_
                (try simp only [Act.put, List.getElem_toArray, List.getElem_cons_succ, List.getElem_cons_zero, List.setIfInBounds_toArray, List.set_cons_zero, List.set_cons_succ])
                refine wpLate_take [7, 8, 9, 10, 12, 13] (i := 6) (oi := _) (v := _) rfl (by kernel_rfl) (by kernel_rfl) (by kernel_rfl) (by kernel_rfl) (by kernel_rfl) (fun _ _ _ h => h) (Or.inl ⟨by rfl, by intro w hSw; (try dsimp only at hSw); go_simp; all_goals with_reducible rfl⟩) (by assumption) ?_
                (try simp only [Act.put, List.getElem_toArray, List.getElem_cons_succ, List.getElem_cons_zero, List.setIfInBounds_toArray, List.set_cons_zero, List.set_cons_succ])
                refine wpLate_ready (rs := [7, 11]) (by kernel_rfl) (by simp) ?_
                refine (AllReadyL.cons (i := 7) rfl (fun K hK => ?_) (AllReadyL.cons (i := 11) rfl (fun K hK => ?_) AllReadyL.nil))
                · simp only [List.getElem_toArray, List.getElem_cons_succ, List.getElem_cons_zero]
                  go_simp
                  refine (HM.out _ ((Frm.refl No wr).drew)).mono ?_; rintro e wa ⟨rfl, hfa0⟩; have hfa := (Frm.refl No wr).drew.thenNo hfa0
                  refine hK.out _ _ (SK.out _ hfa) (fun hHeld => ?_)
                  clear hK K
                  (try simp only [Act.put, List.getElem_toArray, List.getElem_cons_succ, List.getElem_cons_zero, List.setIfInBounds_toArray, List.set_cons_zero, List.set_cons_succ])
                  refine wpLate_take0 (i := 8) (oi := _) (v := _) rfl (by kernel_rfl) (by kernel_rfl) (by kernel_rfl) (by kernel_rfl) (fun _ _ _ h => h) (Or.inl ⟨by rfl, by intro w _; go_simp; all_goals with_reducible rfl⟩) (fun _ => by assumption) ?_
                  (try simp only [Act.put, List.getElem_toArray, List.getElem_cons_succ, List.getElem_cons_zero, List.setIfInBounds_toArray, List.set_cons_zero, List.set_cons_succ])
                  refine wpLate_take0 (i := 9) (oi := _) (v := _) rfl (by kernel_rfl) (by kernel_rfl) (by kernel_rfl) (by kernel_rfl) (fun _ _ _ h => h) (Or.inl ⟨by rfl, by intro w _; go_simp; all_goals with_reducible rfl⟩) (fun _ => by assumption) ?_
                  (try simp only [Act.put, List.getElem_toArray, List.getElem_cons_succ, List.getElem_cons_zero, List.setIfInBounds_toArray, List.set_cons_zero, List.set_cons_succ])
                  refine wpLate_take0 (i := 10) (oi := _) (v := _) rfl (by kernel_rfl) (by kernel_rfl) (by kernel_rfl) (by kernel_rfl) (fun _ _ _ h => h) (Or.inl ⟨by rfl, by intro w _; go_simp; all_goals with_reducible rfl⟩) (fun _ => by assumption) ?_
                  (try simp only [Act.put, List.getElem_toArray, List.getElem_cons_succ, List.getElem_cons_zero, List.setIfInBounds_toArray, List.set_cons_zero, List.set_cons_succ])
                  refine wpLate_ready (rs := [11]) (by kernel_rfl) (by simp) ?_
                  refine (AllReadyL.cons (i := 11) rfl (fun K hK => ?_) AllReadyL.nil)
                  simp only [List.getElem_toArray, List.getElem_cons_succ, List.getElem_cons_zero]
                  go_simp
                  refine hK.out _ _ (SK.out _ (hfa.alloc _)) (fun hHeld => ?_)
                  clear hK K
                  (try simp only [Act.put, List.getElem_toArray, List.getElem_cons_succ, List.getElem_cons_zero, List.setIfInBounds_toArray, List.set_cons_zero, List.set_cons_succ])
                  refine wpLate_ready (rs := [12]) (by kernel_rfl) (by simp) ?_
                  refine (AllReadyL.late (i := 12) rfl (by kernel_rfl) (fun K hK => ?_) AllReadyL.nil)
                  simp only [List.getElem_toArray, List.getElem_cons_succ, List.getElem_cons_zero]
                  go_simp
                  refine hK.out _ _ ?_
                  clear hK K
                  (try simp only [Act.put, List.getElem_toArray, List.getElem_cons_succ, List.getElem_cons_zero, List.setIfInBounds_toArray, List.set_cons_zero, List.set_cons_succ])
                  refine wpLate_ready (rs := [13]) (by kernel_rfl) (by simp) ?_
                  refine (AllReadyL.late (i := 13) rfl (by kernel_rfl) (fun K hK => ?_) AllReadyL.nil)
                  simp only [List.getElem_toArray, List.getElem_cons_succ, List.getElem_cons_zero]
                  go_simp
                  refine hK.out _ _ ?_
                  clear hK K
                  (try simp only [Act.put, List.getElem_toArray, List.getElem_cons_succ, List.getElem_cons_zero, List.setIfInBounds_toArray, List.set_cons_zero, List.set_cons_succ])
                  refine wpLate_done (by kernel_rfl) ?_ _
                  dsimp only [Exit.then]; go_step; go_meet
                  exact mb_end1 (HFw.out.thenNo hfa) hfa
                · simp only [List.getElem_toArray, List.getElem_cons_succ, List.getElem_cons_zero]
                  go_simp
                  refine hK.out _ _ (SK.out _ ((Frm.refl No _).drew.alloc _)) (fun hHeld => ?_)
                  clear hK K
                  (try simp only [Act.put, List.getElem_toArray, List.getElem_cons_succ, List.getElem_cons_zero, List.setIfInBounds_toArray, List.set_cons_zero, List.set_cons_succ])
                  refine wpLate_ready (rs := [7]) (by kernel_rfl) (by simp) ?_
                  refine (AllReadyL.cons (i := 7) rfl (fun K hK => ?_) AllReadyL.nil)
                  simp only [List.getElem_toArray, List.getElem_cons_succ, List.getElem_cons_zero]
                  go_simp
                  refine (HM.out _ ((Frm.refl No wr).drew.alloc _)).mono ?_; rintro e wb ⟨rfl, hfb0⟩; have hfb := ((Frm.refl No wr).drew.alloc _).thenNo hfb0; have BXb := (Box.new (HFw.out.drew) [.string ByteArray.empty, .int .i64 0, .int .i64 0] 43).no hfb0
                  refine hK.out _ _ (SK.out _ hfb) (fun hHeld => ?_)
                  clear hK K
                  (try simp only [Act.put, List.getElem_toArray, List.getElem_cons_succ, List.getElem_cons_zero, List.setIfInBounds_toArray, List.set_cons_zero, List.set_cons_succ])
                  refine wpLate_take0 (i := 8) (oi := _) (v := _) rfl (by kernel_rfl) (by kernel_rfl) (by kernel_rfl) (by kernel_rfl) (fun _ _ _ h => h) (Or.inl ⟨by rfl, by intro w _; go_simp; all_goals with_reducible rfl⟩) (fun _ => by assumption) ?_
                  (try simp only [Act.put, List.getElem_toArray, List.getElem_cons_succ, List.getElem_cons_zero, List.setIfInBounds_toArray, List.set_cons_zero, List.set_cons_succ])
                  refine wpLate_take0 (i := 9) (oi := _) (v := _) rfl (by kernel_rfl) (by kernel_rfl) (by kernel_rfl) (by kernel_rfl) (fun _ _ _ h => h) (Or.inl ⟨by rfl, by intro w _; go_simp; all_goals with_reducible rfl⟩) (fun _ => by assumption) ?_
                  (try simp only [Act.put, List.getElem_toArray, List.getElem_cons_succ, List.getElem_cons_zero, List.setIfInBounds_toArray, List.set_cons_zero, List.set_cons_succ])
                  refine wpLate_take0 (i := 10) (oi := _) (v := _) rfl (by kernel_rfl) (by kernel_rfl) (by kernel_rfl) (by kernel_rfl) (fun _ _ _ h => h) (Or.inl ⟨by rfl, by intro w _; go_simp; all_goals with_reducible rfl⟩) (fun _ => by assumption) ?_
                  (try simp only [Act.put, List.getElem_toArray, List.getElem_cons_succ, List.getElem_cons_zero, List.setIfInBounds_toArray, List.set_cons_zero, List.set_cons_succ])
                  have cX : ∀ j, wb.cell? ⟨wr.heap.size, j, none⟩ = ([.string ByteArray.empty, .int .i64 0, .int .i64 0] : List Value)[j]? := BXb.cell
                  have fX : ∀ j, wb.frozen? ⟨wr.heap.size, j, none⟩ = false := BXb.fr
                  refine wpLate_ready (rs := [12]) (by kernel_rfl) (by simp) ?_
                  refine (AllReadyL.late (i := 12) rfl (by kernel_rfl) (fun K hK => ?_) AllReadyL.nil)
                  simp only [List.getElem_toArray, List.getElem_cons_succ, List.getElem_cons_zero]
                  go_simp
                  refine hK.out _ _ ?_
                  clear hK K
                  (try simp only [Act.put, List.getElem_toArray, List.getElem_cons_succ, List.getElem_cons_zero, List.setIfInBounds_toArray, List.set_cons_zero, List.set_cons_succ])
                  refine wpLate_ready (rs := [13]) (by kernel_rfl) (by simp) ?_
                  refine (AllReadyL.late (i := 13) rfl (by kernel_rfl) (fun K hK => ?_) AllReadyL.nil)
                  simp only [List.getElem_toArray, List.getElem_cons_succ, List.getElem_cons_zero]
                  go_simp
                  refine hK.out _ _ ?_
                  clear hK K
                  (try simp only [Act.put, List.getElem_toArray, List.getElem_cons_succ, List.getElem_cons_zero, List.setIfInBounds_toArray, List.set_cons_zero, List.set_cons_succ])
                  refine wpLate_done (by kernel_rfl) ?_ _
                  dsimp only [Exit.then]; go_step; go_meet
                  exact mb_end (F := wr.heap.size) BXb hfb (Nat.le_refl _)
            case rest =>
              as_aux_lemma =>
                obtain ⟨F, rfl, rfl, hBF, hfq⟩ := hcut
                have kF := hBF.cell
                have kF0 := kF 0
                have kF1 := kF 1
                simp only [memV, List.getElem?_cons_zero, List.getElem?_cons_succ] at kF0 kF1
                have HBF := hid hBF
                have HFQ := hid (HF.out.thenNo hfq)
                have HQ := hid (fun (w' : World) (hf : Frm No wc w') => (show w'.cell? ⟨E, 0, none⟩ = some (.slice ma ml mc) ∧ w'.cell? ⟨E, 1, none⟩ = some (.slice (some ⟨g, o, none⟩) cl cc) ∧ w'.cell? ⟨g, o + i * 3 + 2, none⟩ = some (.slice xo xs.length xc) from ⟨(SK.out w' (hfq.thenNo hf)).1, (SK.out w' (hfq.thenNo hf)).2.1, ((hfq.thenNo hf).cell (p := ⟨g, o + i * 3 + 2, none⟩) hgl (fun h => h)).trans HQ2.out⟩))
                have HS3 := hid (fun (w' : World) (hf : Frm No wc w') => HS2.out.frm (fun _ _ => rfl) (hfq.thenNo hf) (fun _ _ h => h))
                have hgl3 : g < wc.heap.size := by have := hfq.size; omega
                have hEl3 : E < wc.heap.size := by have := hfq.size; omega
                have HFw3 := hid (HFw.out.thenNo hfq)
                clear kF hBF hfq HQ2 HS2 SK HM
                obtain ⟨sl, hsl⟩ : ∃ sl, xs.length = sl := ⟨_, rfl⟩
                have HSL := hid hsl
                rw [hsl] at HQ HSN2
                rw [hsl] at HS3
                clear hsl
                go_wp2_with fail
                clear kF0 kF1
                go_loopw [10, 11, 12] (fun kv _ _ wr2 => ∃ k : Nat, k ≤ sl ∧ kv = .int .i64 (k : Int) ∧ Frm No wc wr2)
                  (fun kv _ _ _ => sl - (intOf kv).toNat)
                case atStart => exact ⟨0, by omega, rfl, Frm.refl _ _⟩
                case round =>
                  obtain ⟨k, hk, rfl, hf⟩ := hrel
                  obtain ⟨r0, r1, r2⟩ := HQ.out wr hf
                  by_cases hkl : k < sl
                  · as_aux_lemma =>
                    have hkz : (k : Int) < (sl : Int) := by omega
                    have hkx : k < xs.length := by rw [HSL.out]; exact hkl
                    have hs3 : RdL wr (.slice xo xs.length xc) 1 strV xs := by rw [HSL.out]; exact HS3.out wr hf
                    obtain ⟨g2, o2, hxo, hsc⟩ := hs3.at_ (by omega)
                    subst hxo
                    have hsk := hsc k hkx 0 (by omega)
                    simp only [strV, List.getElem?_cons_zero, Nat.mul_one, Nat.add_zero] at hsk
                    have hg2l : g2 < wr.heap.size := World.block_lt_of_cell? wr _ hsk
                    obtain ⟨m2, hfm2, hm2r, hm2n⟩ := HKS2.out _ (List.getElem_mem hkx)
                    have HM2 := hid (fun w1 (hf1 : Frm No wr w1) => HMB.out w1 (HFQ.out.thenNo (hf.thenNo hf1)) _ m2 hfm2)
                    have hte := HTE2.out _ (List.getElem_mem hkx)
                    obtain ⟨s, hs⟩ : ∃ s, xs[k] = s := ⟨_, rfl⟩
                    rw [hs] at hsk hm2n hte HM2
                    obtain ⟨m2n, m2r, m2q⟩ := m2
                    dsimp only at hm2r hm2n
                    subst hm2r hm2n
                    dsimp only at HM2
                    have hgw : g < wr.heap.size := by have := hf.size; omega
                    have hEw : E < wr.heap.size := by have := hf.size; omega
                    have SK : Hid (∀ w', Frm No wr w' → w'.cell? ⟨E, 0, none⟩ = some (.slice ma ml mc) ∧ w'.cell? ⟨E, 1, none⟩ = some (.slice (some ⟨g, o, none⟩) cl cc) ∧ w'.cell? ⟨g, o + i * 3 + 2, none⟩ = some (.slice (some ⟨g2, o2, none⟩) sl xc) ∧ w'.cell? ⟨g2, o2 + k, none⟩ = some (.string ⟨m2n.toArray⟩)) := hid fun w' hf => ⟨(hf.cell (p := ⟨E, 0, none⟩) hEw (fun h => h)).trans r0, (hf.cell (p := ⟨E, 1, none⟩) hEw (fun h => h)).trans r1, (hf.cell (p := ⟨g, o + i * 3 + 2, none⟩) hgw (fun h => h)).trans r2, (hf.cell (p := ⟨g2, o2 + k, none⟩) hg2l (fun h => h)).trans hsk⟩
                    have HFw2 := hid (HFw3.out.thenNo hf)
                    have HF2 := hid hf
                    have HSC := hid hsc
                    have HSE := hid hs
                    have HTEk := hid hte
                    clear hs3 hsc hsk hfm2 hte hs hf
                    go_upto_region 21 with fail
                    go_cut [11, 12] from 78 to 91 (fun p q wq => MbP w wr ⟨m2n, 1, m2q⟩ p q wq)
                    case first =>
                      as_aux_lemma =>
                        refine wp_region_late (fun w' => w'.cell? ⟨E, 0, none⟩ = some (.slice ma ml mc) ∧ w'.cell? ⟨E, 1, none⟩ = some (.slice (some ⟨g, o, none⟩) cl cc) ∧ w'.cell? ⟨g, o + i * 3 + 2, none⟩ = some (.slice (some ⟨g2, o2, none⟩) sl xc) ∧ w'.cell? ⟨g2, o2 + k, none⟩ = some (.string ⟨m2n.toArray⟩)) [15] (by kernel_rfl) (SK.out _ (Frm.refl _ _).drew) (fun hHeld => ?_)
                        refine wpLate_take [10, 11, 12, 13, 15, 16] (i := 0) (oi := _) (v := _) rfl (by kernel_rfl) (by kernel_rfl) (by kernel_rfl) (by kernel_rfl) (by kernel_rfl) (fun _ _ _ h => h) (Or.inl ⟨by rfl, by intro w hSw; (try dsimp only at hSw); go_simp; all_goals with_reducible rfl⟩) (by assumption) ?_
                        (try simp only [Act.put, List.getElem_toArray, List.getElem_cons_zero, List.setIfInBounds_toArray, List.set_cons_zero, List.set_cons_succ])
                        refine wpLate_take0 (i := 1) (oi := _) (v := _) rfl (by kernel_rfl) (by kernel_rfl) (by kernel_rfl) (by kernel_rfl) (fun _ _ _ h => h) (Or.inl ⟨by rfl, by intro w _; go_simp; all_goals with_reducible rfl⟩) (fun _ => by assumption) ?_
                        (try simp only [Act.put, List.getElem_toArray, List.getElem_cons_succ, List.getElem_cons_zero, List.setIfInBounds_toArray, List.set_cons_zero, List.set_cons_succ])
                        refine wpLate_take [4, 5, 6, 8, 9, 10, 11, 12, 13, 15, 16] (i := 2) (oi := _) (v := _) rfl (by kernel_rfl) (by kernel_rfl) (by kernel_rfl) (by kernel_rfl) (by kernel_rfl) (fun _ _ _ h => h) (Or.inl ⟨by rfl, by intro w hSw; (try dsimp only at hSw); go_simp; all_goals with_reducible rfl⟩) (by assumption) ?_
                        (try simp only [Act.put, List.getElem_toArray, List.getElem_cons_succ, List.getElem_cons_zero, List.setIfInBounds_toArray, List.set_cons_zero, List.set_cons_succ])
                        refine wpLate_take0 (i := 3) (oi := _) (v := _) rfl (by kernel_rfl) (by kernel_rfl) (by kernel_rfl) (by kernel_rfl) (fun _ _ _ h => h) (Or.inl ⟨by rfl, by intro w _; go_simp; all_goals with_reducible rfl⟩) (fun _ => by assumption) ?_
                        (try simp only [Act.put, List.getElem_toArray, List.getElem_cons_succ, List.getElem_cons_zero, List.setIfInBounds_toArray, List.set_cons_zero, List.set_cons_succ])
                        refine wpLate_take0 (i := 4) (oi := _) (v := _) rfl (by kernel_rfl) (by kernel_rfl) (by kernel_rfl) (by kernel_rfl) (fun _ _ _ h => h) (Or.inl ⟨by rfl, by intro w _; go_simp; all_goals with_reducible rfl⟩) (fun _ => by assumption) ?_
                        (try simp only [Act.put, List.getElem_toArray, List.getElem_cons_succ, List.getElem_cons_zero, List.setIfInBounds_toArray, List.set_cons_zero, List.set_cons_succ])
                        refine wpLate_take0 (i := 5) (oi := _) (v := _) rfl (by kernel_rfl) (by kernel_rfl) (by kernel_rfl) (by kernel_rfl) (fun _ _ _ h => h) (Or.inl ⟨by rfl, by intro w _; go_simp; all_goals with_reducible rfl⟩) (fun _ => by assumption) ?_
                        (try simp only [Act.put, List.getElem_toArray, List.getElem_cons_succ, List.getElem_cons_zero, List.setIfInBounds_toArray, List.set_cons_zero, List.set_cons_succ])
                        refine wpLate_take [8, 9, 10, 11, 12, 13, 15, 16] (i := 6) (oi := _) (v := _) rfl (by kernel_rfl) (by kernel_rfl) (by kernel_rfl) (by kernel_rfl) (by kernel_rfl) (fun _ _ _ h => h) (Or.inl ⟨by rfl, by intro w hSw; (try dsimp only at hSw); go_simp; all_goals with_reducible rfl⟩) (by assumption) ?_
                        (try simp only [Act.put, List.getElem_toArray, List.getElem_cons_succ, List.getElem_cons_zero, List.setIfInBounds_toArray, List.set_cons_zero, List.set_cons_succ])
                        refine wpLate_take0 (i := 7) (oi := _) (v := _) rfl (by kernel_rfl) (by kernel_rfl) (by kernel_rfl) (by kernel_rfl) (fun _ _ _ h => h) (Or.inl ⟨by rfl, by intro w _; go_simp; all_goals with_reducible rfl⟩) (fun _ => by assumption) ?_
                        (try simp only [Act.put, List.getElem_toArray, List.getElem_cons_succ, List.getElem_cons_zero, List.setIfInBounds_toArray, List.set_cons_zero, List.set_cons_succ])
                        refine wpLate_take0 (i := 8) (oi := _) (v := _) rfl (by kernel_rfl) (by kernel_rfl) (by kernel_rfl) (by kernel_rfl) (fun _ _ _ h => h) (Or.inl ⟨by rfl, by intro w _; go_simp; all_goals with_reducible rfl⟩) (fun _ => by assumption) ?_
                        (try simp only [Act.put, List.getElem_toArray, List.getElem_cons_succ, List.getElem_cons_zero, List.setIfInBounds_toArray, List.set_cons_zero, List.set_cons_succ])
                        refine wpLate_take [10, 11, 12, 13, 15, 16] (i := 9) (oi := _) (v := _) rfl (by kernel_rfl) (by kernel_rfl) (by kernel_rfl) (by kernel_rfl) (by kernel_rfl) (fun _ _ _ h => h) (Or.inl ⟨by rfl, by intro w hSw; (try dsimp only at hSw); go_simp; all_goals with_reducible rfl⟩) (by assumption) ?_
                        (try simp only [Act.put, List.getElem_toArray, List.getElem_cons_succ, List.getElem_cons_zero, List.setIfInBounds_toArray, List.set_cons_zero, List.set_cons_succ])
                        refine wpLate_ready (rs := [10, 14]) (by kernel_rfl) (by simp) ?_
                        refine (AllReadyL.cons (i := 10) rfl (fun K hK => ?_) (AllReadyL.cons (i := 14) rfl (fun K hK => ?_) AllReadyL.nil))
                        · simp only [List.getElem_toArray, List.getElem_cons_succ, List.getElem_cons_zero]
                          go_simp
                          refine (HM2.out _ ((Frm.refl No wr).drew)).mono ?_; rintro e wa ⟨rfl, hfa0⟩; have hfa := (Frm.refl No wr).drew.thenNo hfa0
                          refine hK.out _ _ (SK.out _ hfa) (fun hHeld => ?_)
                          clear hK K
                          (try simp only [Act.put, List.getElem_toArray, List.getElem_cons_succ, List.getElem_cons_zero, List.setIfInBounds_toArray, List.set_cons_zero, List.set_cons_succ])
                          refine wpLate_take0 (i := 11) (oi := _) (v := _) rfl (by kernel_rfl) (by kernel_rfl) (by kernel_rfl) (by kernel_rfl) (fun _ _ _ h => h) (Or.inl ⟨by rfl, by intro w _; go_simp; all_goals with_reducible rfl⟩) (fun _ => by assumption) ?_
                          (try simp only [Act.put, List.getElem_toArray, List.getElem_cons_succ, List.getElem_cons_zero, List.setIfInBounds_toArray, List.set_cons_zero, List.set_cons_succ])
                          refine wpLate_take0 (i := 12) (oi := _) (v := _) rfl (by kernel_rfl) (by kernel_rfl) (by kernel_rfl) (by kernel_rfl) (fun _ _ _ h => h) (Or.inl ⟨by rfl, by intro w _; go_simp; all_goals with_reducible rfl⟩) (fun _ => by assumption) ?_
                          (try simp only [Act.put, List.getElem_toArray, List.getElem_cons_succ, List.getElem_cons_zero, List.setIfInBounds_toArray, List.set_cons_zero, List.set_cons_succ])
                          refine wpLate_take0 (i := 13) (oi := _) (v := _) rfl (by kernel_rfl) (by kernel_rfl) (by kernel_rfl) (by kernel_rfl) (fun _ _ _ h => h) (Or.inl ⟨by rfl, by intro w _; go_simp; all_goals with_reducible rfl⟩) (fun _ => by assumption) ?_
                          (try simp only [Act.put, List.getElem_toArray, List.getElem_cons_succ, List.getElem_cons_zero, List.setIfInBounds_toArray, List.set_cons_zero, List.set_cons_succ])
                          refine wpLate_ready (rs := [14]) (by kernel_rfl) (by simp) ?_
                          refine (AllReadyL.cons (i := 14) rfl (fun K hK => ?_) AllReadyL.nil)
                          simp only [List.getElem_toArray, List.getElem_cons_succ, List.getElem_cons_zero]
                          go_simp
                          refine hK.out _ _ (SK.out _ (hfa.alloc _)) (fun hHeld => ?_)
                          clear hK K
                          (try simp only [Act.put, List.getElem_toArray, List.getElem_cons_succ, List.getElem_cons_zero, List.setIfInBounds_toArray, List.set_cons_zero, List.set_cons_succ])
                          refine wpLate_ready (rs := [15]) (by kernel_rfl) (by simp) ?_
                          refine (AllReadyL.late (i := 15) rfl (by kernel_rfl) (fun K hK => ?_) AllReadyL.nil)
                          simp only [List.getElem_toArray, List.getElem_cons_succ, List.getElem_cons_zero]
                          go_simp
                          refine hK.out _ _ ?_
                          clear hK K
                          (try simp only [Act.put, List.getElem_toArray, List.getElem_cons_succ, List.getElem_cons_zero, List.setIfInBounds_toArray, List.set_cons_zero, List.set_cons_succ])
                          refine wpLate_ready (rs := [16]) (by kernel_rfl) (by simp) ?_
                          refine (AllReadyL.late (i := 16) rfl (by kernel_rfl) (fun K hK => ?_) AllReadyL.nil)
                          simp only [List.getElem_toArray, List.getElem_cons_succ, List.getElem_cons_zero]
                          go_simp
                          refine hK.out _ _ ?_
                          clear hK K
                          (try simp only [Act.put, List.getElem_toArray, List.getElem_cons_succ, List.getElem_cons_zero, List.setIfInBounds_toArray, List.set_cons_zero, List.set_cons_succ])
                          refine wpLate_done (by kernel_rfl) ?_ _
                          dsimp only [Exit.then]; go_step; go_meet
                          exact mb_end1 (HFw2.out.thenNo hfa) hfa
                        · simp only [List.getElem_toArray, List.getElem_cons_succ, List.getElem_cons_zero]
                          go_simp
                          refine hK.out _ _ (SK.out _ ((Frm.refl No _).drew.alloc _)) (fun hHeld => ?_)
                          clear hK K
                          (try simp only [Act.put, List.getElem_toArray, List.getElem_cons_succ, List.getElem_cons_zero, List.setIfInBounds_toArray, List.set_cons_zero, List.set_cons_succ])
                          refine wpLate_ready (rs := [10]) (by kernel_rfl) (by simp) ?_
                          refine (AllReadyL.cons (i := 10) rfl (fun K hK => ?_) AllReadyL.nil)
                          simp only [List.getElem_toArray, List.getElem_cons_succ, List.getElem_cons_zero]
                          go_simp
                          refine (HM2.out _ ((Frm.refl No wr).drew.alloc _)).mono ?_; rintro e wb ⟨rfl, hfb0⟩; have hfb := ((Frm.refl No wr).drew.alloc _).thenNo hfb0; have BXb := (Box.new (HFw2.out.drew) [.string ByteArray.empty, .int .i64 0, .int .i64 0] 43).no hfb0
                          refine hK.out _ _ (SK.out _ hfb) (fun hHeld => ?_)
                          clear hK K
                          (try simp only [Act.put, List.getElem_toArray, List.getElem_cons_succ, List.getElem_cons_zero, List.setIfInBounds_toArray, List.set_cons_zero, List.set_cons_succ])
                          refine wpLate_take0 (i := 11) (oi := _) (v := _) rfl (by kernel_rfl) (by kernel_rfl) (by kernel_rfl) (by kernel_rfl) (fun _ _ _ h => h) (Or.inl ⟨by rfl, by intro w _; go_simp; all_goals with_reducible rfl⟩) (fun _ => by assumption) ?_
                          (try simp only [Act.put, List.getElem_toArray, List.getElem_cons_succ, List.getElem_cons_zero, List.setIfInBounds_toArray, List.set_cons_zero, List.set_cons_succ])
                          refine wpLate_take0 (i := 12) (oi := _) (v := _) rfl (by kernel_rfl) (by kernel_rfl) (by kernel_rfl) (by kernel_rfl) (fun _ _ _ h => h) (Or.inl ⟨by rfl, by intro w _; go_simp; all_goals with_reducible rfl⟩) (fun _ => by assumption) ?_
                          (try simp only [Act.put, List.getElem_toArray, List.getElem_cons_succ, List.getElem_cons_zero, List.setIfInBounds_toArray, List.set_cons_zero, List.set_cons_succ])
                          refine wpLate_take0 (i := 13) (oi := _) (v := _) rfl (by kernel_rfl) (by kernel_rfl) (by kernel_rfl) (by kernel_rfl) (fun _ _ _ h => h) (Or.inl ⟨by rfl, by intro w _; go_simp; all_goals with_reducible rfl⟩) (fun _ => by assumption) ?_
                          (try simp only [Act.put, List.getElem_toArray, List.getElem_cons_succ, List.getElem_cons_zero, List.setIfInBounds_toArray, List.set_cons_zero, List.set_cons_succ])
                          have cX : ∀ j, wb.cell? ⟨wr.heap.size, j, none⟩ = ([.string ByteArray.empty, .int .i64 0, .int .i64 0] : List Value)[j]? := BXb.cell
                          have fX : ∀ j, wb.frozen? ⟨wr.heap.size, j, none⟩ = false := BXb.fr
                          refine wpLate_ready (rs := [15]) (by kernel_rfl) (by simp) ?_
                          refine (AllReadyL.late (i := 15) rfl (by kernel_rfl) (fun K hK => ?_) AllReadyL.nil)
                          simp only [List.getElem_toArray, List.getElem_cons_succ, List.getElem_cons_zero]
                          go_simp
                          refine hK.out _ _ ?_
                          clear hK K
                          (try simp only [Act.put, List.getElem_toArray, List.getElem_cons_succ, List.getElem_cons_zero, List.setIfInBounds_toArray, List.set_cons_zero, List.set_cons_succ])
                          refine wpLate_ready (rs := [16]) (by kernel_rfl) (by simp) ?_
                          refine (AllReadyL.late (i := 16) rfl (by kernel_rfl) (fun K hK => ?_) AllReadyL.nil)
                          simp only [List.getElem_toArray, List.getElem_cons_succ, List.getElem_cons_zero]
                          go_simp
                          refine hK.out _ _ ?_
                          clear hK K
                          (try simp only [Act.put, List.getElem_toArray, List.getElem_cons_succ, List.getElem_cons_zero, List.setIfInBounds_toArray, List.set_cons_zero, List.set_cons_succ])
                          refine wpLate_done (by kernel_rfl) ?_ _
                          dsimp only [Exit.then]; go_step; go_meet
                          exact mb_end (F := wr.heap.size) BXb hfb (Nat.le_refl _)
                    case rest =>
                      as_aux_lemma =>
                        obtain ⟨G, rfl, rfl, hBG, hfq⟩ := hcut
                        have HT := hid (fun (w' : World) (hf : Frm No wc w') => HTS.out w' (HFQ.out.thenNo (HF2.out.thenNo (hfq.thenNo hf))) mn m2n)
                        rw [HTEk.out] at HT
                        obtain ⟨s0, s1, s2, s3⟩ := SK.out wc hfq
                        have kF := (HBF.out.no (HF2.out.thenNo hfq)).cell 0
                        have kG0 := hBG.cell 0
                        have kG1 := hBG.cell 1
                        simp only [memV, List.getElem?_cons_zero, List.getElem?_cons_succ] at kF kG0 kG1
                        have HFin := hid (HFQ.out.thenNo (HF2.out.thenNo hfq))
                        have HFin2 := hid (HF2.out.thenNo hfq)
                        have d0 := Wd.cell s0
                        have d1 := Wd.cell s1
                        have d2 := Wd.cell s2
                        have d3 := Wd.cell s3
                        have dF := Wd.cell kF
                        have dG0 := Wd.cell kG0
                        have dG1 := Wd.cell kG1
                        rcases Nat.eq_zero_or_pos k with hk0 | hk0
                        · subst hk0
                          simp only [Nat.add_zero] at s3 d3
                          clear HSC SK HTS HMB HS3 HQ HKS2 HTE2 HLT2 HBF hBG HM2 HY hfq kE0 kE1 r0 r1 r2 kF kG0 kG1 s0 s1 s2 s3
                          go_upto_region 22 with fail
                          refine wp_region_frm (by kernel_rfl) (by kernel_rfl) ?_
                          repeat (go_big_quiet_step (exact Calls.wd (HT.out _ (Wd.frm _))))
                          refine wpQuiet_nil ?_
                          intro w9 hf9
                          clear d0 d1 d2 d3 dF dG0 dG1 HT
                          go_wp2_with fail
                          exact ⟨⟨0 + 1, by omega, by go_num, HFin2.out.thenNo hf9⟩, by simp only [intOf]; omega⟩
                        · obtain ⟨k', rfl⟩ : ∃ k', k = k' + 1 := ⟨k - 1, by omega⟩
                          have hlt := HLT2.out k' hkx
                          have hsc := (hfq.cell (p := ⟨g2, o2 + (k' * 1 + 0), none⟩) hg2l (fun h => h)).trans (HSC.out k' (by omega) 0 (by omega))
                          rw [HSE.out] at hlt
                          obtain ⟨sp, hsp⟩ : ∃ sp, xs[k'] = sp := ⟨_, rfl⟩
                          rw [hsp] at hlt hsc
                          simp only [strV, List.getElem?_cons_zero, Nat.mul_one, Nat.add_zero] at hsc
                          have d4 := Wd.cell hsc
                          have hle : Op.bytesLess m2n sp = false := by rw [less_eq]; simpa using lta hlt
                          have hle2 : (m2n == sp) = false := by
                            rw [beq_eq_false_iff_ne]
                            intro e
                            rw [e] at hlt
                            exact ltn _ hlt
                          have hk1 : ((k' + 1 : Nat) : Int) - 1 = (k' : Int) := by omega
                          have hk2 : (0 : Int) < ((k' + 1 : Nat) : Int) := by omega
                          have hk3 : (k' : Int) < (sl : Int) := by omega
                          have hk4 : (k' : Int) + 1 < (sl : Int) := by omega
                          have hk6 : k' ≤ 1000 := by have := HSN2.out; omega
                          clear HSC SK HTS HMB HS3 HQ HKS2 HTE2 HLT2 HBF hBG HM2 HY hfq kE0 kE1 r0 r1 r2 kF kG0 kG1 s0 s1 s2 s3 hsp hlt hsc
                          go_upto_region 22 with fail
                          refine wp_region_frm (by kernel_rfl) (by kernel_rfl) ?_
                          repeat (go_big_quiet_step (exact Calls.wd (HT.out _ (Wd.frm _))))
                          refine wpQuiet_nil ?_
                          intro w9 hf9
                          clear d0 d1 d2 d3 d4 dF dG0 dG1 HT
                          go_wp2_with fail
                          exact ⟨⟨k' + 1 + 1, by omega, by go_num, HFin2.out.thenNo hf9⟩, by simp only [intOf]; omega⟩
                  · as_aux_lemma =>
                    obtain rfl : k = sl := by omega
                    have hpz : ¬ (k : Int) < (k : Int) := by omega
                    have HF2 := hid (HFQ.out.thenNo hf)
                    clear hf HQ HS3 HBF HKS2 HTE2 HLT2 HMB HTS
                    go_wp2_with fail
                    exact ⟨⟨i + 1, by omega, by go_num, HF2.out⟩, by simp only [intOf]; omega⟩
          · as_aux_lemma =>
            obtain rfl : i = cl := by omega
            have hpz : ¬ (i : Int) < (i : Int) := by omega
            have HF := hid (HB.out.frm.thenNo hf)
            clear hf HMB HTS HC HST HB HKT HKS HTE HLT HSN
            go_wp2_with fail
            go_ret
            exact ⟨rfl, HF.out⟩
set_option maxRecDepth 100000 in
theorem lifted (os : Os) (started : os.Started) (H : Type) (enc : TypeId × Value → H) :
    ReturnsInHanded {} Try.checked os 4 .any (Rows.rollKeepsSpec.pre6 enc Try.prog Try.f4 Rows.rollKeepsRow.domain false) (Rows.rollKeepsSpec.post enc Try.prog Try.f4 false true false false) := by
  refine returnsInHanded_of_change_sized (C := Try.checked) own started (by kernel_rfl) Try.func4
    (ChangeSpec.witness6 (enc := enc) (C := Try.checked) false ⟨#[], #[.slice none 0 0], []⟩ 8 (by kernel_rfl) (by kernel_rfl) (by kernel_rfl) (by kernel_rfl)) ?_
  intro W base args ds gs before hval0 hW _ hsz0 _
  have hsz : (DataW.weightsEach Try.prog (Try.f4.params.toList ++ Rows.rollKeepsSpec.plain.varTypes Try.prog) (ds ++ gs)).all (· ≤ reachBytes) = true := hsz0
  clear hsz0
  have hval : ∀ (j : Nat) t v, Try.f4.params[j]? = some t → args[j]? = some v → Value.okWide Try.prog W .any base t v := hval0
  have hW' : DataW.Whole enc Try.prog Try.f4.params.toList Rows.rollKeepsSpec.vars false W args.toList ds gs before := hW
  have hts : ∀ t ∈ Try.f4.params.toList, Try.prog.readableRec t = true ∧ t < Try.prog.types.size := by
    rw [Try.params4]
    intro t ht
    simp only [List.mem_cons, List.not_mem_nil, or_false] at ht
    subst ht; exact ⟨by kernel_rfl, of_decide_eq_true (by kernel_rfl)⟩
  obtain ⟨p, q, hA0, hV, hbef, hfz, hnd⟩ := hW
  have hA : DataW.TrodAll enc Try.prog W 0 (fun _ => true) true Try.f4.params.toList args.toList ds p := hA0
  rw [Try.params4] at hA hval hsz
  obtain ⟨v0, vs0, d0, ds0, p0, q0, hargs, rfl, rfl, h0, r0⟩ := trodAll_cons hA
  obtain ⟨rfl, rfl, rfl⟩ := trodAll_nil r0
  obtain rfl : args = #[v0] := by cases args; simp_all
  clear hA hA0 hval0
  obtain ⟨x0, hr0, hn0, hg0⟩ := open_deeds (enc := enc) h0 (okWide_slice Try.underlying37 (hval 0 37 v0 rfl rfl))
  refine (walk v0 x0 W hr0 hn0 hg0).mono fun e W' ⟨he, hg⟩ => ?_
  subst he
  exact ⟨_, rfl, post_law hW' rfl Try.underlying4 rfl rfl rfl rfl laidOut hts hg.toBelow⟩

theorem over : Rows.rollKeepsRow.holds Try.pinned (OpenSpec.ofChange Rows.rollKeepsSpec) :=
  OpenClaim.holds_of_wide 4 Try.f4 rfl rfl rfl rfl rfl rfl rfl ⟨rfl, rfl, rfl, rfl, rfl⟩ rfl rfl rfl rfl rfl (by kernel_rfl) Try.func4 (by kernel_rfl)
    (of_decide_eq_true (by kernel_rfl)) (by unfold Func.isWrapper; first | (rw [if_pos (by decide +kernel)]; kernel_rfl) | (rw [if_neg (by decide +kernel)]; exact ⟨rfl, rfl⟩))
    (fun os started H enc _ => lifted os started H enc)

theorem proved : Rows.RollKeepsSaid :=
  over
#print axioms proved
end RollKeeps
end Go.Proofs.Ytekailaoanpcgaa
