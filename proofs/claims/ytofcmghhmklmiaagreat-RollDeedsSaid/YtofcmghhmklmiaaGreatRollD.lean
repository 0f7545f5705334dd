/- A member by name; what becomes of a roll of the call's own when one of its lists changes. -/
import Derived.Test.YtofcmghhmklmiaaGreatRollC
namespace Go.Proofs.YtofcmghhmklmiaaGreat
open Go.RowKit
open Roll

def memZ : Mem := ⟨[], 0, 0⟩
def mag (m : Mem) : Value := .agg #[.string ⟨m.name.toArray⟩, .int .i64 m.role, .int .i64 m.quota]
set_option maxRecDepth 100000 in
set_option maxHeartbeats 1000000 in
theorem rmember_any (R : Rl) (mv cv : Value) (n : B) (w : World) (hr : RlR w mv cv R) (hs : Srt Mem.name R.mems) (hl : R.mems.length ≤ 1000000) :
    Calls Tryz.prog 12 #[.agg #[mv, cv], .string ⟨n.toArray⟩] w fun e w' =>
      e = .returned (.tuple #[mag ((find Mem.name R.mems n).getD memZ), .bool (find Mem.name R.mems n).isSome]) ∧ Frm No w w' := by
  have HM := hid (fun w1 (hf : Frm No w w1) => member_any R mv cv n w1 (hr.no hf) hs hl)
  have hmr := hid (fun w1 (hf : Frm No w w1) => (hr.no hf).mr)
  obtain ⟨mao, mcp, rfl⟩ := hr.mr.shape
  obtain ⟨cs, -, hc, -⟩ := hr.cr
  obtain ⟨cao, ccp, rfl⟩ := hc.shape
  cases hh : has Mem.name R.mems n
  · have hf0 : find Mem.name R.mems n = none := find_none.2 hh
    rw [hh] at HM
    rw [hf0]
    clear hh hf0 hr hc hmr hs
    generalize place Mem.name R.mems n = p at *
    generalize R.mems.length = ml at *
    generalize cs.length = cl at *
    go_enter Tryz.func12, Tryz.ntmps12
    go_upto_region 1 with fail
    have X0 := Box.new (Frm.refl No w) [.slice mao ml mcp, .slice cao cl ccp] 27
    have X1 := Box.new X0.frm [.string ⟨#[]⟩, .int .i64 0, .int .i64 0] 45
    simp only [World.size_alloc] at X1
    have F1 := X1.frm
    go_wp2_with (go_at_call 48; refine (HM.out _ F1).mono ?_; rintro e w1 ⟨rfl, hf1⟩; have BX := X1.no hf1; have cX := BX.cell; have fX := BX.fr)
    have BX2 := ((BX.set 0 (by simp) (.string ⟨#[]⟩)).set 1 (by simp) (.int .i64 0)).set 2 (by simp) (.int .i64 0)
    have e0 := BX2.cell 0
    have e1 := BX2.cell 1
    have e2 := BX2.cell 2
    simp only [List.set_cons_zero, List.set_cons_succ, List.getElem?_cons_zero, List.getElem?_cons_succ] at e0 e1 e2
    refine bodyPost_ret (v := .tuple #[.agg #[.string ⟨#[]⟩, .int .i64 0, .int .i64 0], .bool false]) (by simp [results, Tryz.results12, go_sem, e0, e1, e2]) rfl ⟨rfl, BX2.frm⟩
  · obtain ⟨hpl, hf0⟩ := find_at hs hh
    rw [hh] at HM
    rw [hf0]
    have hq := hid (fun w1 (hf : Frm No w w1) => (hmr.out w1 hf).at_ (by omega))
    obtain ⟨b, o, rfl, hc0⟩ := hr.mr.at_ (by omega)
    have q := hc0 _ hpl
    obtain ⟨p, hp⟩ : ∃ p, place Mem.name R.mems n = p := ⟨_, rfl⟩
    simp only [hp] at HM hpl q ⊢
    obtain ⟨x, hx⟩ : ∃ x, R.mems[p] = x := ⟨_, rfl⟩
    simp only [hx] at q ⊢
    have hb : b < w.heap.size := World.block_lt_of_cell? (u := .string ⟨x.name.toArray⟩) w ⟨b, o + (p * 3 + 0), none⟩ (by rw [q 0 (by omega)]; rfl)
    obtain ⟨nm, ro, qu⟩ := x
    have q0 : w.cell? ⟨b, o + p * 3, none⟩ = some (.string ⟨nm.toArray⟩) := q 0 (by omega)
    have q1 : w.cell? ⟨b, o + p * 3 + 1, none⟩ = some (.int .i64 ro) := q 1 (by omega)
    have q2 : w.cell? ⟨b, o + p * 3 + 2, none⟩ = some (.int .i64 qu) := q 2 (by omega)
    have HQ := hid (fun w' (hf : Frm No w w') => And.intro ((hf.cell (p := ⟨b, o + p * 3, none⟩) hb (fun h => h)).trans q0) (And.intro ((hf.cell (p := ⟨b, o + p * 3 + 1, none⟩) hb (fun h => h)).trans q1) ((hf.cell (p := ⟨b, o + p * 3 + 2, none⟩) hb (fun h => h)).trans q2)))
    have hpz : (p : Int) < (R.mems.length : Int) := by omega
    clear hh hf0 hr hc hmr hs hc0 q q0 q1 q2 hx hp hq
    generalize R.mems.length = ml at *
    generalize cs.length = cl at *
    go_enter Tryz.func12, Tryz.ntmps12
    go_upto_region 1 with fail
    have X0 := Box.new (Frm.refl No w) [.slice (some ⟨b, o, none⟩) ml mcp, .slice cao cl ccp] 27
    have X1 := Box.new X0.frm [.string ⟨#[]⟩, .int .i64 0, .int .i64 0] 45
    have Y0 := X0.no ((Frm.refl No _).alloc (.cells #[.string ⟨#[]⟩, .int .i64 0, .int .i64 0] 45))
    simp only [World.size_alloc] at X1
    have F1 := X1.frm
    have HX1 := hid X1
    have HY0 := hid Y0
    clear X0 X1 Y0
    go_wp2_with (go_at_call 48; refine (HM.out _ F1).mono ?_; rintro e w1 ⟨rfl, hf1⟩; have BX := HX1.out.no hf1; have cX := BX.cell; have fX := BX.fr; have cY := (HY0.out.no hf1).cell; obtain ⟨q0, q1, q2⟩ := HQ.out _ (F1.thenNo hf1))
    have BX2 := ((BX.set 0 (by simp) (.string ⟨nm.toArray⟩)).set 1 (by simp) (.int .i64 ro)).set 2 (by simp) (.int .i64 qu)
    have e0 := BX2.cell 0
    have e1 := BX2.cell 1
    have e2 := BX2.cell 2
    simp only [List.set_cons_zero, List.set_cons_succ, List.getElem?_cons_zero, List.getElem?_cons_succ] at e0 e1 e2
    refine bodyPost_ret (v := .tuple #[.agg #[.string ⟨nm.toArray⟩, .int .i64 ro, .int .i64 qu], .bool true]) (by simp [results, Tryz.results12, go_sem, e0, e1, e2]) rfl ⟨rfl, BX2.frm⟩

/-! A roll of the call's own -/
theorem RlO.frm {S : Nat → Prop} {base : Nat} {w w' : World} {mv cv : Value} {R : Rl} {cs : List CV} (h : RlO base w mv cv R cs) (hf : Frm S w w') (hm : ∀ k, mv.ownBlock = some k → ¬ S k) (hc : ∀ k, cv.ownBlock = some k → ¬ S k) (hs : ∀ p ∈ cs, ∀ k, (sv p).ownBlock = some k → ¬ S k) : RlO base w' mv cv R cs :=
  ⟨h.fst, hf.row h.mo hm, hf.row h.co hc, fun p hp => hf.row (h.so p hp) (hs p hp), h.dmc, h.dms, h.dcs, h.dss⟩
theorem RlO.no {base : Nat} {w w' : World} {mv cv : Value} {R : Rl} {cs : List CV} (h : RlO base w mv cv R cs) (hf : Frm No w w') : RlO base w' mv cv R cs := h.frm hf (fun _ _ h => h) (fun _ _ h => h) (fun _ _ _ _ h => h)
theorem RlO.lt {base : Nat} {w : World} {mv cv : Value} {R : Rl} {cs : List CV} (h : RlO base w mv cv R cs) : (∀ k, mv.ownBlock = some k → base ≤ k ∧ k < w.heap.size) ∧ (∀ k, cv.ownBlock = some k → base ≤ k ∧ k < w.heap.size) ∧ ∀ p ∈ cs, ∀ k, (sv p).ownBlock = some k → base ≤ k ∧ k < w.heap.size :=
  ⟨fun k hk => h.mo.lt k hk, fun k hk => h.co.lt k hk, fun p hp k hk => (h.so p hp).lt k hk⟩
/-- The list of members became another one. -/
theorem RlO.setM {base : Nat} {w w' : World} {mv cv mv' : Value} {R : Rl} {cs : List CV} (h : RlO base w mv cv R cs) (hf : Frm (Own mv) w w') (l : List Mem) (ho : w'.ownsRow base 45 3 mv' l.length (rows memV l)) (hn : mv'.ownBlock = mv.ownBlock ∨ ∃ k, mv'.ownBlock = some k ∧ w.heap.size ≤ k) :
    RlO base w' mv' cv ⟨l, R.clss⟩ cs := by
  obtain ⟨l1, l2, l3⟩ := h.lt
  have key : ∀ v : Value, (∀ k, v.ownBlock = some k → k < w.heap.size) → Dj mv v → Dj mv' v := fun v hv hd k hk e => by
    rcases hn with hn | ⟨k', hn, hk'⟩
    · exact hd k (hn ▸ hk) e
    · rw [hk] at hn
      cases hn
      have := hv k e
      omega
  exact ⟨h.fst, ho, hf.row h.co (fun k hk e => h.dmc k e hk), fun p hp => hf.row (h.so p hp) (fun k hk e => h.dms p hp k e hk), key cv (fun k hk => (l2 k hk).2) h.dmc, fun p hp => key (sv p) (fun k hk => (l3 p hp k hk).2) (h.dms p hp), h.dcs, h.dss⟩
/-- The list of classes became another one, of the same lists of students and empty ones. -/
theorem RlO.setC {base : Nat} {w w' : World} {mv cv cv' : Value} {R : Rl} {cs cs' : List CV} (h : RlO base w mv cv R cs) (hf : Frm (Own cv) w w') (ho : w'.ownsRow base 53 3 cv' cs'.length (rows clsV cs')) (hn : cv'.ownBlock = cv.ownBlock ∨ ∃ k, cv'.ownBlock = some k ∧ w.heap.size ≤ k)
    (hsub : ∀ p ∈ cs', p ∈ cs ∨ (p.1.students = [] ∧ p.2 = (none, 0))) (hss : cs'.Pairwise fun p q => Dj (sv p) (sv q)) : RlO base w' mv cv' ⟨R.mems, cs'.map (·.1)⟩ cs' := by
  obtain ⟨l1, l2, l3⟩ := h.lt
  have key : ∀ v : Value, (∀ k, v.ownBlock = some k → k < w.heap.size) → Dj cv v → Dj cv' v := fun v hv hd k hk e => by
    rcases hn with hn | ⟨k', hn, hk'⟩
    · exact hd k (hn ▸ hk) e
    · rw [hk] at hn
      cases hn
      have := hv k e
      omega
  have hnil : ∀ p : CV, p.1.students = [] ∧ p.2 = (none, 0) → sv p = .slice none 0 0 := fun p hp => by unfold sv; rw [hp.1, hp.2]; rfl
  refine ⟨rfl, hf.row h.mo (fun k hk e => h.dmc k hk e), ho, fun p hp => ?_, (key mv (fun k hk => (l1 k hk).2) h.dmc.symm).symm, fun p hp => ?_, fun p hp => ?_, hss⟩
  · rcases hsub p hp with hp | hp
    · exact hf.row (h.so p hp) (fun k hk e => h.dcs p hp k e hk)
    · rw [hnil p hp, hp.1]
      exact World.ownsRow_nil _ _ _ _
  · rcases hsub p hp with hp | hp
    · exact h.dms p hp
    · rw [hnil p hp]
      exact fun k _ e => by cases e
  · rcases hsub p hp with hp | hp
    · exact key (sv p) (fun k hk => (l3 p hp k hk).2) (h.dcs p hp)
    · rw [hnil p hp]
      exact fun k _ e => by cases e
theorem nil_rd (w : World) : RlR w (.slice none 0 0) (.slice none 0 0) Roll.nil := ⟨⟨.inl ⟨rfl, _, _, rfl⟩⟩, [], rfl, ⟨.inl ⟨rfl, _, _, rfl⟩⟩, by simp⟩
end Go.Proofs.YtofcmghhmklmiaaGreat
