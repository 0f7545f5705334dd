/- Teaches. -/
import Derived.Test.YtekailaoanpcgaaRollK
import Derived.Test.YtekailaoanpcgaaRollG
namespace Go.Proofs.Ytekailaoanpcgaa
open Go.RowKit
open Roll
set_option maxRecDepth 100000 in
set_option maxHeartbeats 4000000 in
theorem tc_any (x : CV) (t s : B) (p1 p2 : Nat) (w : World) (h1 : w.cell? ⟨p1, 0, none⟩ = some (.string ⟨t.toArray⟩)) (h2 : w.cell? ⟨p2, 0, none⟩ = some (.string ⟨s.toArray⟩))
    (hst : RdL w (.slice x.2.1 x.1.students.length x.2.2) 1 strV x.1.students) (hl : x.1.students.length ≤ 1000000) :
    Calls Try.prog 37 #[.agg #[.string ⟨x.1.name.toArray⟩, .string ⟨x.1.teacher.toArray⟩, .slice x.2.1 x.1.students.length x.2.2], .pointer (some ⟨p1, 0, none⟩), .pointer (some ⟨p2, 0, none⟩)] w fun e w' => e = .returned (.bool (x.1.teacher == t && has id x.1.students s)) ∧ Frm No w w' := by
  have HC := hid (fun w1 (hf : Frm No w w1) => contains_any x.1.students _ s w1 (hst.frm (fun _ _ => rfl) hf (fun _ _ h => h)) hl)
  have hb1 : p1 < w.heap.size := World.block_lt_of_cell? w _ h1
  have hb2 : p2 < w.heap.size := World.block_lt_of_cell? w _ h2
  clear hst
  obtain ⟨⟨nm, te, st⟩, sa, sc⟩ := x
  dsimp only at HC hl ⊢
  generalize has id st s = hh at *
  generalize st.length = sl at *
  by_cases he : te = t
  · subst he
    have hxx : (te == te) = true := by simp
    go_enter Try.func37, Try.ntmps37
    go_wp2_with (go_at_call 38; refine (HC.out _ ((Frm.refl No w).alloc _)).mono ?_; rintro e w1 ⟨rfl, rfl⟩)
    go_ret
    exact ⟨by rw [hxx]; rfl, (Frm.refl No w).alloc _⟩
  · have hxx : (te == t) = false := by simpa using he
    clear he
    go_enter Try.func37, Try.ntmps37
    go_wp2_with fail
    go_ret
    exact ⟨by rw [hxx]; rfl, (Frm.refl No w).alloc _⟩
def teaches (R : Rl) (t s : B) : Bool := R.clss.any fun c => c.teacher == t && has id c.students s
set_option maxRecDepth 100000 in
set_option maxHeartbeats 4000000 in
theorem teaches_any (R : Rl) (mv cv : Value) (t s : B) (w : World) (hr : RlR w mv cv R) (hI : Inv R) :
    Calls Try.prog 15 #[.agg #[mv, cv], .string ⟨t.toArray⟩, .string ⟨s.toArray⟩] w fun e w' => e = .returned (.bool (teaches R t s)) ∧ Frm No w w' := by
  obtain ⟨mao, mcp, rfl⟩ := hr.mr.shape
  obtain ⟨cs, hfs, hc, hst⟩ := hr.cr
  have hcl := hI.cl
  have hsl : ∀ x ∈ cs, x.1.students.length ≤ 1000000 := fun x hx => by
    have := hI.students (by rw [← hfs]; exact List.mem_map_of_mem hx : x.1 ∈ R.clss)
    omega
  have hcsl : cs.length = R.clss.length := by rw [← hfs]; simp
  have he : teaches R t s = cs.any (fun x => x.1.teacher == t && has id x.1.students s) := by
    unfold teaches
    rw [← hfs, List.any_map]
    rfl
  have HCF := hid (fun w1 (hf : Frm No w w1) (p1 p2 : Nat) (h1 : w1.cell? ⟨p1, 0, none⟩ = some (.string ⟨t.toArray⟩)) (h2 : w1.cell? ⟨p2, 0, none⟩ = some (.string ⟨s.toArray⟩)) =>
    cf_teaches (fun c => c.teacher == t && has id c.students s) cs cv p1 p2 w1 (hc.frm (fun _ _ => rfl) hf (fun _ _ h => h)) (by omega)
      (fun x hx w2 hf2 => tc_any x t s p1 p2 w2 ((hf2.cell (p := ⟨p1, 0, none⟩) (World.block_lt_of_cell? w1 _ h1) (fun h => h)).trans h1) ((hf2.cell (p := ⟨p2, 0, none⟩) (World.block_lt_of_cell? w1 _ h2) (fun h => h)).trans h2) ((hst x hx).frm (fun _ _ => rfl) (hf.thenNo hf2) (fun _ _ h => h)) (hsl x hx)))
  obtain ⟨cao, ccp, rfl⟩ := hc.shape
  rw [he]
  clear hr hc hst hsl hfs he hcl
  generalize cs.any (fun x => x.1.teacher == t && has id x.1.students s) = r at *
  generalize cs.length = cl at *
  clear hcsl hI
  have X1 := Box.new ((Frm.refl No w).alloc (.cells #[.slice mao R.mems.length mcp, .slice cao cl ccp] 27)) [.string ⟨t.toArray⟩] 9
  have X2 := Box.new X1.frm [.string ⟨s.toArray⟩] 9
  have Y1 := X1.no ((Frm.refl No _).alloc (.cells #[.string ⟨s.toArray⟩] 9))
  have h1 := Y1.cell 0
  have h2 := X2.cell 0
  simp only [World.size_alloc, List.getElem?_cons_zero] at h1 h2
  have HF := hid X2.frm
  have HT := hid (HCF.out _ HF.out (w.heap.size + 1) (w.heap.size + 1 + 1) h1 h2)
  clear X1 X2 Y1 h1 h2
  generalize R.mems.length = ml at *
  clear HCF
  go_enter Try.func15, Try.ntmps15
  go_wp2_with (go_at_call 36; refine HT.out.mono ?_; rintro e w1 ⟨rfl, hf1⟩)
  go_ret
  exact ⟨rfl, HF.out.thenNo hf1⟩
end Go.Proofs.Ytekailaoanpcgaa
