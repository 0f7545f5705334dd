/- For all bytes command.GetReply returns the decoded reply or the specified error, as the document does, and a decoded reply's bytes are the given ones. -/
import Derived.Test.YtfnhcnmlaginoaaRepAlike
import Derived.Test.YtfnhcnmlaginoaaRepGet
import Derived.Test.YtfnhcnmlaginoaaRepRGet
import Derived.Test.YtfnhcnmlaginoaaRepPut
import Derived.Test.YtfnhcnmlaginoaaFrame
namespace Go.Proofs.Ytfnhcnmlaginoaa
open Go.ChangeShapes Go.WideShapes Go.ChangeAt Go.RowKit
open Go.ChangeMaps (open_string shut_string)

theorem Rep.small_of {r : Rp} (h1 : Rep.big r = false) (h2 : Rep.bad r = false) : r.text.length ≤ 281474976710656 ∧ (∀ s ∈ r.texts, s.length ≤ 281474976710656) ∧ r.texts.length ≤ 140737488355328 ∧ r.marks.length ≤ 140737488355328 := by
  obtain ⟨-, -, -, -, a5, a6⟩ := Rep.bad_parts h2
  obtain ⟨b1, b2⟩ := Rep.big_parts h1
  refine ⟨by omega, fun s hs => ?_, by omega, by omega⟩
  simp only [Oct.badTexts, List.any_eq_false, decide_eq_true_eq] at a6
  have := a6 s hs
  omega

namespace CmdAnswers
set_option maxRecDepth 100000 in
set_option maxHeartbeats 2000000 in
theorem walk (s : List UInt8) (hl : s.length ≤ 140737488351232) (w : World) :
    Calls Try.prog 6 #[.string ⟨s.toArray⟩] w fun e w' => e = .returned (.bool true) ∧ Frm No w w' := by
  by_cases h3 : 3000 < s.length
  · have h3' : (3000 : Int) < (s.length : Int) := by omega
    go_enter Try.func6, Try.ntmps6
    go_wp2_with (go_at_call 12; refine (cmdspeaks _).mono ?_; rintro q w1 ⟨rfl, hf1⟩)
    go_ret
    exact ⟨rfl, hf1⟩
  · have h3' : ¬ (3000 : Int) < (s.length : Int) := by omega
    have HG := hid (fun w => rget_any s w (by omega))
    have HR := hid (fun w => rrget_any s w (by omega))
    obtain ⟨⟨r, e⟩, hg⟩ : ∃ x, Rep.get s = x := ⟨_, rfl⟩
    rw [hg] at HG HR
    dsimp only at HG HR
    by_cases he : e = 0
    · subst he
      obtain ⟨hput, hbig, hbad, hmk, -, -⟩ := Rep.get_inv hg
      obtain ⟨z1, z2, z3, z4⟩ := Rep.small_of hbig hbad
      have HS := hid (fun v1 m1 v2 m2 w h1 h2 g1 g2 => alike_any r r v1 m1 v2 m2 w h1 h2 g1 g2 z3 z4 hmk hmk)
      rw [Rep.same_self] at HS
      have HP := hid (fun v m w h1 h2 => reput_any r v m w z1 z2 hmk h1 h2)
      rw [hput] at HP
      clear hg hput hbig hbad hmk z1 z2 z3 z4
      obtain ⟨k, line, col, count, text, texts, marks⟩ := r
      unfold rpV at *
      dsimp only at *
      go_enter Try.func6, Try.ntmps6
      go_wp2_with (first | (go_at_call 12; refine (cmdspeaks _).mono ?_; rintro q w1 ⟨rfl, hf1⟩) | (go_at_call 21; refine (HG.out _).mono ?_; rintro q w2 ⟨wv, mv, rfl, hr, gr, hf2⟩; obtain ⟨ao, cp, hwv⟩ := hr.shape; subst hwv; obtain ⟨bo, bp, hwv⟩ := gr.shape; subst hwv) | (go_at_call 22; refine (HR.out _).mono ?_; rintro q w3 ⟨wv, mv, rfl, hr2, gr2, hf3⟩; obtain ⟨ao2, cp2, hwv⟩ := hr2.shape; subst hwv; obtain ⟨bo2, bp2, hwv⟩ := gr2.shape; subst hwv; have q3 := hf3.box; have q3a := fun o => (hf3.alloc o).box) | (go_at_call 23; refine (HS.out _ _ _ _ _ (hr.frm ((((Frm.refl No _).alloc _).thenNo hf3).alloc _) (fun _ _ h => h)) (hr2.frm ((Frm.refl No _).alloc _) (fun _ _ h => h)) (gr.frm ((((Frm.refl No _).alloc _).thenNo hf3).alloc _) (fun _ _ h => h)) (gr2.frm ((Frm.refl No _).alloc _) (fun _ _ h => h))).mono ?_; rintro q w4 ⟨rfl, hf4⟩; have hf24 := ((((Frm.refl No _).alloc _).thenNo hf3).alloc _).thenNo hf4; have q4 := ((hf3.alloc _).thenNo hf4).box) | (go_at_call 24; refine (HP.out _ _ _ (hr.frm hf24 (fun _ _ h => h)) (gr.frm hf24 (fun _ _ h => h))).mono ?_; rintro q w5 ⟨rfl, hf5⟩))
      go_ret
      exact ⟨rfl, ((hf1.thenNo hf2).thenNo hf24).thenNo hf5⟩
    · obtain rfl := Rep.get_none hg he
      have he' : (e == 0) = false := by simpa using he
      have HS := hid (fun v1 m1 v2 m2 w h1 h2 g1 g2 => alike_any Rep.none_ Rep.none_ v1 m1 v2 m2 w h1 h2 g1 g2 (by decide) (by decide) (fun _ h => by cases h) (fun _ h => by cases h))
      rw [Rep.same_self] at HS
      clear hg
      unfold rpV Rep.none_ at *
      dsimp only at *
      go_enter Try.func6, Try.ntmps6
      go_wp2_with (first | (go_at_call 12; refine (cmdspeaks _).mono ?_; rintro q w1 ⟨rfl, hf1⟩) | (go_at_call 21; refine (HG.out _).mono ?_; rintro q w2 ⟨wv, mv, rfl, hr, gr, hf2⟩; obtain ⟨ao, cp, hwv⟩ := hr.shape; subst hwv; obtain ⟨bo, bp, hwv⟩ := gr.shape; subst hwv) | (go_at_call 22; refine (HR.out _).mono ?_; rintro q w3 ⟨wv, mv, rfl, hr2, gr2, hf3⟩; obtain ⟨ao2, cp2, hwv⟩ := hr2.shape; subst hwv; obtain ⟨bo2, bp2, hwv⟩ := gr2.shape; subst hwv; have q3 := hf3.box; have q3a := fun o => (hf3.alloc o).box) | (go_at_call 23; refine (HS.out _ _ _ _ _ (hr.frm ((((Frm.refl No _).alloc _).thenNo hf3).alloc _) (fun _ _ h => h)) (hr2.frm ((Frm.refl No _).alloc _) (fun _ _ h => h)) (gr.frm ((((Frm.refl No _).alloc _).thenNo hf3).alloc _) (fun _ _ h => h)) (gr2.frm ((Frm.refl No _).alloc _) (fun _ _ h => h))).mono ?_; rintro q w4 ⟨rfl, hf4⟩))
      go_ret
      exact ⟨rfl, ((hf1.thenNo hf2).thenNo ((((Frm.refl No _).alloc _).thenNo hf3).alloc _)).thenNo hf4⟩
set_option maxRecDepth 100000 in
theorem lifted (os : Os) (started : os.Started) (H : Type) (enc : TypeId × Value → H) :
    ReturnsInHanded {} Try.checked os 6 .any (Rows.commandAnswersSpec.pre6 enc Try.prog Try.f6 Rows.commandAnswersRow.domain false) (Rows.commandAnswersSpec.post enc Try.prog Try.f6 false true false false) := by
  refine returnsInHanded_of_change_sized (C := Try.checked) own started (by kernel_rfl) Try.func6
    (ChangeSpec.witness6 (enc := enc) (C := Try.checked) false ⟨#[], #[.string ByteArray.empty], []⟩ 8 (by kernel_rfl) (by kernel_rfl) (by kernel_rfl) (by kernel_rfl)) ?_
  intro W base args ds gs before hval0 hW _ hsz0 _
  have hsz : (DataW.weightsEach Try.prog (Try.f6.params.toList ++ Rows.commandAnswersSpec.plain.varTypes Try.prog) (ds ++ gs)).all (· ≤ reachBytes) = true := hsz0
  clear hsz0
  have hval : ∀ (j : Nat) t v, Try.f6.params[j]? = some t → args[j]? = some v → Value.okWide Try.prog W .any base t v := hval0
  have hW' : DataW.Whole enc Try.prog Try.f6.params.toList Rows.commandAnswersSpec.vars false W args.toList ds gs before := hW
  have hts : ∀ t ∈ Try.f6.params.toList, Try.prog.readableRec t = true ∧ t < Try.prog.types.size := by
    rw [Try.params6]
    intro t ht
    simp only [List.mem_cons, List.not_mem_nil, or_false] at ht
    subst ht; exact ⟨by kernel_rfl, of_decide_eq_true (by kernel_rfl)⟩
  obtain ⟨p, q, hA0, hV, hbef, hfz, hnd⟩ := hW
  have hA : DataW.TrodAll enc Try.prog W 0 (fun _ => true) true Try.f6.params.toList args.toList ds p := hA0
  rw [Try.params6] at hA hval hsz
  obtain ⟨v0, vs0, d0, ds0, p0, q0, hargs, rfl, rfl, h0, r0⟩ := trodAll_cons hA
  obtain ⟨rfl, rfl, rfl⟩ := trodAll_nil r0
  obtain rfl : args = #[v0] := by cases args; simp_all
  clear hA hA0 hval0
  obtain ⟨a0, rfl, rfl, rfl, w0⟩ := open_string Try.underlying9 (hval 0 9 v0 rfl rfl) h0
  have hb0' : a0.data.toList.length ≤ 140737488351232 := sized_string hsz (j := 0) (t := 9) rfl rfl
  obtain ⟨l0, rfl⟩ := str_of a0
  refine (walk l0 hb0' W ).mono fun e W' ⟨he, hg⟩ => ?_
  subst he
  exact ⟨_, rfl, post_law hW' rfl Try.underlying4 rfl rfl rfl rfl laidOut hts hg.toBelow⟩

theorem over : Rows.commandAnswersRow.holds Try.pinned (OpenSpec.ofChange Rows.commandAnswersSpec) :=
  OpenClaim.holds_of_wide 6 Try.f6 rfl rfl rfl rfl rfl rfl rfl ⟨rfl, rfl, rfl, rfl, rfl⟩ rfl rfl rfl rfl rfl (by kernel_rfl) Try.func6 (by kernel_rfl)
    (of_decide_eq_true (by kernel_rfl)) (by unfold Func.isWrapper; first | (rw [if_pos (by decide +kernel)]; kernel_rfl) | (rw [if_neg (by decide +kernel)]; exact ⟨rfl, rfl⟩))
    (fun os started H enc _ => lifted os started H enc)

theorem proved : Rows.CommandAnswersSaid :=
  over
#print axioms proved
end CmdAnswers
end Go.Proofs.Ytfnhcnmlaginoaa
