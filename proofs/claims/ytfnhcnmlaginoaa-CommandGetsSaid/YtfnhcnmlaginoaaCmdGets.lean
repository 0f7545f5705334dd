/- For all bytes command.Get returns the decoded command or the specified error, as the document does, and a decoded command's bytes are the given ones. -/
import Derived.Test.YtfnhcnmlaginoaaCmdSpeaks
import Derived.Test.YtfnhcnmlaginoaaFrame
namespace Go.Proofs.Ytfnhcnmlaginoaa
open Go.ChangeShapes Go.WideShapes Go.ChangeAt Go.RowKit
open Go.ChangeMaps (open_string shut_string)

theorem Cmd.fin_none (x : Cm × List UInt8 × Int) : (Cmd.fin x).2 ≠ 0 → (Cmd.fin x).1 = Cmd.none_ := by
  unfold Cmd.fin
  split
  · intro _; rfl
  · split
    · intro _; rfl
    · split
      · intro _; rfl
      · intro h; exact absurd rfl h
theorem Cmd.get_none {s : List UInt8} {c : Cm} {e : Int} (h : Cmd.get s = (c, e)) (he : e ≠ 0) : c = Cmd.none_ := by
  have := Cmd.fin_none (Cmd.rd s)
  rw [show Cmd.fin (Cmd.rd s) = (c, e) from h] at this
  exact this he

namespace CmdGets
set_option maxRecDepth 100000 in
set_option maxHeartbeats 2000000 in
theorem walk (s : List UInt8) (hl : s.length ≤ 140737488351232) (w : World) :
    Calls Try.prog 4 #[.string ⟨s.toArray⟩] w fun e w' => e = .returned (.bool true) ∧ Frm No w w' := by
  by_cases h3 : 3000 < s.length
  · have h3' : (3000 : Int) < (s.length : Int) := by omega
    go_enter Try.func4, Try.ntmps4
    go_wp2_with (go_at_call 12; refine (cmdspeaks _).mono ?_; rintro q w1 ⟨rfl, hf1⟩)
    go_ret
    exact ⟨rfl, hf1⟩
  · have h3' : ¬ (3000 : Int) < (s.length : Int) := by omega
    have HG := hid (fun w => cget_any s w (by omega))
    have HR := hid (fun w => rcget_any s w (by omega))
    obtain ⟨⟨c, e⟩, hg⟩ : ∃ x, Cmd.get s = x := ⟨_, rfl⟩
    rw [hg] at HG HR
    dsimp only at HG HR
    by_cases he : e = 0
    · subst he
      obtain ⟨hgood, henc⟩ := Cmd.get_inv hg
      have hput : Cmd.put c = s := by rw [Cmd.put, hgood]; exact henc
      have hw : c.word.length ≤ 140737488355328 := by have := (Cmd.small_of hgood).2.2.2.2.1; obtain ⟨-, -, -, -, -, h, -⟩ := Cmd.good_parts hgood; omega
      have HS := hid (fun v1 v2 w h1 h2 => same_refl c v1 v2 w hw h1 h2)
      have HP := hid (fun v w h1 => cput_any c v w (Cmd.small_of hgood) h1)
      rw [hput] at HP
      clear hg hgood henc hput hw
      obtain ⟨k, who, name, other, text, word, n0, n1, n2, n3⟩ := c
      unfold cmV at *
      dsimp only at *
      go_enter Try.func4, Try.ntmps4
      go_wp2_with (first | (go_at_call 12; refine (cmdspeaks _).mono ?_; rintro q w1 ⟨rfl, hf1⟩) | (go_at_call 18; refine (HG.out _).mono ?_; rintro q w2 ⟨wv, rfl, hr, hf2⟩; obtain ⟨ao, cp, hwv⟩ := hr.shape; subst hwv) | (go_at_call 20; refine (HR.out _).mono ?_; rintro q w3 ⟨wv, rfl, hr2, hf3⟩; obtain ⟨ao2, cp2, hwv⟩ := hr2.shape; subst hwv; have q3 := hf3.box; have q3a := fun o => (hf3.alloc o).box) | (go_at_call 19; refine (HS.out _ _ _ (hr.frm ((((Frm.refl No _).alloc _).thenNo hf3).alloc _) (fun _ _ h => h)) (hr2.frm ((Frm.refl No _).alloc _) (fun _ _ h => h))).mono ?_; rintro q w4 ⟨rfl, hf4⟩; have hf24 := ((((Frm.refl No _).alloc _).thenNo hf3).alloc _).thenNo hf4; have q4 := ((hf3.alloc _).thenNo hf4).box) | (go_at_call 14; refine (HP.out _ _ (hr.frm hf24 (fun _ _ h => h))).mono ?_; rintro q w5 ⟨rfl, hf5⟩))
      go_ret
      exact ⟨rfl, ((hf1.thenNo hf2).thenNo hf24).thenNo hf5⟩
    · obtain rfl := Cmd.get_none hg he
      have he' : (e == 0) = false := by simpa using he
      have HS := hid (fun v1 v2 w h1 h2 => same_refl Cmd.none_ v1 v2 w (by decide) h1 h2)
      clear hg
      unfold cmV Cmd.none_ at *
      dsimp only at *
      go_enter Try.func4, Try.ntmps4
      go_wp2_with (first | (go_at_call 12; refine (cmdspeaks _).mono ?_; rintro q w1 ⟨rfl, hf1⟩) | (go_at_call 18; refine (HG.out _).mono ?_; rintro q w2 ⟨wv, rfl, hr, hf2⟩; obtain ⟨ao, cp, hwv⟩ := hr.shape; subst hwv) | (go_at_call 20; refine (HR.out _).mono ?_; rintro q w3 ⟨wv, rfl, hr2, hf3⟩; obtain ⟨ao2, cp2, hwv⟩ := hr2.shape; subst hwv; have q3 := hf3.box; have q3a := fun o => (hf3.alloc o).box) | (go_at_call 19; refine (HS.out _ _ _ (hr.frm ((((Frm.refl No _).alloc _).thenNo hf3).alloc _) (fun _ _ h => h)) (hr2.frm ((Frm.refl No _).alloc _) (fun _ _ h => h))).mono ?_; rintro q w4 ⟨rfl, hf4⟩))
      go_ret
      exact ⟨rfl, ((hf1.thenNo hf2).thenNo ((((Frm.refl No _).alloc _).thenNo hf3).alloc _)).thenNo hf4⟩
set_option maxRecDepth 100000 in
theorem lifted (os : Os) (started : os.Started) (H : Type) (enc : TypeId × Value → H) :
    ReturnsInHanded {} Try.checked os 4 .any (Rows.commandGetsSpec.pre6 enc Try.prog Try.f4 Rows.commandGetsRow.domain false) (Rows.commandGetsSpec.post enc Try.prog Try.f4 false true false false) := by
  refine returnsInHanded_of_change_sized (C := Try.checked) own started (by kernel_rfl) Try.func4
    (ChangeSpec.witness6 (enc := enc) (C := Try.checked) false ⟨#[], #[.string ByteArray.empty], []⟩ 8 (by kernel_rfl) (by kernel_rfl) (by kernel_rfl) (by kernel_rfl)) ?_
  intro W base args ds gs before hval0 hW _ hsz0 _
  have hsz : (DataW.weightsEach Try.prog (Try.f4.params.toList ++ Rows.commandGetsSpec.plain.varTypes Try.prog) (ds ++ gs)).all (· ≤ reachBytes) = true := hsz0
  clear hsz0
  have hval : ∀ (j : Nat) t v, Try.f4.params[j]? = some t → args[j]? = some v → Value.okWide Try.prog W .any base t v := hval0
  have hW' : DataW.Whole enc Try.prog Try.f4.params.toList Rows.commandGetsSpec.vars false W args.toList ds gs before := hW
  have hts : ∀ t ∈ Try.f4.params.toList, Try.prog.readableRec t = true ∧ t < Try.prog.types.size := by
    rw [Try.params4]
    intro t ht
    simp only [List.mem_cons, List.not_mem_nil, or_false] at ht
    subst ht; exact ⟨by kernel_rfl, of_decide_eq_true (by kernel_rfl)⟩
  obtain ⟨p, q, hA0, hV, hbef, hfz, hnd⟩ := hW
  have hA : DataW.TrodAll enc Try.prog W 0 (fun _ => true) true Try.f4.params.toList args.toList ds p := hA0
  rw [Try.params4] at hA hval hsz
  obtain ⟨v0, vs0, d0, ds0, p0, q0, hargs, rfl, rfl, h0, r0⟩ := trodAll_cons hA
  obtain ⟨rfl, rfl, rfl⟩ := trodAll_nil r0
  obtain rfl : args = #[v0] := by cases args; simp_all
  clear hA hA0 hval0
  obtain ⟨a0, rfl, rfl, rfl, w0⟩ := open_string Try.underlying9 (hval 0 9 v0 rfl rfl) h0
  have hb0' : a0.data.toList.length ≤ 140737488351232 := sized_string hsz (j := 0) (t := 9) rfl rfl
  obtain ⟨l0, rfl⟩ := str_of a0
  refine (walk l0 hb0' W ).mono fun e W' ⟨he, hg⟩ => ?_
  subst he
  exact ⟨_, rfl, post_law hW' rfl Try.underlying4 rfl rfl rfl rfl laidOut hts hg.toBelow⟩

theorem over : Rows.commandGetsRow.holds Try.pinned (OpenSpec.ofChange Rows.commandGetsSpec) :=
  OpenClaim.holds_of_wide 4 Try.f4 rfl rfl rfl rfl rfl rfl rfl ⟨rfl, rfl, rfl, rfl, rfl⟩ rfl rfl rfl rfl rfl (by kernel_rfl) Try.func4 (by kernel_rfl)
    (of_decide_eq_true (by kernel_rfl)) (by unfold Func.isWrapper; first | (rw [if_pos (by decide +kernel)]; kernel_rfl) | (rw [if_neg (by decide +kernel)]; exact ⟨rfl, rfl⟩))
    (fun os started H enc _ => lifted os started H enc)

theorem proved : Rows.CommandGetsSaid :=
  over
#print axioms proved
end CmdGets
end Go.Proofs.Ytfnhcnmlaginoaa
