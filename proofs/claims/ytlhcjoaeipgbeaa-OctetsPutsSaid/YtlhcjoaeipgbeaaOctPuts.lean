/- For every integer octets.Put returns its encoding, and octets.Get decodes it whatever bytes follow. -/
import Derived.Test.YtlhcjoaeipgbeaaOctSpeaks
import Derived.Test.YtlhcjoaeipgbeaaFrame
namespace Go.Proofs.Ytlhcjoaeipgbeaa
open Go.ChangeShapes Go.WideShapes Go.ChangeAt Go.RowKit
open Go.ChangeMaps (open_string shut_string)

namespace OctPuts
set_option maxRecDepth 100000 in
theorem walk (n : Int) (w1 : -9223372036854775808 ≤ n ∧ n ≤ 9223372036854775807) (l : List UInt8) (hl : l.length ≤ 140737488351232) (w : World) :
    Calls Try.prog 5 #[.int .i64 n, .string ⟨l.toArray⟩] w fun e w' => e = .returned (.bool true) ∧ Frm No w w' := by
  by_cases h0 : Oct.enc n = []
  · have he : ((Oct.enc n).isEmpty) = true := by rw [h0]; rfl
    clear h0
    go_enter Try.func5, Try.ntmps5
    go_wp2_with (first | (go_at_call 20; refine (octspeaks _).mono ?_; rintro e w1 ⟨rfl, hf1⟩) | (go_at_call 21; refine (put_any _ _).mono ?_; rintro e w2 ⟨rfl, hf2⟩) | (go_at_call 22; refine (refput_any _ _).mono ?_; rintro e w3 ⟨rfl, hf3⟩))
    go_ret
    exact ⟨rfl, (hf1.thenNo hf2).thenNo hf3⟩
  · have he : ((Oct.enc n).isEmpty) = false := by simpa using h0
    have hin : ¬ (n < -9007199254740992 ∨ 9007199254740992 < n) := fun h => h0 (Oct.enc_out h)
    have HD := hid (Oct.dec_enc n (by omega) (by omega) l)
    have hlen := Oct.enc_le n
    clear h0 hin
    by_cases hb : 1000 < l.length
    · go_enter Try.func5, Try.ntmps5
      go_wp2_with (first | (go_at_call 20; refine (octspeaks _).mono ?_; rintro e w1 ⟨rfl, hf1⟩) | (go_at_call 21; refine (put_any _ _).mono ?_; rintro e w2 ⟨rfl, hf2⟩) | (go_at_call 22; refine (refput_any _ _).mono ?_; rintro e w3 ⟨rfl, hf3⟩))
      go_ret
      exact ⟨rfl, (hf1.thenNo hf2).thenNo hf3⟩
    · go_enter Try.func5, Try.ntmps5
      go_wp2_with (first | (go_at_call 20; refine (octspeaks _).mono ?_; rintro e w1 ⟨rfl, hf1⟩) | (go_at_call 21; refine (put_any _ _).mono ?_; rintro e w2 ⟨rfl, hf2⟩) | (go_at_call 22; refine (refput_any _ _).mono ?_; rintro e w3 ⟨rfl, hf3⟩) | (go_at_call 23; refine (get_at HD.out _ (by simp; omega)).mono ?_; rintro e w4 ⟨rfl, hf4⟩))
      go_ret
      exact ⟨rfl, ((hf1.thenNo hf2).thenNo hf3).thenNo hf4⟩

set_option maxRecDepth 100000 in
theorem lifted (os : Os) (started : os.Started) (H : Type) (enc : TypeId × Value → H) :
    ReturnsInHanded {} Try.checked os 5 .any (Rows.octetsPutsSpec.pre6 enc Try.prog Try.f5 Rows.octetsPutsRow.domain false) (Rows.octetsPutsSpec.post enc Try.prog Try.f5 false true false false) := by
  refine returnsInHanded_of_change_sized (C := Try.checked) own started (by kernel_rfl) Try.func5
    (ChangeSpec.witness6 (enc := enc) (C := Try.checked) false ⟨#[], #[.int .i64 0, .string ByteArray.empty], []⟩ 8 (by kernel_rfl) (by kernel_rfl) (by kernel_rfl) (by kernel_rfl)) ?_
  intro W base args ds gs before hval0 hW _ hsz0 _
  have hsz : (DataW.weightsEach Try.prog (Try.f5.params.toList ++ Rows.octetsPutsSpec.plain.varTypes Try.prog) (ds ++ gs)).all (· ≤ reachBytes) = true := hsz0
  clear hsz0
  have hval : ∀ (j : Nat) t v, Try.f5.params[j]? = some t → args[j]? = some v → Value.okWide Try.prog W .any base t v := hval0
  have hW' : DataW.Whole enc Try.prog Try.f5.params.toList Rows.octetsPutsSpec.vars false W args.toList ds gs before := hW
  have hts : ∀ t ∈ Try.f5.params.toList, Try.prog.readableRec t = true ∧ t < Try.prog.types.size := by
    rw [Try.params5]
    intro t ht
    simp only [List.mem_cons, List.not_mem_nil, or_false] at ht
    rcases ht with rfl | rfl <;> exact ⟨by kernel_rfl, of_decide_eq_true (by kernel_rfl)⟩
  obtain ⟨p, q, hA0, hV, hbef, hfz, hnd⟩ := hW
  have hA : DataW.TrodAll enc Try.prog W 0 (fun _ => true) true Try.f5.params.toList args.toList ds p := hA0
  rw [Try.params5] at hA hval hsz
  obtain ⟨v0, vs0, d0, ds0, p0, q0, hargs, rfl, rfl, h0, r0⟩ := trodAll_cons hA
  obtain ⟨v1, vs1, d1, ds1, p1, q1, rfl, rfl, rfl, h1, r1⟩ := trodAll_cons r0
  obtain ⟨rfl, rfl, rfl⟩ := trodAll_nil r1
  obtain rfl : args = #[v0, v1] := by cases args; simp_all
  clear hA hA0 hval0
  obtain ⟨a0, rfl, rfl, rfl, w0⟩ := open_int Try.underlying3 (hval 0 3 v0 rfl rfl) h0
  have b0 := bounds_i64 w0
  obtain ⟨a1, rfl, rfl, rfl, w1⟩ := open_string Try.underlying9 (hval 1 9 v1 rfl rfl) h1
  have hb1' : a1.data.toList.length ≤ 140737488351232 := sized_string hsz (j := 1) (t := 9) rfl rfl
  obtain ⟨l1, rfl⟩ := str_of a1
  refine (walk a0 b0 l1 hb1' W).mono fun e W' ⟨he, hg⟩ => ?_
  subst he
  exact ⟨_, rfl, post_law hW' rfl Try.underlying4 rfl rfl rfl rfl laidOut hts hg.toBelow⟩

theorem over : Rows.octetsPutsRow.holds Try.pinned (OpenSpec.ofChange Rows.octetsPutsSpec) :=
  OpenClaim.holds_of_wide 5 Try.f5 rfl rfl rfl rfl rfl rfl rfl ⟨rfl, rfl, rfl, rfl, rfl⟩ rfl rfl rfl rfl rfl (by kernel_rfl) Try.func5 (by kernel_rfl)
    (of_decide_eq_true (by kernel_rfl)) (by unfold Func.isWrapper; first | (rw [if_pos (by decide +kernel)]; kernel_rfl) | (rw [if_neg (by decide +kernel)]; exact ⟨rfl, rfl⟩))
    (fun os started H enc _ => lifted os started H enc)

theorem proved : Rows.OctetsPutsSaid :=
  over
#print axioms proved
end OctPuts
end Go.Proofs.Ytlhcjoaeipgbeaa
