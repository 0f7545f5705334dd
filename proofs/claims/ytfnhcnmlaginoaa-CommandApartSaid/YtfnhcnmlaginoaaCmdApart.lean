/- Two good commands have the same encoding exactly if they are equal (without the document's answer). -/
import Derived.Test.YtfnhcnmlaginoaaCmdApA
import Derived.Test.YtfnhcnmlaginoaaCmdApB
import Derived.Test.YtfnhcnmlaginoaaCmdApC
namespace Go.Proofs.Ytfnhcnmlaginoaa
open Go.ChangeShapes Go.WideShapes Go.ChangeAt Go.RowKit
open Go.ChangeMaps (open_string shut_string)

namespace CmdApart
set_option maxRecDepth 100000 in
set_option maxHeartbeats 8000000 in
theorem walk (x y : Cm × Value) (w : World) (hok : RawOK w x) (hok' : RawOK w y) :
    Calls Try.prog 5 #[cmV x.1 x.2, cmV y.1 y.2] w fun e w' => e = .returned (.bool true) ∧ Frm No w w' := by
  cases hlg : Cmd.lg x.1
  case false =>
    cases hlg' : Cmd.lg y.1
    case false =>
      cases hg : Cmd.good x.1
      · exact walk0 x y w hok hok' hlg hlg' hg
      · cases hg' : Cmd.good y.1
        · exact walk1 x y w hok hok' hlg hlg' hg hg'
        · exact walk2 x y w hok hok' hlg hlg' hg hg'
    case true => exact lgb x y w hok hok' hlg hlg'
  case true => exact lga x y w hok hok' hlg
set_option maxRecDepth 100000 in
theorem lifted (os : Os) (started : os.Started) (H : Type) (enc : TypeId × Value → H) :
    ReturnsInHanded {} Try.checked os 5 .any (Rows.commandApartSpec.pre6 enc Try.prog Try.f5 Rows.commandApartRow.domain false) (Rows.commandApartSpec.post enc Try.prog Try.f5 false true false false) := by
  refine returnsInHanded_of_change_sized (C := Try.checked) own started (by kernel_rfl) Try.func5
    (ChangeSpec.witness6 (enc := enc) (C := Try.checked) false ⟨#[], #[.agg #[.int .i64 0, .string ByteArray.empty, .string ByteArray.empty, .string ByteArray.empty, .string ByteArray.empty, .slice none 0 0, .int .i64 0, .int .i64 0, .int .i64 0, .int .i64 0], .agg #[.int .i64 0, .string ByteArray.empty, .string ByteArray.empty, .string ByteArray.empty, .string ByteArray.empty, .slice none 0 0, .int .i64 0, .int .i64 0, .int .i64 0, .int .i64 0]], []⟩ 8 (by kernel_rfl) (by kernel_rfl) (by kernel_rfl) (by kernel_rfl)) ?_
  intro W base args ds gs before hval0 hW _ hsz0 _
  have hsz : (DataW.weightsEach Try.prog (Try.f5.params.toList ++ Rows.commandApartSpec.plain.varTypes Try.prog) (ds ++ gs)).all (· ≤ reachBytes) = true := hsz0
  clear hsz0
  have hval : ∀ (j : Nat) t v, Try.f5.params[j]? = some t → args[j]? = some v → Value.okWide Try.prog W .any base t v := hval0
  have hW' : DataW.Whole enc Try.prog Try.f5.params.toList Rows.commandApartSpec.vars false W args.toList ds gs before := hW
  have hts : ∀ t ∈ Try.f5.params.toList, Try.prog.readableRec t = true ∧ t < Try.prog.types.size := by
    rw [Try.params5]
    intro t ht
    simp only [List.mem_cons, List.not_mem_nil, or_false] at ht
    rcases ht with rfl | rfl <;> exact ⟨by kernel_rfl, of_decide_eq_true (by kernel_rfl)⟩
  obtain ⟨p, q, hA0, hV, hbef, hfz, hnd⟩ := hW
  have hA : DataW.TrodAll enc Try.prog W 0 (fun _ => true) true Try.f5.params.toList args.toList ds p := hA0
  rw [Try.params5] at hA hval hsz
  obtain ⟨v0, vs0, d0, ds0, p0, q0, hargs, rfl, rfl, h0, r0⟩ := trodAll_cons hA
  obtain ⟨v1, vs1, d1, ds1, p1, q1, rfl, rfl, rfl, h1, r1⟩ := trodAll_cons r0
  obtain ⟨rfl, rfl, rfl⟩ := trodAll_nil r1
  obtain rfl : args = #[v0, v1] := by cases args; simp_all
  clear hA hA0 hval0
  obtain ⟨x0, rfl, hg0⟩ := open_raw (enc := enc) h0 (hval 0 25 v0 rfl rfl)
  obtain ⟨x1, rfl, hg1⟩ := open_raw (enc := enc) h1 (hval 1 25 v1 rfl rfl)
  refine (walk x0 x1 W hg0 hg1).mono fun e W' ⟨he, hg⟩ => ?_
  subst he
  exact ⟨_, rfl, post_law hW' rfl Try.underlying4 rfl rfl rfl rfl laidOut hts hg.toBelow⟩

theorem over : Rows.commandApartRow.holds Try.pinned (OpenSpec.ofChange Rows.commandApartSpec) :=
  OpenClaim.holds_of_wide 5 Try.f5 rfl rfl rfl rfl rfl rfl rfl ⟨rfl, rfl, rfl, rfl, rfl⟩ rfl rfl rfl rfl rfl (by kernel_rfl) Try.func5 (by kernel_rfl)
    (of_decide_eq_true (by kernel_rfl)) (by unfold Func.isWrapper; first | (rw [if_pos (by decide +kernel)]; kernel_rfl) | (rw [if_neg (by decide +kernel)]; exact ⟨rfl, rfl⟩))
    (fun os started H enc _ => lifted os started H enc)

theorem proved : Rows.CommandApartSaid :=
  over
#print axioms proved
end CmdApart
end Go.Proofs.Ytfnhcnmlaginoaa
