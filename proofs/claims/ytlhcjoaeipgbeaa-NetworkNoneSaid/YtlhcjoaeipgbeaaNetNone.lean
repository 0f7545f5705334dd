/- A nil network and an empty one. -/
import Derived.Test.YtlhcjoaeipgbeaaNet4
import Derived.Test.YtlhcjoaeipgbeaaNetSpeaks
import Derived.Test.YtlhcjoaeipgbeaaFrame
namespace Go.Proofs.Ytlhcjoaeipgbeaa
open Go.ChangeShapes Go.WideShapes Go.ChangeAt Go.RowKit
open Go.ChangeMaps (open_string shut_string)

namespace NetNone
set_option maxRecDepth 100000 in
set_option maxHeartbeats 1000000 in
theorem walk (i : Int) (_ : -9223372036854775808 ≤ i ∧ i ≤ 9223372036854775807) (at_ : Int) (_ : -9223372036854775808 ≤ at_ ∧ at_ ≤ 9223372036854775807) (by_ : Int) (_ : 0 ≤ by_ ∧ by_ ≤ 4294967295) (w0 : World) :
    Calls Try.prog 4 #[.int .i64 i, .int .i64 at_, .int .u32 by_] w0 fun e w' => e = .returned (.bool true) ∧ Frm No w0 w' := by
  go_enter Try.func4, Try.ntmps4
  go_wp2_with (first | (go_at_call 11; refine (netspeaks _).mono ?_; rintro e0 ws ⟨rfl, hf0⟩))
  have hN := NetAt_new ws 26
  have hfw : Frm No w0 (ws.alloc (.cells #[.slice none 0 0] 26)) := hf0.alloc _
  obtain ⟨B, hB⟩ : ∃ B, ws.heap.size = B := ⟨_, rfl⟩
  rw [hB] at hN
  simp only [hB]
  generalize ws.alloc (.cells #[.slice none 0 0] 26) = w at *
  have K := fun wn (h : Frm No w wn) => hN.frm h (fun h => h) (fun _ _ h => h)
  have HL : Hid (∀ wn, Frm No w wn → Calls Try.prog 18 #[.pointer (some ⟨B, 0, none⟩), .int .i64 i] wn fun e w' => e = .returned (.tuple #[.agg #[.int .i64 0, .int .i64 0, .string ⟨#[]⟩, .bool false], .bool false]) ∧ Frm No wn w') := hid (fun wn h => look_none B _ i wn (K wn h))
  have HT : Hid (∀ wn, Frm No w wn → Calls Try.prog 14 #[.pointer (some ⟨B, 0, none⟩), .int .i64 i] wn fun e w' => e = .returned (.tuple #[.agg #[.int .i64 0, .int .i64 0, .string ⟨#[]⟩, .bool false], .bool false]) ∧ Frm No wn w') := hid (fun wn h => take_none B _ i wn (K wn h))
  have HD := hid (fun wn (h : Frm No w wn) => double_none B _ i wn (K wn h))
  have HS := hid (fun wn (h : Frm No w wn) => spoil_none B _ i at_ by_ wn (K wn h))
  have HC : Hid (∀ wn, Frm No w wn → Calls Try.prog 19 #[.pointer (some ⟨B, 0, none⟩)] wn fun e w' => e = .returned (.int .i64 0) ∧ Frm No wn w') := hid (fun wn h => (count_any B _ [] wn (K wn h)).mono fun e w' ⟨a, b⟩ => ⟨a, b ▸ Frm.refl _ _⟩)
  have hF : Frm No w w := Frm.refl _ _
  clear K hN hB
  go_wp2_with (first | (go_at_call_of 18 (Value.pointer none); refine (look_nil' _ _).mono ?_; rintro e1 wn ⟨rfl, hfn⟩; have hF : Frm No w wn := (by first | exact hF.thenNo hfn | exact (hF.alloc _).thenNo hfn)) | (go_at_call_of 14 (Value.pointer none); refine (take_nil _ _).mono ?_; rintro e1 wn ⟨rfl, hfn⟩; have hF : Frm No w wn := (by first | exact hF.thenNo hfn | exact (hF.alloc _).thenNo hfn)) | (go_at_call_of 19 (Value.pointer none); refine (count_nil _).mono ?_; rintro e1 wn ⟨rfl, rfl⟩) | (go_at_call_of 12 (Value.pointer none); refine (send_nil _ _ [] _).mono ?_; rintro e1 wn ⟨rfl, rfl⟩) | (go_at_call_of 15 (Value.pointer none); refine (double_nil _ _).mono ?_; rintro e1 wn ⟨rfl, hfn⟩; have hF : Frm No w wn := (by first | exact hF.thenNo hfn | exact (hF.alloc _).thenNo hfn)) | (go_at_call_of 17 (Value.pointer none); refine (spoil_nil _ _ _ _).mono ?_; rintro e1 wn ⟨rfl, hfn⟩; have hF : Frm No w wn := (by first | exact hF.thenNo hfn | exact (hF.alloc _).thenNo hfn)) | (go_at_call 18; refine (HL.out _ (by first | exact hF | exact hF.alloc _)).mono ?_; rintro e1 wn ⟨rfl, hfn⟩; have hF : Frm No w wn := (by first | exact hF.thenNo hfn | exact (hF.alloc _).thenNo hfn)) | (go_at_call 14; refine (HT.out _ (by first | exact hF | exact hF.alloc _)).mono ?_; rintro e1 wn ⟨rfl, hfn⟩; have hF : Frm No w wn := (by first | exact hF.thenNo hfn | exact (hF.alloc _).thenNo hfn)) | (go_at_call 15; refine (HD.out _ (by first | exact hF | exact hF.alloc _)).mono ?_; rintro e1 wn ⟨rfl, hfn⟩; have hF : Frm No w wn := (by first | exact hF.thenNo hfn | exact (hF.alloc _).thenNo hfn)) | (go_at_call 17; refine (HS.out _ (by first | exact hF | exact hF.alloc _)).mono ?_; rintro e1 wn ⟨rfl, hfn⟩; have hF : Frm No w wn := (by first | exact hF.thenNo hfn | exact (hF.alloc _).thenNo hfn)) | (go_at_call 19; refine (HC.out _ (by first | exact hF | exact hF.alloc _)).mono ?_; rintro e1 wn ⟨rfl, hfn⟩; have hF : Frm No w wn := (by first | exact hF.thenNo hfn | exact (hF.alloc _).thenNo hfn)))
  go_ret
  exact ⟨rfl, hfw.thenNo hF⟩

set_option maxRecDepth 100000 in
theorem lifted (os : Os) (started : os.Started) (H : Type) (enc : TypeId × Value → H) :
    ReturnsInHanded {} Try.checked os 4 .any (Rows.networkNoneSpec.pre6 enc Try.prog Try.f4 Rows.networkNoneRow.domain false) (Rows.networkNoneSpec.post enc Try.prog Try.f4 false true false false) := by
  refine returnsInHanded_of_change_sized (C := Try.checked) own started (by kernel_rfl) Try.func4
    (ChangeSpec.witness6 (enc := enc) (C := Try.checked) false ⟨#[], #[.int .i64 0, .int .i64 0, .int .u32 0], []⟩ 8 (by kernel_rfl) (by kernel_rfl) (by kernel_rfl) (by kernel_rfl)) ?_
  intro W base args ds gs before hval0 hW _ hsz0 _
  have hsz : (DataW.weightsEach Try.prog (Try.f4.params.toList ++ Rows.networkNoneSpec.plain.varTypes Try.prog) (ds ++ gs)).all (· ≤ reachBytes) = true := hsz0
  clear hsz0
  have hval : ∀ (j : Nat) t v, Try.f4.params[j]? = some t → args[j]? = some v → Value.okWide Try.prog W .any base t v := hval0
  have hW' : DataW.Whole enc Try.prog Try.f4.params.toList Rows.networkNoneSpec.vars false W args.toList ds gs before := hW
  have hts : ∀ t ∈ Try.f4.params.toList, Try.prog.readableRec t = true ∧ t < Try.prog.types.size := by
    rw [Try.params4]
    intro t ht
    simp only [List.mem_cons, List.not_mem_nil, or_false] at ht
    rcases ht with rfl | rfl | rfl <;> exact ⟨by kernel_rfl, of_decide_eq_true (by kernel_rfl)⟩
  obtain ⟨p, q, hA0, hV, hbef, hfz, hnd⟩ := hW
  have hA : DataW.TrodAll enc Try.prog W 0 (fun _ => true) true Try.f4.params.toList args.toList ds p := hA0
  rw [Try.params4] at hA hval hsz
  obtain ⟨v0, vs0, d0, ds0, p0, q0, hargs, rfl, rfl, h0, r0⟩ := trodAll_cons hA
  obtain ⟨v1, vs1, d1, ds1, p1, q1, rfl, rfl, rfl, h1, r1⟩ := trodAll_cons r0
  obtain ⟨v2, vs2, d2, ds2, p2, q2, rfl, rfl, rfl, h2, r2⟩ := trodAll_cons r1
  obtain ⟨rfl, rfl, rfl⟩ := trodAll_nil r2
  obtain rfl : args = #[v0, v1, v2] := by cases args; simp_all
  clear hA hA0 hval0
  obtain ⟨a0, rfl, rfl, rfl, w0⟩ := open_int Try.underlying3 (hval 0 3 v0 rfl rfl) h0
  have b0 := bounds_i64 w0
  obtain ⟨a1, rfl, rfl, rfl, w1⟩ := open_int Try.underlying3 (hval 1 3 v1 rfl rfl) h1
  have b1 := bounds_i64 w1
  obtain ⟨a2, rfl, rfl, rfl, w2⟩ := open_int Try.underlying31 (hval 2 31 v2 rfl rfl) h2
  have b2 := bounds_u32 w2
  refine (NetNone.walk a0 b0 a1 b1 a2 b2 W ).mono fun e W' ⟨he, hg⟩ => ?_
  subst he
  exact ⟨_, rfl, post_law hW' rfl Try.underlying4 rfl rfl rfl rfl laidOut hts hg.toBelow⟩

theorem over : Rows.networkNoneRow.holds Try.pinned (OpenSpec.ofChange Rows.networkNoneSpec) :=
  OpenClaim.holds_of_wide 4 Try.f4 rfl rfl rfl rfl rfl rfl rfl ⟨rfl, rfl, rfl, rfl, rfl⟩ rfl rfl rfl rfl rfl (by kernel_rfl) Try.func4 (by kernel_rfl)
    (of_decide_eq_true (by kernel_rfl)) (by unfold Func.isWrapper; first | (rw [if_pos (by decide +kernel)]; kernel_rfl) | (rw [if_neg (by decide +kernel)]; exact ⟨rfl, rfl⟩))
    (fun os started H enc _ => lifted os started H enc)

theorem proved : Rows.NetworkNoneSaid :=
  over
#print axioms proved
end NetNone
end Go.Proofs.Ytlhcjoaeipgbeaa
