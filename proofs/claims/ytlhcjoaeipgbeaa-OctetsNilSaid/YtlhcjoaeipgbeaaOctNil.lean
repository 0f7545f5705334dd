/- A nil Out and a nil In, and values that are too long. -/
import Derived.Test.YtlhcjoaeipgbeaaItemW
namespace Go.Proofs.Ytlhcjoaeipgbeaa
open Go.ChangeShapes Go.WideShapes Go.ChangeAt Go.RowKit
open Go.ChangeMaps (open_string shut_string)

namespace OctNil
theorem mask15 (x : Int) : ∃ m : Nat, bits BinOp.and IntKind.i64 x 15 = (m : Int) ∧ m ≤ 15 := by
  have hb : (BitVec.ofInt 64 15).toNat = 15 := by decide
  have h : ((BitVec.ofInt 64 x) &&& (BitVec.ofInt 64 15)).toNat ≤ 15 := by
    rw [BitVec.toNat_and, ← hb]
    exact Nat.le_trans Nat.and_le_right (by rw [hb]; exact Nat.le_refl _)
  refine ⟨((BitVec.ofInt 64 x) &&& (BitVec.ofInt 64 15)).toNat, ?_, h⟩
  exact IntWalk.i64_in ((((BitVec.ofInt 64 x) &&& (BitVec.ofInt 64 15)).toNat : Nat) : Int) ⟨by omega, by omega⟩
theorem zeros_bytes (n : Nat) : (madeCells (Value.int .u8 0).cells (n * 1)).toList = bytesV (List.replicate n 0) := by
  show (madeCells #[Value.int .u8 0] (n * 1)).toList = _
  rw [toList_madeCells_one, Nat.mul_one]
  simp [bytesV]
theorem zeros_ints (n : Nat) : (madeCells (Value.int .i64 0).cells (n * 1)).toList = intsV (List.replicate n 0) := by
  show (madeCells #[Value.int .i64 0] (n * 1)).toList = _
  rw [toList_madeCells_one, Nat.mul_one]
  simp [intsV]
theorem zeros_fine (n : Nat) : Oct.badInts (List.replicate n 0) = false := by
  unfold Oct.badInts
  rw [List.any_eq_false]
  intro x hx
  rw [(List.mem_replicate.1 hx).2]
  decide

theorem size2 {w w' : World} {c d : Obj} {row : Option Nat} (h : ((w.alloc c).alloc d).grownBy w' row) : w.heap.size + 2 ≤ w'.heap.size := by
  have h1 := h.size
  rw [World.size_alloc, World.size_alloc] at h1
  exact h1
theorem out_next (w : World) (T : TypeId) (c : Obj) : OutAt ((w.alloc c).alloc (.cells #[.slice none 0 0, .bool false] T)) (w.heap.size + 1) 0 (.slice none 0 0) [] false := by
  have h := OutAt_new (w.alloc c) T
  rw [World.size_alloc] at h
  exact h

set_option maxRecDepth 100000 in
set_option maxHeartbeats 400000 in
theorem walk (x : It) (n : Int) (_ : -9223372036854775808 ≤ n ∧ n ≤ 9223372036854775807) (w : World) (h : ItOK w x) :
    Calls Try.prog 9 #[.agg (itV x).toArray, .int .i64 n] w fun e w' => e = .returned (.bool true) ∧ Frm No w w' := by
  have HW := hid (fun w (h : ItOK w x) => write_nil x w h)
  have HOK := hid h
  obtain ⟨m, hm, hm15⟩ := mask15 n
  obtain ⟨i0, hi, hz0, hz1, hz2⟩ := info_parts info_u8
  obtain ⟨i1, gi, gz0, gz1, gz2⟩ := info_parts info_int
  obtain ⟨N, hN⟩ : ∃ N, N = 65530 + m := ⟨_, rfl⟩
  have hL : Hid ((65530 + (m : Int)) = (N : Int)) := hid (by omega)
  have hB : Hid (i0.bytes * N ≤ 281474976710656) := hid (by rw [hz2]; omega)
  have hG : Hid (i1.bytes * N ≤ 281474976710656) := hid (by rw [gz2]; omega)
  have hM : Hid (N ≤ maxLen) := hid (by unfold maxLen; omega)
  have H1 : Hid ((false || decide (65536 < (List.replicate N (0 : UInt8)).length)) = decide (6 < m)) := by
    refine hid ?_
    rw [Bool.false_or, List.length_replicate]
    exact decide_eq_decide.2 (by omega)
  have H2 : Hid ((false || (decide (65536 < (List.replicate N (0 : Int)).length) || Oct.badInts (List.replicate N 0))) = decide (6 < m)) := by
    refine hid ?_
    rw [Bool.false_or, zeros_fine, Bool.or_false, List.length_replicate]
    exact decide_eq_decide.2 (by omega)
  have hN1 : N ≤ 65545 := by omega
  have H3 : decide ((65530 : Int) + (m : Int) ≤ 65536) = !decide (6 < m) := by
    rw [← decide_not]
    exact decide_eq_decide.2 (by omega)
  clear h hN
  obtain ⟨k, n0, b, t, ns, zs, ts, ss⟩ := x
  unfold itV at *
  simp only at *
  go_enter Try.func9, Try.ntmps9
  go_wp2_with (first | (go_at_call 20; refine (octspeaks _).mono ?_; rintro e w1 ⟨rfl, hf1⟩; have q := hf1.box; have hfa : Frm No w w1 := ((Frm.refl No w).alloc _).thenNo hf1) | (go_at_call 42; refine (HW.out _ (HOK.out.no hfa)).mono ?_; rintro e w2 ⟨rfl, hf2⟩) | (at_make; refine wpList_make_full _ rfl (.tmp 69) (.tmp 69) 54 rfl 0 5 i0 (.int .u8 0) 1 Try.underlying54 hi hz0 hz1 .i64 .i64 _ _ N rfl rfl hL.out hL.out hB.out hM.out (Nat.zero_le _) ?_; intro wb hown hgb; rw [zeros_bytes] at hown; have hcv := run_convert_own (P := Try.prog) Try.underlying54 Try.underlying5 Try.underlying9 hown; have ho1 : OutAt wb w2.heap.size 0 (.slice none 0 0) [] false := (OutAt_new w2 56).frm (((Frm.refl No _).alloc _).grown hgb (fun _ _ e => by cases e)) (fun h => h) (fun _ _ h => h); have ho2 : OutAt wb (w2.heap.size + 1) 0 (.slice none 0 0) [] false := (out_next w2 _ _).frm ((Frm.refl No _).grown hgb (fun _ _ e => by cases e)) (fun h => h) (fun _ _ h => h); have hfb : Frm No w wb := (((hfa.thenNo hf2).alloc _).alloc _).grown hgb (fun _ _ e => by cases e); have hsb : w2.heap.size + 2 ≤ wb.heap.size := size2 hgb; have hsa : w.heap.size ≤ w2.heap.size := (hfa.thenNo hf2).size; rw [World.size_alloc, World.size_alloc] at hcv; clear hown hgb) | (go_at_call 43; refine (out_text _ 0 _ [] (List.replicate N 0) false _ ho1 (by simp) (by simp; omega)).mono ?_; rintro e wc ⟨rfl, v1, hp1⟩; rw [H1.out] at hp1; have ho2' := ho2.frm hp1.frm (fun h => by rcases h with h | h; exact absurd h (by omega); cases h) (fun _ h => by cases h); have hsc := hp1.frm.size; have hfc : Frm No w wc := OutPost.no hp1 hfb (by omega) (fun _ h => by cases h)) | (at_make; refine wpList_make_full _ rfl (.tmp 73) (.tmp 73) 53 rfl 0 3 i1 (.int .i64 0) 1 Try.underlying53 gi gz0 gz1 .i64 .i64 _ _ N rfl rfl hL.out hL.out hG.out hM.out (Nat.zero_le _) ?_; intro wd hown hgd; rw [zeros_ints] at hown; have ho2d := ho2'.frm ((Frm.refl No _).grown hgd (fun _ _ e => by cases e)) (fun h => h) (fun _ _ h => h); have hfd : Frm No w wd := hfc.grown hgd (fun _ _ e => by cases e)) | (go_at_call 44; refine (out_ints _ 0 _ [] false _ (List.replicate N 0) _ ho2d (by simp; omega) (by simpa using Rd.ofOwn hown) (fun k h1 h2 => by simp [Value.ownBlock] at h1; rcases h2 with h2 | h2; omega; cases h2)).mono ?_; rintro e we ⟨rfl, v2, hp2⟩; rw [H2.out] at hp2; have hop : OutAt we w2.heap.size 0 v1 _ _ := (hp1.at_.frm ((Frm.refl No _).grown hgd (fun _ _ e => by cases e)) (fun h => h) (fun _ _ h => h)).frm hp2.frm (fun h => by rcases h with h | h; omega; cases h) (fun k hk h => by rcases h with h | h; rcases hp1.own with e | ⟨g, e, hg⟩; rw [e] at hk; cases hk; rw [e] at hk; cases hk; omega; cases h); have hfe : Frm No w we := OutPost.no hp2 hfd (by omega) (fun _ h => by cases h)) | (go_at_call 26; refine (out_bytes w2.heap.size 0 _ _ _ _ hop).mono ?_; rintro e w3 ⟨rfl, rfl⟩; clear hop) | (go_at_call 26; refine (out_bytes (w2.heap.size + 1) 0 _ _ _ _ hp2.at_).mono ?_; rintro e w3 ⟨rfl, rfl⟩) | (go_at_call 26; refine (out_bytes_nil _).mono ?_; rintro e w3 ⟨rfl, rfl⟩) | (go_at_call 28; refine (in_int_nil _).mono ?_; rintro e w3 ⟨rfl, rfl⟩) | (go_at_call 31; refine (in_bool_nil _).mono ?_; rintro e w3 ⟨rfl, rfl⟩) | (go_at_call 33; refine (in_text_nil _).mono ?_; rintro e w3 ⟨rfl, rfl⟩) | (go_at_call 36; refine (in_ints_nil _ _).mono ?_; rintro e w3 ⟨rfl, rfl⟩) | (go_at_call 38; refine (in_texts_nil _ _).mono ?_; rintro e w3 ⟨rfl, rfl⟩) | (go_at_call 29; refine (in_err_nil _).mono ?_; rintro e w3 ⟨rfl, rfl⟩) | (go_at_call 40; refine (in_end_nil _).mono ?_; rintro e w3 ⟨rfl, rfl⟩))
  all_goals
    go_ret
    exact ⟨rfl, hfe⟩

set_option maxRecDepth 100000 in
theorem lifted (os : Os) (started : os.Started) (H : Type) (enc : TypeId × Value → H) :
    ReturnsInHanded {} Try.checked os 9 .any (Rows.octetsNilSpec.pre6 enc Try.prog Try.f9 Rows.octetsNilRow.domain false) (Rows.octetsNilSpec.post enc Try.prog Try.f9 false true false false) := by
  refine returnsInHanded_of_change_sized (C := Try.checked) own started (by kernel_rfl) Try.func9
    (ChangeSpec.witness6 (enc := enc) (C := Try.checked) false ⟨#[], #[.agg #[.int .i64 0, .int .i64 0, .bool false, .string ByteArray.empty, .slice none 0 0, .slice none 0 0], .int .i64 0], []⟩ 8 (by kernel_rfl) (by kernel_rfl) (by kernel_rfl) (by kernel_rfl)) ?_
  intro W base args ds gs before hval0 hW _ hsz0 _
  have hsz : (DataW.weightsEach Try.prog (Try.f9.params.toList ++ Rows.octetsNilSpec.plain.varTypes Try.prog) (ds ++ gs)).all (· ≤ reachBytes) = true := hsz0
  clear hsz0
  have hval : ∀ (j : Nat) t v, Try.f9.params[j]? = some t → args[j]? = some v → Value.okWide Try.prog W .any base t v := hval0
  have hW' : DataW.Whole enc Try.prog Try.f9.params.toList Rows.octetsNilSpec.vars false W args.toList ds gs before := hW
  have hts : ∀ t ∈ Try.f9.params.toList, Try.prog.readableRec t = true ∧ t < Try.prog.types.size := by
    rw [Try.params9]
    intro t ht
    simp only [List.mem_cons, List.not_mem_nil, or_false] at ht
    rcases ht with rfl | rfl <;> exact ⟨by kernel_rfl, of_decide_eq_true (by kernel_rfl)⟩
  obtain ⟨p, q, hA0, hV, hbef, hfz, hnd⟩ := hW
  have hA : DataW.TrodAll enc Try.prog W 0 (fun _ => true) true Try.f9.params.toList args.toList ds p := hA0
  rw [Try.params9] at hA hval hsz
  obtain ⟨v0, vs0, d0, ds0, p0, q0, hargs, rfl, rfl, h0, r0⟩ := trodAll_cons hA
  obtain ⟨v1, vs1, d1, ds1, p1, q1, rfl, rfl, rfl, h1, r1⟩ := trodAll_cons r0
  obtain ⟨rfl, rfl, rfl⟩ := trodAll_nil r1
  obtain rfl : args = #[v0, v1] := by cases args; simp_all
  clear hA hA0 hval0
  obtain ⟨x0, rfl, hg0⟩ := open_item (enc := enc) h0 (hval 0 81 v0 rfl rfl)
  obtain ⟨a1, rfl, rfl, rfl, w1⟩ := open_int Try.underlying3 (hval 1 3 v1 rfl rfl) h1
  have b1 := bounds_i64 w1
  refine (walk x0 a1 b1 W hg0).mono fun e W' ⟨he, hg⟩ => ?_
  subst he
  exact ⟨_, rfl, post_law hW' rfl Try.underlying4 rfl rfl rfl rfl laidOut hts hg.toBelow⟩

theorem over : Rows.octetsNilRow.holds Try.pinned (OpenSpec.ofChange Rows.octetsNilSpec) :=
  OpenClaim.holds_of_wide 9 Try.f9 rfl rfl rfl rfl rfl rfl rfl ⟨rfl, rfl, rfl, rfl, rfl⟩ rfl rfl rfl rfl rfl (by kernel_rfl) Try.func9 (by kernel_rfl)
    (of_decide_eq_true (by kernel_rfl)) (by unfold Func.isWrapper; first | (rw [if_pos (by decide +kernel)]; kernel_rfl) | (rw [if_neg (by decide +kernel)]; exact ⟨rfl, rfl⟩))
    (fun os started H enc _ => lifted os started H enc)

theorem proved : Rows.OctetsNilSaid :=
  over
#print axioms proved
end OctNil
end Go.Proofs.Ytlhcjoaeipgbeaa
