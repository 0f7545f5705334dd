/- RollFull: as many members and classes as there may be are taken, and one more is not, for every number. Printed by a program (rollfull.py). -/
import Derived.Test.YtekailaoanpcgaaRollFL
import Derived.Test.YtekailaoanpcgaaRollF
import Derived.Test.YtekailaoanpcgaaRollW
import Derived.Test.YtekailaoanpcgaaRollP
import Derived.BigQuiet
namespace Go.Proofs.Ytekailaoanpcgaa
open Go.ChangeShapes Go.WideShapes Go.ChangeAt Go.RowKit Go.Deep
open Roll
namespace RollFull
theorem flatMap_le {α : Type} (f : α → List UInt8) (c : Nat) : ∀ (l : List α) (_ : ∀ x ∈ l, (f x).length ≤ c), (l.flatMap f).length ≤ l.length * c
  | [], _ => by simp
  | a :: l, h => by
    have h1 := flatMap_le f c l (fun x hx => h x (by simp [hx]))
    have h2 := h a (by simp)
    rw [List.flatMap_cons, List.length_append, List.length_cons, Nat.succ_mul]
    omega
theorem put_len {R : Rl} (h : Inv R) : (Roll.put R).length ≤ 281474976710656 := by
  have hml := h.ml
  have hcl := h.cl
  have ht := fun s : B => Oct.text_le s
  have he := fun n : Int => Oct.enc_le n
  have h1 := flatMap_le memB 70000 R.mems (fun m _ => by
    have := ht m.name
    have := he m.role
    have := he m.quota
    simp only [memB, List.length_append]
    omega)
  have h2 := flatMap_le clsB 20000000 R.clss (fun c hc => by
    have := ht c.name
    have := ht c.teacher
    have := he c.students.length
    have hs := h.students hc
    have h3 : (Oct.texts c.students).length ≤ c.students.length * 70000 := flatMap_le Oct.text 70000 c.students (fun s _ => by have := ht s; omega)
    have h4 : c.students.length * 70000 ≤ 256 * 70000 := Nat.mul_le_mul_right _ hs
    simp only [clsB, List.length_append]
    omega)
  have h5 : R.mems.length * 70000 ≤ 256 * 70000 := Nat.mul_le_mul_right _ hml
  have h6 : R.clss.length * 20000000 ≤ 32 * 20000000 := Nat.mul_le_mul_right _ hcl
  have := he R.mems.length
  have := he R.clss.length
  simp only [Roll.put, List.length_append]
  omega
theorem and15 (n : Int) : bits .and .i64 n 15 = n % 16 := by
  have h15 : (BitVec.ofInt 64 15).toNat = 2 ^ 4 - 1 := by decide
  have key : (BitVec.ofInt 64 n &&& BitVec.ofInt 64 15).toNat = (n % ((2 ^ 64 : Nat) : Int)).toNat % 2 ^ 4 := by
    rw [BitVec.toNat_and, BitVec.toNat_ofInt, h15, Nat.and_two_pow_sub_one_eq_mod]
  show IntKind.i64.wrap ((BitVec.ofInt 64 n &&& BitVec.ofInt 64 15).toNat : Nat) = n % 16
  rw [key, IntKind.wrap_i64]
  omega
/-- A roll was stored in block E. -/
theorem set2 {w wr : World} {E : Nat} {mv cv mv2 cv2 : Value} {R2 : Rl} (hE : Box w wr E [mv, cv]) (h1 : ∃ a n c, mv = .slice a n c) (h2 : ∃ a n c, cv = .slice a n c) (hr : RlR wr mv2 cv2 R2) : Box w ((wr.setCell ⟨E, 0, none⟩ mv2).setCell ⟨E, 1, none⟩ cv2) E [mv2, cv2] ∧ RlR ((wr.setCell ⟨E, 0, none⟩ mv2).setCell ⟨E, 1, none⟩ cv2) mv2 cv2 R2 := by
  have hns : ∀ (j : Nat) s, wr.cell? ⟨E, j, none⟩ ≠ some (.string s) := fun j s e => noStr2 h1 h2 j s (by rw [← hE.cell j]; exact e)
  refine ⟨?_, hr.box hns ((setCell_own _).then_ (setCell_own _))⟩
  have := (hE.set 0 (by simp) mv2).set 1 (by simp) cv2
  simpa using this
set_option maxRecDepth 100000 in
set_option maxHeartbeats 8000000 in
theorem walk (n : Int) (_hn : Fits n) (w : World) :
    Calls Try.prog 6 #[.int .i64 n] w fun e w' => e = .returned (.bool true) ∧ Frm No w w' := by
  go_enter Try.func6, Try.ntmps6
  go_upto_region 4 with (go_at_call 7; refine (rollspeaks _).mono ?_; rintro e w1 ⟨rfl, hf1⟩)
  have hb : wrap64 (250 + bits BinOp.and IntKind.i64 n 15) = 250 + n % 16 := by rw [and15]; exact IntWalk.wrap64_in _ (by omega)
  obtain ⟨N, hN⟩ : ∃ N : Nat, (N : Int) = 250 + n % 16 := ⟨(250 + n % 16).toNat, by omega⟩
  have hN1 : 250 ≤ N := by omega
  have hN2 : N ≤ 265 := by omega
  rw [hb, ← hN]
  clear hb hN
  generalize bits BinOp.and IntKind.i64 n 15 = b15 at *
  have BE := Box.new hf1 [.slice none 0 0, .slice none 0 0] 27
  have HR0 := hid (nil_rd (w1.alloc (.cells #[.slice none 0 0, .slice none 0 0] 27)))
  obtain ⟨E, hE⟩ : ∃ E, w1.heap.size = E := ⟨_, rfl⟩
  rw [hE] at BE
  (try simp only [hE])
  have HI := hid BE
  have hc2 := fun (W : World) (x y z : Int) => conv_three (P := Try.prog) (W := W) (src := 33) (dst := 9) (e := 5) Try.underlying33 Try.underlying5 Try.underlying9 x y z
  have HE := hid (fun w1 mv cv R x (hr : RlR w1 mv cv R) (hI : Inv R) (hx : x.length ≤ 65536) => renrol_any R mv cv x 2 w1 hr hI (by omega))
  have HO := hid (fun w1 mv cv R x (hr : RlR w1 mv cv R) (hI : Inv R) (hx : x.length ≤ 65536) => ropen_any R mv cv x [97, 97, 120] w1 hr hI (by omega))
  have hn10 : n1 0 = [97, 97, 120] := by decide
  have HN10 := hid hn10
  clear hn10
  clear BE hf1
  go_wp2_with fail
  go_loopw [4, 5, 6, 7] (fun iv _ _ _ wr => ∃ (i : Nat) (mv cv : Value) (R : Rl), i ≤ N ∧ iv = .int .i64 (i : Int) ∧ Box w wr E [mv, cv] ∧ RlR wr mv cv R ∧ Fu1 R i)
    (fun iv _ _ _ _ => N - (intOf iv).toNat)
  case atStart => exact ⟨0, _, _, Roll.nil, by omega, rfl, HI.out, HR0.out, fu1_nil⟩
  case round =>
    clear HI HR0
    obtain ⟨i, mv, cv, R, hi, rfl, hB, hR, hF⟩ := hrel
    obtain ⟨ma, ml, mc, ca, cl, cc, rfl, rfl⟩ := hR.any
    have HB := hid hB
    have HR := hid hR
    have HF := hid hF
    clear hB hR hF
    by_cases hin : i < N
    · as_aux_lemma =>
      have hinz : (i : Int) < (N : Int) := by omega
      go_upto_region 9 with fail
      have hnm : (⟨#[UInt8.ofNat (97 + i / 26 % 26), UInt8.ofNat (97 + i % 26), 120]⟩ : ByteArray) = ⟨(n1 i).toArray⟩ := by
        unfold n1
        rw [Nat.mod_eq_of_lt (a := i / 26) (by omega)]
      rw [hnm]
      clear hnm hc2
      have hnl : (n1 i).length ≤ 65536 := by simp [n1]
      have hFq := (Frm.refl No wr).alloc (.cells #[.int .u8 (97 + (i : Int) / 26 % 26), .int .u8 (97 + (i : Int) % 26), .int .u8 120] 5)
      have HBq := hid (HB.out.no hFq)
      have HRq := hid (HR.out.no hFq)
      clear hFq HB HR
      generalize wr.alloc (.cells #[.int .u8 (97 + (i : Int) / 26 % 26), .int .u8 (97 + (i : Int) % 26), .int .u8 120] 5) = WQ at *
      have HCALL := hid (HE.out WQ _ _ R (n1 i) HRq.out HF.out.inv hnl)
      have cE := HBq.out.cell
      clear hnl HE HO
      by_cases hi6 : i < 256
      · as_aux_lemma =>
        obtain ⟨R2, he, hF2⟩ := HF.out.next hi6
        rw [he] at HCALL
        have HF2 := hid hF2
        have hi6z : ¬ (256 : Int) ≤ (i : Int) := by omega
        clear he hF2 HF
        generalize n1 i = nm at *
        go_wp2_with (go_at_call 8; refine HCALL.out.mono ?_; rintro e w5 ⟨mv2, cv2, rfl, hr2, hf5⟩; obtain ⟨a2, l2, c2, a3, l3, c3, rfl, rfl⟩ := hr2.any; have bE5 := (HBq.out.no hf5).no ((Frm.refl No w5).alloc (.cells #[.slice a2 l2 c2, .slice a3 l3 c3] 27)); have cE5 := bE5.cell; have fE5 := bE5.fr; have hr5 := hr2.no ((Frm.refl No w5).alloc (.cells #[.slice a2 l2 c2, .slice a3 l3 c3] 27)))
        obtain ⟨h1, h2⟩ := set2 bE5 ⟨_, _, _, rfl⟩ ⟨_, _, _, rfl⟩ hr5
        exact ⟨⟨i + 1, _, _, R2, by omega, by go_num, h1, h2, HF2.out⟩, by simp only [intOf]; omega⟩
      · as_aux_lemma =>
        obtain ⟨he, hF2⟩ := HF.out.more (by omega) (by omega)
        rw [he] at HCALL
        have HF2 := hid hF2
        have hi6z : (256 : Int) ≤ (i : Int) := by omega
        have hi6y : 256 ≤ i := by omega
        clear he hF2 HF
        generalize n1 i = nm at *
        go_wp2_with (go_at_call 8; refine HCALL.out.mono ?_; rintro e w5 ⟨mv2, cv2, rfl, hr2, hf5⟩; obtain ⟨a2, l2, c2, a3, l3, c3, rfl, rfl⟩ := hr2.any)
        have hf6 := hf5.alloc (.cells #[.slice a2 l2 c2, .slice a3 l3 c3] 27)
        exact ⟨⟨i + 1, _, _, R, by omega, by go_num, HBq.out.no hf6, HRq.out.no hf6, HF2.out⟩, by simp only [intOf]; omega⟩
    · as_aux_lemma =>
      obtain rfl : i = N := by omega
      have hinz : ¬ (i : Int) < (i : Int) := by omega
      obtain ⟨M, hM⟩ : ∃ M, min i 256 = M := ⟨_, rfl⟩
      have hF2 := HF.out.two (by omega)
      rw [hM] at hF2
      have HF2 := hid hF2
      have HM := hid hM
      clear hF2 HE HF hM
      go_wp2_with fail
      go_loopw [8, 9, 10] (fun iv _ _ wr => ∃ (k : Nat) (mv cv : Value) (R : Rl), k ≤ 34 ∧ iv = .int .i64 (k : Int) ∧ Box w wr E [mv, cv] ∧ RlR wr mv cv R ∧ Fu2 R M k)
        (fun iv _ _ _ => 34 - (intOf iv).toNat)
      case atStart => exact ⟨0, _, _, R, by omega, rfl, HB.out, HR.out, HF2.out⟩
      case round =>
        clear HB HR HF2
        obtain ⟨k, mv, cv, R, hk, rfl, hB, hR, hF⟩ := hrel
        obtain ⟨ma, ml, mc, ca, cl, cc, rfl, rfl⟩ := hR.any
        have HB := hid hB
        have HR := hid hR
        have HF := hid hF
        have cE := hB.cell
        clear hB hR hF
        by_cases hkn : k < 34
        · as_aux_lemma =>
          have hknz : (k : Int) < 34 := by omega
          have hnl : (n2 k).length ≤ 65536 := by simp [n2]
          have hnm : (⟨#[99, 97 + UInt8.ofNat (k / 26), 97 + UInt8.ofNat (k % 26)]⟩ : ByteArray) = ⟨(n2 k).toArray⟩ := by simp [n2]
          have hFq := (Frm.refl No wr).alloc (.cells #[.int .u8 99, .int .u8 (97 + (k : Int) / 26), .int .u8 (97 + (k : Int) % 26)] 5)
          have hO2 := HO.out _ _ _ R (n2 k) (HR.out.no hFq) HF.out.inv hnl
          rw [← hnm] at hO2
          have HB2 := hid (HB.out.no hFq)
          have HR2 := hid (HR.out.no hFq)
          clear hnl HO hnm hFq
          by_cases hk6 : k < 32
          · as_aux_lemma =>
            obtain ⟨R2, he, hF2⟩ := HF.out.next hk6
            rw [HN10.out] at he
            rw [he] at hO2
            have HO2 := hid hO2
            have HF2 := hid hF2
            have hk6z : ¬ (32 : Int) ≤ (k : Int) := by omega
            clear he hF2 HF hO2
            go_wp2_with (go_at_call 9; refine HO2.out.mono ?_; rintro e w5 ⟨mv2, cv2, rfl, hr2, hf5⟩; obtain ⟨a2, l2, c2, a3, l3, c3, rfl, rfl⟩ := hr2.any; have bE5 := (HB2.out.no hf5).no ((Frm.refl No w5).alloc (.cells #[.slice a2 l2 c2, .slice a3 l3 c3] 27)); have cE5 := bE5.cell; have fE5 := bE5.fr; have hr5 := hr2.no ((Frm.refl No w5).alloc (.cells #[.slice a2 l2 c2, .slice a3 l3 c3] 27)))
            obtain ⟨h1, h2⟩ := set2 bE5 ⟨_, _, _, rfl⟩ ⟨_, _, _, rfl⟩ hr5
            exact ⟨⟨k + 1, _, _, R2, by omega, by go_num, h1, h2, HF2.out⟩, by simp only [intOf]; omega⟩
          · as_aux_lemma =>
            obtain ⟨he, hF2⟩ := HF.out.more (by omega) (by omega)
            rw [HN10.out] at he
            rw [he] at hO2
            have HO2 := hid hO2
            have HF2 := hid hF2
            have hk6z : (32 : Int) ≤ (k : Int) := by omega
            have hk6y : 32 ≤ k := by omega
            clear he hF2 HF hO2
            go_wp2_with (go_at_call 9; refine HO2.out.mono ?_; rintro e w5 ⟨mv2, cv2, rfl, hr2, hf5⟩; obtain ⟨a2, l2, c2, a3, l3, c3, rfl, rfl⟩ := hr2.any; have hf6 := hf5.alloc (.cells #[.slice a2 l2 c2, .slice a3 l3 c3] 27))
            exact ⟨⟨k + 1, _, _, R, by omega, by go_num, HB2.out.no hf6, HR2.out.no hf6, HF2.out⟩, by simp only [intOf]; omega⟩
        · as_aux_lemma =>
          obtain rfl : k = 34 := by omega
          have hknz : ¬ (34 : Int) < 34 := by omega
          have HP := hid (fun w1 (hf : Frm No wr w1) => rput_any R _ _ w1 (HR.out.no hf) HF.out.inv)
          have HG := hid (fun w1 => rget_any (Roll.put R) w1 (put_len HF.out.inv))
          rw [get_put HF.out.inv] at HG
          have HML := hid HF.out.ml
          have HCL : Hid (R.clss.length = 32) := hid (by have := HF.out.len; omega)
          have hmin : min (i : Int) 256 = (M : Int) := by have := HM.out; omega
          have HFr := hid HB.out.frm
          clear HF HO HB HR hc2
          generalize Roll.put R = pp at *
          go_wp2_with (first | (go_at_call 11; refine (HP.out _ (Frm.refl No _)).mono ?_; rintro e w6 ⟨rfl, hf6⟩) | (go_at_call 16; refine (HG.out _).mono ?_; rintro e w7 ⟨mv3, cv3, rfl, hr3, hf7⟩; obtain ⟨a2, c2, a3, c3, rfl, rfl⟩ := hr3.shapes; rw [HML.out, HCL.out]))
          go_ret
          exact ⟨by simp, HFr.out.thenNo (hf6.thenNo (hf7.alloc _))⟩
set_option maxRecDepth 100000 in
theorem lifted (os : Os) (started : os.Started) (H : Type) (enc : TypeId × Value → H) :
    ReturnsInHanded {} Try.checked os 6 .any (Rows.rollFullSpec.pre6 enc Try.prog Try.f6 Rows.rollFullRow.domain false) (Rows.rollFullSpec.post enc Try.prog Try.f6 false true false false) := by
  refine returnsInHanded_of_change_sized (C := Try.checked) own started (by kernel_rfl) Try.func6
    (ChangeSpec.witness6 (enc := enc) (C := Try.checked) false ⟨#[], #[.int .i64 0], []⟩ 8 (by kernel_rfl) (by kernel_rfl) (by kernel_rfl) (by kernel_rfl)) ?_
  intro W base args ds gs before hval0 hW _ hsz0 _
  have hsz : (DataW.weightsEach Try.prog (Try.f6.params.toList ++ Rows.rollFullSpec.plain.varTypes Try.prog) (ds ++ gs)).all (· ≤ reachBytes) = true := hsz0
  clear hsz0
  have hval : ∀ (j : Nat) t v, Try.f6.params[j]? = some t → args[j]? = some v → Value.okWide Try.prog W .any base t v := hval0
  have hW' : DataW.Whole enc Try.prog Try.f6.params.toList Rows.rollFullSpec.vars false W args.toList ds gs before := hW
  have hts : ∀ t ∈ Try.f6.params.toList, Try.prog.readableRec t = true ∧ t < Try.prog.types.size := by
    rw [Try.params6]
    intro t ht
    simp only [List.mem_cons, List.not_mem_nil, or_false] at ht
    subst ht; exact ⟨by kernel_rfl, of_decide_eq_true (by kernel_rfl)⟩
  obtain ⟨p, q, hA0, hV, hbef, hfz, hnd⟩ := hW
  have hA : DataW.TrodAll enc Try.prog W 0 (fun _ => true) true Try.f6.params.toList args.toList ds p := hA0
  rw [Try.params6] at hA hval hsz
  obtain ⟨v0, vs0, d0, ds0, p0, q0, hargs, rfl, rfl, h0, r0⟩ := trodAll_cons hA
  obtain ⟨rfl, rfl, rfl⟩ := trodAll_nil r0
  obtain rfl : args = #[v0] := by cases args; simp_all
  clear hA hA0 hval0
  obtain ⟨a0, rfl, rfl, rfl, w0⟩ := open_int Try.underlying3 (hval 0 3 v0 rfl rfl) h0
  have b0 := bounds_i64 w0
  refine (walk a0 b0 W ).mono fun e W' ⟨he, hg⟩ => ?_
  subst he
  exact ⟨_, rfl, post_law hW' rfl Try.underlying4 rfl rfl rfl rfl laidOut hts hg.toBelow⟩

theorem over : Rows.rollFullRow.holds Try.pinned (OpenSpec.ofChange Rows.rollFullSpec) :=
  OpenClaim.holds_of_wide 6 Try.f6 rfl rfl rfl rfl rfl rfl rfl ⟨rfl, rfl, rfl, rfl, rfl⟩ rfl rfl rfl rfl rfl (by kernel_rfl) Try.func6 (by kernel_rfl)
    (of_decide_eq_true (by kernel_rfl)) (by unfold Func.isWrapper; first | (rw [if_pos (by decide +kernel)]; kernel_rfl) | (rw [if_neg (by decide +kernel)]; exact ⟨rfl, rfl⟩))
    (fun os started H enc _ => lifted os started H enc)

theorem proved : Rows.RollFullSaid :=
  over
#print axioms proved
end RollFull
end Go.Proofs.Ytekailaoanpcgaa
