/- The walk of command.GetReply. -/
import Derived.Test.YtjhodcdjkokkoaaStore7
import Derived.Test.YtjhodcdjkokkoaaMark2
import Derived.BigQuiet
namespace Go.Proofs.Ytjhodcdjkokkoaa
open Go.RowKit

theorem run_store_flt (P : Program) (w : World) (a : Addr) (m : Mode) (k : FloatKind) (b : Nat) : (store a (.float k b) m).run P w = stored P w a (.float k b) m := run_store P w a _ m rfl
attribute [local go_sem] run_store_flt
set_option maxRecDepth 100000 in
set_option maxHeartbeats 4000000 in
theorem rget_any (s : List UInt8) (w : World) (hl : s.length ≤ 281474976710656) :
    Calls Try.prog 17 #[.string ⟨s.toArray⟩] w fun e w' => ∃ tv mv, e = .returned (.tuple #[rpV (Rep.get s).1 tv mv, .int .i64 (Rep.get s).2]) ∧ Rd w' tv (Rep.get s).1.texts.length 1 (strsV (Rep.get s).1.texts) ∧ Rd w' mv (Rep.get s).1.marks.length 1 (fltV (Rep.get s).1.marks) ∧ Frm No w w' := by
  obtain ⟨i0, gi, gz0, gz1, gz2⟩ := info_parts info_float
  obtain ⟨⟨k0, s0, e0⟩, h0⟩ : ∃ x, Oct.rInt s 0 = x := ⟨_, rfl⟩
  obtain ⟨⟨a, s1, e1⟩, h1⟩ : ∃ x, Oct.rInt s0 e0 = x := ⟨_, rfl⟩
  obtain ⟨⟨b0, s2, e2⟩, h2⟩ : ∃ x, Oct.rInt s1 e1 = x := ⟨_, rfl⟩
  obtain ⟨⟨c, s3, e3⟩, h3⟩ : ∃ x, Oct.rInt s2 e2 = x := ⟨_, rfl⟩
  obtain ⟨⟨t, s4, e4⟩, h4⟩ : ∃ x, Oct.rText s3 e3 = x := ⟨_, rfl⟩
  obtain ⟨⟨ts, s5, e5⟩, h5⟩ : ∃ x, Oct.rTexts 4096 s4 e4 = x := ⟨_, rfl⟩
  obtain ⟨⟨l, s6, e6⟩, h6⟩ : ∃ x, Oct.rTexts 4096 s5 e5 = x := ⟨_, rfl⟩
  have hget : Rep.get s = Rep.fin (⟨k0, a, b0, c, t, ts, []⟩, l, s6, e6) := by rw [Rep.get, Rep.rd_of h0 h1 h2 h3 h4 h5 h6]
  have lw := rTexts_small 4096 s5 e5
  have lc := rTexts_count 4096 s5 e5
  rw [h6] at lw lc
  have HLW := hid lw
  clear lw
  generalize Rep.get s = R at *
  replace hget : Hid (R = Rep.fin (⟨k0, a, b0, c, t, ts, []⟩, l, s6, e6)) := hget
  have HI0 := hid (fun (w1 : World) (b : Nat) (h : InAt w1 b s 0) => pint0 h hl h0)
  have HI1 := hid (fun (w0 wS w1 : World) (b C : Nat) (h : Rdr w0 wS w1 b s0 e0 C [.int .i64 k0, .int .i64 0, .int .i64 0, .int .i64 0, .string ⟨#[]⟩, .slice none 0 0, .slice none 0 0]) => h.int h1)
  have HI2 := hid (fun (w0 wS w1 : World) (b C : Nat) (h : Rdr w0 wS w1 b s1 e1 C [.int .i64 k0, .int .i64 a, .int .i64 0, .int .i64 0, .string ⟨#[]⟩, .slice none 0 0, .slice none 0 0]) => h.int h2)
  have HI3 := hid (fun (w0 wS w1 : World) (b C : Nat) (h : Rdr w0 wS w1 b s2 e2 C [.int .i64 k0, .int .i64 a, .int .i64 b0, .int .i64 0, .string ⟨#[]⟩, .slice none 0 0, .slice none 0 0]) => h.int h3)
  have HI4 := hid (fun (w0 wS w1 : World) (b C : Nat) (h : Rdr w0 wS w1 b s3 e3 C [.int .i64 k0, .int .i64 a, .int .i64 b0, .int .i64 c, .string ⟨#[]⟩, .slice none 0 0, .slice none 0 0]) => h.text h4)
  have HI5 := hid (fun (w0 wS w1 : World) (b C : Nat) (h : Rdr w0 wS w1 b s4 e4 C [.int .i64 k0, .int .i64 a, .int .i64 b0, .int .i64 c, .string ⟨t.toArray⟩, .slice none 0 0, .slice none 0 0]) => h.texts h5)
  have HI6 := hid (fun (w0 wS w1 : World) (b C : Nat) (tv : Value) (h : Rdr w0 wS w1 b s5 e5 C [.int .i64 k0, .int .i64 a, .int .i64 b0, .int .i64 c, .string ⟨t.toArray⟩, tv, .slice none 0 0]) => h.texts h6)
  clear h0 h1 h2 h3 h4 h5 h6
  go_enter Try.func17, Try.ntmps17
  go_wp2_with (first | (go_at_call 39; refine (HI6.out _ _ _ _ _ _ ((r5.set 5 (by simp) _).restart)).mono ?_; rintro q8 w8 ⟨lv, rfl, hownl, r6, hapl⟩; obtain ⟨lao, lcp, hlv⟩ := ownsRow_shape hownl; subst hlv; have c6 := r6.cell; have f6 := r6.fr) | (go_at_call 39; refine (HI5.out _ _ _ _ _ (r4.set 4 (by simp) _)).mono ?_; rintro q7 w7 ⟨tv, rfl, hownt, r5, hapt⟩; obtain ⟨tao, tcp, htv⟩ := ownsRow_shape hownt; subst htv; have c5 := r5.cell; have f5 := r5.fr) | (go_at_call 38; refine (HI4.out _ _ _ _ _ (r3.set 3 (by simp) _)).mono ?_; rintro q6 w6 ⟨rfl, r4⟩; have c4 := r4.cell; have f4 := r4.fr) | (go_at_call 37; refine (HI3.out _ _ _ _ _ (r2.set 2 (by simp) _)).mono ?_; rintro q5 w5 ⟨rfl, r3⟩; have c3 := r3.cell; have f3 := r3.fr) | (go_at_call 37; refine (HI2.out _ _ _ _ _ (r1.set 1 (by simp) _)).mono ?_; rintro q4 w4 ⟨rfl, r2⟩; have c2 := r2.cell; have f2 := r2.fr) | (go_at_call 37; refine (HI1.out _ _ _ _ _ (Rdr.begin3 hb hin2 hl0 hf1 hf2 [.int .i64 k0, .int .i64 0, .int .i64 0, .int .i64 0, .string ⟨#[]⟩, .slice none 0 0, .slice none 0 0] 44)).mono ?_; rintro q3 w3 ⟨rfl, r1⟩; have c1 := r1.cell; have f1 := r1.fr) | (go_at_call 37; refine (HI0.out _ _ hin).mono ?_; rintro q2 w2 ⟨rfl, hin2, hf2, hl0⟩) | (go_at_call 36; refine (in_open s _).mono ?_; rintro q1 w1 ⟨b, rfl, hb, hin, hf1⟩))
  have hlenT : (strsV ts).length = ts.length := by simp
  have hlenL : (strsV l).length = l.length := by simp
  have hrdT : Rd w8 (.slice tao (strsV ts).length tcp) (strsV ts).length 1 (strsV ts) :=
    ((Rd.ofOwn hownt).frm (S := One w2.heap.size) (setCell_none _) (fun k hk h => hapt k hk (.inr h))).frm r6.mov hapt
  have hrdL := Rd.ofOwn hownl
  have hln : l.length ≤ 9223372036854775807 := by
    have h2 := ownsRow_max hownl
    simpa using h2
  have hwT : ∀ k, (Value.slice tao (strsV ts).length tcp).ownBlock = some k → ¬ One w.heap.size k := fun k hk e => by
    have h1 := (hownt.lt k hk).1
    have h2 := r4.frm.size
    have e : k = w.heap.size := e
    simp at h1 h2
    omega
  have r7 := r6.restart
  try rw [hlenT] at r7
  try rw [hlenT] at hrdT
  try rw [hlenT] at hapt
  try rw [hlenT] at hwT
  try rw [hlenL] at hrdL
  try rw [hlenL] at hapl
  have HRL := hid (fun (w' : World) (hf : Frm (Two2 b w2.heap.size) w8 w') => hrdL.frm hf hapl)
  have HRT := hid (fun (w' : World) (hf : Frm (Two2 b w2.heap.size) w8 w') => hrdT.frm hf hapt)
  clear r1 r2 r3 r4 r5 r6 c1 c2 c3 c4 c5 f1 f2 f3 f4 f5 c6 f6 hownt hownl hrdL hrdT hapt hapl HI0 HI1 HI2 HI3 HI4 HI5 HI6
  have c7 := r7.cell
  have f7 := r7.fr
  have cR := r7.frm.box
  have fR := bx_frozen r7.frm
  have hin7 := r7.in_
  by_cases he : e6 = 0
  · subst he
    by_cases hk : k0 < 0 ∨ 20 < k0
    · obtain rfl : R = (Rep.none_, 2) := by rw [hget.out]; exact Rep.fin_code hk
      clear hget
      by_cases hkn : k0 < 0
      all_goals
        go_wp2_with (first | (go_at_call 40; refine (in_err _ _ _ _ hin7).mono ?_; rintro q1 w9 ⟨rfl, rfl⟩))
        obtain ⟨z0, z1, z2, z3, z4, z5, z6⟩ := store7_cell (cR 0) (cR 1) (cR 2) (cR 3) (cR 4) (cR 5) (cR 6) (.int .i64 0) (.int .i64 0) (.int .i64 0) (.int .i64 0) (.string ⟨#[]⟩) (.slice none 0 0) (.slice none 0 0)
        refine bodyPost_ret (v := .tuple #[.agg #[.int .i64 0, .int .i64 0, .int .i64 0, .int .i64 0, .string ⟨#[]⟩, .slice none 0 0, .slice none 0 0], .int .i64 2]) (by simp [results, Try.results17, go_sem, z0, z1, z2, z3, z4, z5, z6]) rfl ⟨_, _, rfl, Rd.nil _ 1 none 0, Rd.nil _ 1 none 0, (store7 (((Frm.refl No w).alloc _).thenNo r7.frm) (Nat.le_refl _) (.int .i64 0) (.int .i64 0) (.int .i64 0) (.int .i64 0) (.string ⟨#[]⟩) (.slice none 0 0) (.slice none 0 0))⟩
    · have hk1 : ¬ k0 < 0 := fun h => hk (.inl h)
      have hk2 : ¬ 20 < k0 := fun h => hk (.inr h)
      go_wp2_with (first | (go_at_call 40; refine (in_err _ _ _ _ hin7).mono ?_; rintro q1 w9 ⟨rfl, rfl⟩))
      go_loopw [52] (fun i wr => ∃ (k : Nat) (mv : Value), k ≤ l.length ∧ i = .int .i64 (k : Int) ∧ Rep.okM (l.take k) = true ∧ Rdr (w.alloc (.cells #[.int .i64 0, .int .i64 0, .int .i64 0, .int .i64 0, .string ⟨#[]⟩, .slice none 0 0, .slice none 0 0] 44)) w8 wr b s6 0 w2.heap.size [.int .i64 k0, .int .i64 a, .int .i64 b0, .int .i64 c, .string ⟨t.toArray⟩, (.slice tao ts.length tcp), mv] ∧ wr.ownsRow w8.heap.size 86 1 mv k (fltV (Rep.marksOf (l.take k)))) (fun i _ => l.length - (intOf i).toNat)
      case atStart => exact ⟨0, .slice none 0 0, by omega, rfl, rfl, r7, World.ownsRow_nil _ _ _ _⟩
      case round =>
        obtain ⟨k, mv, hkl, rfl, hok, r, hom⟩ := hrel
        clear r7 c7 f7 cR fR hin7
        have cR := r.frm.box
        have fR := bx_frozen r.frm
        have c8 := r.cell
        have f8 := r.fr
        have hin8 := r.in_
        by_cases hkl2 : k < l.length
        · have hkz : (k : Int) < (l.length : Int) := by omega
          obtain ⟨lb, lo, rfl, hlc⟩ := (HRL.out _ r.mov).at_ (by omega)
          have hlc' : wr.cell? ⟨lb, lo + k, none⟩ = some (.string ⟨l[k].toArray⟩) := by
            have := hlc k (by omega)
            simpa [strsV] using this
          have HG := hid (fun w => mget_any l[k] w (Nat.le_trans (HLW.out _ (List.getElem_mem hkl2)) (by decide)))
          have HOS := hid (okM_snoc hkl2)
          have HMS := hid (marksOf_snoc hkl2)
          have HNO := hid (okM_no (l := l) hkl2)
          have HML := hid (marksOf_take_len hkl)
          clear hlc
          generalize l[k] = x at *
          obtain ⟨⟨f, e⟩, hg⟩ : ∃ y, Mk.get x = y := ⟨_, rfl⟩
          rw [hg] at HG HOS HMS HNO
          dsimp only at HG HOS HMS HNO
          clear hg
          by_cases he : e = 0
          · subst he
            obtain ⟨mao, mcp, rfl⟩ := ownsRow_shape hom
            go_wp2_with (first | (go_at_call 46; refine (HG.out _).mono ?_; rintro q1 w9 ⟨rfl, rfl⟩) | (at_builtin; refine wpList_push1 _ rfl (.tmp 65) (.tmp 67) 42 rfl w8.heap.size 86 i0 _ 8 Try.underlying42 gi gz0 gz1 gz2 rfl (.slice mao k mcp) k (fltV (Rep.marksOf (l.take k))) rfl hom (.float .f64 f) rfl rfl (by omega) (by omega) r.mov.size ?_; intro u1 wa hown hfu hu hz2; obtain ⟨uao, ucp, hu1⟩ := ownsRow_shape hown; subst hu1; have ra := r.grow hom hfu; have ca := ra.cell; have fa := ra.fr))
            refine ⟨⟨k + 1, .slice uao (k + 1) ucp, by omega, by go_num, by rw [HOS.out, hok]; rfl, ra.set 6 (by simp) _, ?_⟩, by simp [intOf]; omega⟩
            rw [HMS.out, fltV_snoc]
            exact row_set7 hown ra.lC 6 _
          · obtain rfl : R = (Rep.none_, 2) := by rw [hget.out]; exact Rep.fin_form (by simpa using hk) (HNO.out he)
            have he' : (e == 0) = false := by simpa using he
            clear HOS HMS HNO HML hget
            go_wp2_with (first | (go_at_call 46; refine (HG.out _).mono ?_; rintro q1 w9 ⟨rfl, rfl⟩))
            obtain ⟨z0, z1, z2, z3, z4, z5, z6⟩ := store7_cell (cR 0) (cR 1) (cR 2) (cR 3) (cR 4) (cR 5) (cR 6) (.int .i64 0) (.int .i64 0) (.int .i64 0) (.int .i64 0) (.string ⟨#[]⟩) (.slice none 0 0) (.slice none 0 0)
            refine bodyPost_ret (v := .tuple #[.agg #[.int .i64 0, .int .i64 0, .int .i64 0, .int .i64 0, .string ⟨#[]⟩, .slice none 0 0, .slice none 0 0], .int .i64 2]) (by simp [results, Try.results17, go_sem, z0, z1, z2, z3, z4, z5, z6]) rfl ⟨_, _, rfl, Rd.nil _ 1 none 0, Rd.nil _ 1 none 0, (store7 (((Frm.refl No w).alloc _).thenNo r.frm) (Nat.le_refl _) (.int .i64 0) (.int .i64 0) (.int .i64 0) (.int .i64 0) (.string ⟨#[]⟩) (.slice none 0 0) (.slice none 0 0))⟩
        · obtain rfl : k = l.length := by omega
          rw [List.take_length] at hok hom
          have hml : (Rep.marksOf l).length = l.length := by simp [Rep.marksOf]
          have hmd : ∀ q, mv.ownBlock = some q → ¬ One w.heap.size q := fun q hq e => by
            have h1 := (hom.lt q hq).1
            have h2 := r.base.size
            have e : q = w.heap.size := e
            simp at h2
            omega
          have hrm := Rd.ofOwn hom
          have hrt := HRT.out _ r.mov
          obtain ⟨mao, mcp, rfl⟩ := ownsRow_shape hom
          clear HRL HRT HLW
          by_cases hs : s6 = []
          · subst hs
            obtain rfl : R = (⟨k0, a, b0, c, t, ts, Rep.marksOf l⟩, 0) := by rw [hget.out]; exact Rep.fin_ok (by simpa using hk) hok
            clear hget
            have hend : Oct.rEnd [] 0 = 0 := rfl
            go_wp2_with (first | (go_at_call 41; refine (in_end _ _ _ _ hin8).mono ?_; rintro q3 w10 ⟨rfl, rfl⟩; rw [hend]))
            obtain ⟨z0, z1, z2, z3, z4, z5, z6⟩ := store7_cell (cR 0) (cR 1) (cR 2) (cR 3) (cR 4) (cR 5) (cR 6) (.int .i64 k0) (.int .i64 a) (.int .i64 b0) (.int .i64 c) (.string ⟨t.toArray⟩) (.slice tao ts.length tcp) (.slice mao l.length mcp)
            refine bodyPost_ret (v := .tuple #[.agg #[.int .i64 k0, .int .i64 a, .int .i64 b0, .int .i64 c, .string ⟨t.toArray⟩, .slice tao ts.length tcp, .slice mao l.length mcp], .int .i64 0]) (by simp [results, Try.results17, go_sem, z0, z1, z2, z3, z4, z5, z6]) rfl ⟨_, _, rfl, hrt.frm (store7_one (.int .i64 k0) (.int .i64 a) (.int .i64 b0) (.int .i64 c) (.string ⟨t.toArray⟩) (.slice tao ts.length tcp) (.slice mao l.length mcp)) hwT, ?_, store7 (((Frm.refl No w).alloc _).thenNo r.frm) (Nat.le_refl _) (.int .i64 k0) (.int .i64 a) (.int .i64 b0) (.int .i64 c) (.string ⟨t.toArray⟩) (.slice tao ts.length tcp) (.slice mao l.length mcp)⟩
            exact hrm.frm (store7_one (.int .i64 k0) (.int .i64 a) (.int .i64 b0) (.int .i64 c) (.string ⟨t.toArray⟩) (.slice tao ts.length tcp) (.slice mao l.length mcp)) hmd
          · obtain rfl : R = (Rep.none_, 4) := by rw [hget.out]; exact Rep.fin_more (by simpa using hk) hok hs
            clear hget
            have hend : Oct.rEnd s6 0 = 4 := by unfold Oct.rEnd; rw [if_pos rfl, if_neg hs]
            have hs' : (s6 == []) = false := by simpa using hs
            go_wp2_with (first | (go_at_call 41; refine (in_end _ _ _ _ hin8).mono ?_; rintro q3 w10 ⟨rfl, rfl⟩; rw [hend]))
            obtain ⟨z0, z1, z2, z3, z4, z5, z6⟩ := store7_cell (cR 0) (cR 1) (cR 2) (cR 3) (cR 4) (cR 5) (cR 6) (.int .i64 0) (.int .i64 0) (.int .i64 0) (.int .i64 0) (.string ⟨#[]⟩) (.slice none 0 0) (.slice none 0 0)
            refine bodyPost_ret (v := .tuple #[.agg #[.int .i64 0, .int .i64 0, .int .i64 0, .int .i64 0, .string ⟨#[]⟩, .slice none 0 0, .slice none 0 0], .int .i64 4]) (by simp [results, Try.results17, go_sem, z0, z1, z2, z3, z4, z5, z6]) rfl ⟨_, _, rfl, Rd.nil _ 1 none 0, Rd.nil _ 1 none 0, (store7 (((Frm.refl No w).alloc _).thenNo r.frm) (Nat.le_refl _) (.int .i64 0) (.int .i64 0) (.int .i64 0) (.int .i64 0) (.string ⟨#[]⟩) (.slice none 0 0) (.slice none 0 0))⟩
  · obtain rfl : R = (Rep.none_, e6) := by rw [hget.out]; exact Rep.fin_err he
    clear hget
    have he' : (e6 == 0) = false := by simpa using he
    go_wp2_with (first | (go_at_call 40; refine (in_err _ _ _ _ hin7).mono ?_; rintro q1 w9 ⟨rfl, rfl⟩))
    obtain ⟨z0, z1, z2, z3, z4, z5, z6⟩ := store7_cell (cR 0) (cR 1) (cR 2) (cR 3) (cR 4) (cR 5) (cR 6) (.int .i64 0) (.int .i64 0) (.int .i64 0) (.int .i64 0) (.string ⟨#[]⟩) (.slice none 0 0) (.slice none 0 0)
    refine bodyPost_ret (v := .tuple #[.agg #[.int .i64 0, .int .i64 0, .int .i64 0, .int .i64 0, .string ⟨#[]⟩, .slice none 0 0, .slice none 0 0], .int .i64 e6]) (by simp [results, Try.results17, go_sem, z0, z1, z2, z3, z4, z5, z6]) rfl ⟨_, _, rfl, Rd.nil _ 1 none 0, Rd.nil _ 1 none 0, (store7 (((Frm.refl No w).alloc _).thenNo r7.frm) (Nat.le_refl _) (.int .i64 0) (.int .i64 0) (.int .i64 0) (.int .i64 0) (.string ⟨#[]⟩) (.slice none 0 0) (.slice none 0 0))⟩
end Go.Proofs.Ytjhodcdjkokkoaa
