/- For every command command.Put returns its encoding, or none where it is not good, as the document does, and command.Get reads it back. -/
import Derived.Test.YtfnhcnmlaginoaaCmdLg
import Derived.Test.YtfnhcnmlaginoaaCmdSpeaks
import Derived.Test.YtfnhcnmlaginoaaRawCopy
import Derived.Deep.RegionHeld3
import Derived.Deep.RegionLaw
import Derived.Deep.Cut
import Derived.Deep.CutRange
import Derived.Deep.CutBlock
namespace Go.Proofs.Ytfnhcnmlaginoaa
open Go.ChangeShapes Go.WideShapes Go.ChangeAt Go.RowKit
open Go.ChangeMaps (open_string shut_string)

namespace CmdPuts
theorem info_str : (Try.prog.info? 9).map (fun i => (i.zero, i.size, i.bytes)) = some (some (.string ByteArray.empty), 1, 16) := by kernel_rfl

set_option maxRecDepth 100000 in
set_option maxHeartbeats 4000000 in
theorem walk (x : Cm × Value) (w : World) (hok : RawOK w x) :
    Calls Try.prog 3 #[cmV x.1 x.2] w fun e w' => e = .returned (.bool true) ∧ Frm No w w' := by
  obtain ⟨c, wv⟩ := x
  have hsm := hok.small
  have hr := hok.rd
  dsimp only at *
  obtain ⟨i0, gi, gz0, gz1, gz2⟩ := info_parts info_str
  have HL := hid (fun w' (hf : Frm No w w') => lg_any c wv w' hsm (hr.frm hf (fun _ _ h => h)))
  cases hlg : Cmd.lg c
  · rw [hlg] at HL
    obtain ⟨l1, l2, l3, l4, l5, l6⟩ := Cmd.lg_parts hlg
    have HP := hid (fun v w1 (h1 : Rd w1 v c.word.length 1 (strsV c.word)) => cput_any c v w1 hsm h1)
    have HRD := hid hr
    have HPR := hid (fun v w1 (h1 : Rd w1 v c.word.length 1 (strsV c.word)) => rput_any c v w1 hsm h1)
    have HG := hid (fun v w1 (h1 : Rd w1 v c.word.length 1 (strsV c.word)) => cgood_any c v w1 hsm h1)
    have HGR := hid (fun v w1 (h1 : Rd w1 v c.word.length 1 (strsV c.word)) => rgood_any c v w1 hsm h1)
    have HT := hid (fun v1 v2 w1 h1 h2 => same_refl c v1 v2 w1 (by omega) h1 h2)
    have HE : Hid (Cmd.put c = Cmd.enc c → Cmd.get (Cmd.enc c) = (c, 0) → (Cmd.enc c).length ≤ 281474976710656 → ∀ w1, Calls Try.prog 18 #[.string ⟨(Cmd.enc c).toArray⟩] w1 fun e w' => ∃ wv, e = .returned (.tuple #[cmV c wv, .int .i64 0]) ∧ Rd w' wv c.word.length 1 (strsV c.word) ∧ Frm No w1 w') := by
      refine hid (fun _ hg hl w1 => ?_)
      have := cget_any (Cmd.enc c) w1 hl
      rw [hg] at this
      exact this
    clear hlg hok hsm
    obtain ⟨ao, cp, rfl⟩ := hr.shape
    clear hr
    obtain ⟨k, who, name, other, text, word, n0, n1, n2, n3⟩ := c
    unfold cmV at *
    dsimp only at *
    go_enter Try.func3, Try.ntmps3
    go_wp2_with (first | (go_at_call 12; refine (cmdspeaks _).mono ?_; rintro q w1 ⟨rfl, hf1⟩; have q1 := hf1.box) | (go_at_call 13; refine (HL.out _ (((Frm.refl No w).alloc _).thenNo hf1)).mono ?_; rintro q w2 ⟨rfl, hf2⟩; have q2 := fun j => (hf1.thenNo hf2).box j))
    have f2 := (((Frm.refl No w).alloc (.cells #[.int .i64 k, .string ⟨who.toArray⟩, .string ⟨name.toArray⟩, .string ⟨other.toArray⟩, .string ⟨text.toArray⟩, .slice ao word.length cp, .int .i64 n0, .int .i64 n1, .int .i64 n2, .int .i64 n3] 25)).thenNo hf1).thenNo hf2
    have hz := f2.size
    have hbz : w.heap.size < w2.heap.size := by have h1 := hf1.size; have h2 := hf2.size; simp at h1; omega
    have HS := hid (fun w' (hf : Frm No w2 w') => src_strs Try.underlying22 (HRD.out.frm (f2.thenNo hf) (fun _ _ h => h)))
    have H5 := hid (fun w' (hf : Frm No w2 w') j => (hf.cell (p := ⟨w.heap.size, j, none⟩) hbz (fun h => h)).trans (q2 j))
    clear q1 q2
    obtain ⟨b, hb⟩ : ∃ b, w.heap.size = b := ⟨_, rfl⟩
    rw [hb] at H5 hbz
    simp only [hb]
    have HK : Hid (∀ w', Frm No w2 w' → w'.cell? ⟨b, 0, none⟩ = some (.int .i64 k) ∧ w'.cell? ⟨b, 1, none⟩ = some (.string ⟨who.toArray⟩) ∧ w'.cell? ⟨b, 2, none⟩ = some (.string ⟨name.toArray⟩) ∧ w'.cell? ⟨b, 3, none⟩ = some (.string ⟨other.toArray⟩) ∧ w'.cell? ⟨b, 4, none⟩ = some (.string ⟨text.toArray⟩) ∧ w'.cell? ⟨b, 5, none⟩ = some (.slice ao word.length cp) ∧ w'.cell? ⟨b, 6, none⟩ = some (.int .i64 n0) ∧ w'.cell? ⟨b, 7, none⟩ = some (.int .i64 n1) ∧ w'.cell? ⟨b, 8, none⟩ = some (.int .i64 n2) ∧ w'.cell? ⟨b, 9, none⟩ = some (.int .i64 n3)) :=
      hid fun w' hf => ⟨H5.out w' hf 0, H5.out w' hf 1, H5.out w' hf 2, H5.out w' hf 3, H5.out w' hf 4, H5.out w' hf 5, H5.out w' hf 6, H5.out w' hf 7, H5.out w' hf 8, H5.out w' hf 9⟩
    clear H5 hb
    go_cut [3] from 8 to 73 (fun p wq => RawCopied ⟨k, who, name, other, text, word, n0, n1, n2, n3⟩ w2 wq p)
    case first =>
      go_region_held3 (fun w' => w'.cell? ⟨b, 0, none⟩ = some (.int .i64 k) ∧ w'.cell? ⟨b, 1, none⟩ = some (.string ⟨who.toArray⟩) ∧ w'.cell? ⟨b, 2, none⟩ = some (.string ⟨name.toArray⟩) ∧ w'.cell? ⟨b, 3, none⟩ = some (.string ⟨other.toArray⟩) ∧ w'.cell? ⟨b, 4, none⟩ = some (.string ⟨text.toArray⟩) ∧ w'.cell? ⟨b, 5, none⟩ = some (.slice ao word.length cp) ∧ w'.cell? ⟨b, 6, none⟩ = some (.int .i64 n0) ∧ w'.cell? ⟨b, 7, none⟩ = some (.int .i64 n1) ∧ w'.cell? ⟨b, 8, none⟩ = some (.int .i64 n2) ∧ w'.cell? ⟨b, 9, none⟩ = some (.int .i64 n3)) (exact HK.out _ (by repeat (first | with_reducible exact Frm.refl _ _ | with_reducible exact F4 | with_reducible refine Frm.drew ?_ | with_reducible refine Frm.alloc ?_ _ | with_reducible refine Frm.setCell ?_ (fun h => by have g4 := F4.size; first | (simp at h; done) | (simp at h; omega)) _))) (first | ((with_reducible refine world_a (w := w2) ?_); refine step_append_own rfl (.tmp 22) (.tmp 24) 22 22 rfl w2.heap.size 9 i0 _ 1 16 Try.underlying22 gi gz0 gz1 gz2 rfl (.slice (some ⟨w2.heap.size, 0, none⟩) 0 0) 0 [] (by simp [Act.eval]) ((own_empty 9 (Nat.le_refl _))) (.slice ao word.length cp) word.length (strsV word) (by simp [Act.eval]) (HS.out _ (by repeat (first | with_reducible exact Frm.refl _ _ | with_reducible exact F4 | with_reducible refine Frm.drew ?_ | with_reducible refine Frm.alloc ?_ _ | with_reducible refine Frm.setCell ?_ (fun h => by have g4 := F4.size; first | (simp at h; done) | (simp at h; omega)) _))) (by unfold maxLen; omega) (by omega) (by first | (simp; done) | (simp; omega)) ?_; intro v4 w4 hown4 hf4 hv4; rw [Nat.zero_add, List.nil_append] at hown4; have F4 : Frm No w2 w4 := own_a hf4; obtain ⟨ao4, c4, hsh4⟩ := ownsRow_shape hown4; subst hsh4) | ((with_reducible refine world_b (w := w2) ?_); refine step_append_own rfl (.tmp 22) (.tmp 24) 22 22 rfl w2.heap.size 9 i0 _ 1 16 Try.underlying22 gi gz0 gz1 gz2 rfl (.slice (some ⟨w2.heap.size, 0, none⟩) 0 0) 0 [] (by simp [Act.eval]) ((own_empty 9 (Nat.le_refl _)).alloc _) (.slice ao word.length cp) word.length (strsV word) (by simp [Act.eval]) (HS.out _ (by repeat (first | with_reducible exact Frm.refl _ _ | with_reducible exact F4 | with_reducible refine Frm.drew ?_ | with_reducible refine Frm.alloc ?_ _ | with_reducible refine Frm.setCell ?_ (fun h => by have g4 := F4.size; first | (simp at h; done) | (simp at h; omega)) _))) (by unfold maxLen; omega) (by omega) (by first | (simp; done) | (simp; omega)) ?_; intro v4 w4 hown4 hf4 hv4; rw [Nat.zero_add, List.nil_append] at hown4; obtain ⟨F4, kC4, zC4, hV4⟩ := own_b hf4 hv4; obtain ⟨ao4, c4, hsh4⟩ := ownsRow_shape hown4; subst hsh4) | ((with_reducible refine world_c (w := w2) ?_); refine step_append_own rfl (.tmp 22) (.tmp 24) 22 22 rfl w2.heap.size 9 i0 _ 1 16 Try.underlying22 gi gz0 gz1 gz2 rfl (.slice (some ⟨w2.heap.size + 1, 0, none⟩) 0 0) 0 [] (by simp [Act.eval]) ((own_empty_c 9 (Nat.le_refl _))) (.slice ao word.length cp) word.length (strsV word) (by simp [Act.eval]) (HS.out _ (by repeat (first | with_reducible exact Frm.refl _ _ | with_reducible exact F4 | with_reducible refine Frm.drew ?_ | with_reducible refine Frm.alloc ?_ _ | with_reducible refine Frm.setCell ?_ (fun h => by have g4 := F4.size; first | (simp at h; done) | (simp at h; omega)) _))) (by unfold maxLen; omega) (by omega) (by first | (simp; done) | (simp; omega)) ?_; intro v4 w4 hown4 hf4 hv4; rw [Nat.zero_add, List.nil_append] at hown4; obtain ⟨F4, kC4, zC4, hV4⟩ := own_c hf4 hv4; obtain ⟨ao4, c4, hsh4⟩ := ownsRow_shape hown4; subst hsh4))
      all_goals (dsimp only [Exit.then]; go_step; go_meet)
      all_goals first | (with_reducible exact copied_a F4 hown4) | (with_reducible refine copied_b (C := w2.heap.size + 1) (c := ⟨k, who, name, other, text, word, n0, n1, n2, n3⟩) F4 hown4 (by omega) hV4 ?_ kC4; simp) | (with_reducible refine copied_b (C := w2.heap.size) (c := ⟨k, who, name, other, text, word, n0, n1, n2, n3⟩) F4 hown4 (by omega) hV4 ?_ kC4; simp) | trace_state
    case rest =>
      obtain ⟨C, ao5, cp5, hp5, hfq, hCge, hClt, hcells, hrd5⟩ := hcut
      subst hp5
      obtain ⟨x0, x1, x2, x3, x4, x5, x6, x7, x8, x9⟩ := HK.out _ hfq
      have HRw := hid (fun w' (hf : Frm No w2 w') => HRD.out.frm (f2.thenNo hf) (fun _ _ h => h))
      have HR5 := hid (fun w' (hf : Frm No wc w') => hrd5.frm hf (fun _ _ h => h))
      clear hrd5 HS HRD HL hf1 hf2
      cases hgood : Cmd.good ⟨k, who, name, other, text, word, n0, n1, n2, n3⟩
      · have hput : Cmd.put ⟨k, who, name, other, text, word, n0, n1, n2, n3⟩ = [] := by rw [Cmd.put, hgood]; rfl
        rw [hput] at HP HPR
        rw [hgood] at HG HGR
        clear hgood hput HT HE
        go_wp2_with (go_at_call 14; refine (HP.out _ _ (HR5.out _ ((Frm.refl No wc).alloc _))).mono ?_; rintro q w5 ⟨rfl, hf5⟩)
        have f5 := ((Frm.refl No wc).alloc (.cells #[.int .i64 k, .string ⟨who.toArray⟩, .string ⟨name.toArray⟩, .string ⟨other.toArray⟩, .string ⟨text.toArray⟩, .slice ao word.length cp, .int .i64 n0, .int .i64 n1, .int .i64 n2, .int .i64 n3] 29)).thenNo hf5
        have k3 := fun j hj => (f5.cell (p := ⟨C, j, none⟩) hClt (fun h => h)).trans (hcells j hj)
        have k4 := hf5.box
        have d0 := Wd.cell (k3 0 (by omega))
        have e0 := Wd.cell (k4 0)
        have d1 := Wd.cell (k3 1 (by omega))
        have e1 := Wd.cell (k4 1)
        have d2 := Wd.cell (k3 2 (by omega))
        have e2 := Wd.cell (k4 2)
        have d3 := Wd.cell (k3 3 (by omega))
        have e3 := Wd.cell (k4 3)
        have d4 := Wd.cell (k3 4 (by omega))
        have e4 := Wd.cell (k4 4)
        have d5 := Wd.cell (k3 5 (by omega))
        have e5 := Wd.cell (k4 5)
        have d6 := Wd.cell (k3 6 (by omega))
        have e6 := Wd.cell (k4 6)
        have d7 := Wd.cell (k3 7 (by omega))
        have e7 := Wd.cell (k4 7)
        have d8 := Wd.cell (k3 8 (by omega))
        have e8 := Wd.cell (k4 8)
        have d9 := Wd.cell (k3 9 (by omega))
        have e9 := Wd.cell (k4 9)
        clear x0 x1 x2 x3 x4 x5 x6 x7 x8 x9 hcells
        refine wp_region_frm (by kernel_rfl) (by kernel_rfl) ?_
        repeat (go_big_quiet_step (first | exact Calls.wd (HG.out _ _ (HR5.out _ (f5.thenNo (Wd.frm _)))) | exact Calls.wd (HGR.out _ _ (HRw.out _ (hfq.thenNo (f5.thenNo (Wd.frm _))))) | exact Calls.wd (HPR.out _ _ (HRw.out _ (hfq.thenNo (f5.thenNo (Wd.frm _)))))))
        refine wpQuiet_nil ?_
        intro w6 hf6
        have k4' := fun j => (hf5.thenNo hf6).box j
        clear d0 e0 d1 e1 d2 e2 d3 e3 d4 e4 d5 e5 d6 e6 d7 e7 d8 e8 d9 e9 k3 k4
        go_wp2_with (go_at_call 16; refine (HGR.out _ _ (HRw.out _ (hfq.thenNo (f5.thenNo hf6)))).mono ?_; rintro q w7 ⟨rfl, hf7⟩)
        go_ret
        exact ⟨rfl, f2.thenNo (hfq.thenNo (f5.thenNo (hf6.thenNo hf7)))⟩
      · have hput : Cmd.put ⟨k, who, name, other, text, word, n0, n1, n2, n3⟩ = Cmd.enc ⟨k, who, name, other, text, word, n0, n1, n2, n3⟩ := by rw [Cmd.put, hgood]; rfl
        have hne := Cmd.enc_ne _ hgood
        have hge := Cmd.get_enc _ hgood
        have hle : (Cmd.enc ⟨k, who, name, other, text, word, n0, n1, n2, n3⟩).length ≤ 281474976710656 := by
          have l1 := Oct.enc_le k
          have l2 := Oct.text_le who
          have l3 := Oct.text_le name
          have l4 := Oct.text_le other
          have l5 := Oct.text_le text
          have l6 := Oct.texts_le word
          have l7 := Oct.enc_le word.length
          have m0 := Oct.enc_le n0
          have m1 := Oct.enc_le n1
          have m2 := Oct.enc_le n2
          have m3 := Oct.enc_le n3
          unfold Cmd.enc
          simp only [List.length_append]
          omega
        rw [hput] at HP HPR
        rw [hgood] at HG HGR
        have HE := hid (HE.out hput hge hle)
        clear hgood hput hge hle
        generalize Cmd.enc ⟨k, who, name, other, text, word, n0, n1, n2, n3⟩ = en at *
        have hne' : (en == []) = false := by simpa using hne
        have hne2 : en.isEmpty = false := by simpa using hne
        clear hne
        go_wp2_with (go_at_call 14; refine (HP.out _ _ (HR5.out _ ((Frm.refl No wc).alloc _))).mono ?_; rintro q w5 ⟨rfl, hf5⟩)
        have f5 := ((Frm.refl No wc).alloc (.cells #[.int .i64 k, .string ⟨who.toArray⟩, .string ⟨name.toArray⟩, .string ⟨other.toArray⟩, .string ⟨text.toArray⟩, .slice ao word.length cp, .int .i64 n0, .int .i64 n1, .int .i64 n2, .int .i64 n3] 29)).thenNo hf5
        have k3 := fun j hj => (f5.cell (p := ⟨C, j, none⟩) hClt (fun h => h)).trans (hcells j hj)
        have k4 := hf5.box
        have d0 := Wd.cell (k3 0 (by omega))
        have e0 := Wd.cell (k4 0)
        have d1 := Wd.cell (k3 1 (by omega))
        have e1 := Wd.cell (k4 1)
        have d2 := Wd.cell (k3 2 (by omega))
        have e2 := Wd.cell (k4 2)
        have d3 := Wd.cell (k3 3 (by omega))
        have e3 := Wd.cell (k4 3)
        have d4 := Wd.cell (k3 4 (by omega))
        have e4 := Wd.cell (k4 4)
        have d5 := Wd.cell (k3 5 (by omega))
        have e5 := Wd.cell (k4 5)
        have d6 := Wd.cell (k3 6 (by omega))
        have e6 := Wd.cell (k4 6)
        have d7 := Wd.cell (k3 7 (by omega))
        have e7 := Wd.cell (k4 7)
        have d8 := Wd.cell (k3 8 (by omega))
        have e8 := Wd.cell (k4 8)
        have d9 := Wd.cell (k3 9 (by omega))
        have e9 := Wd.cell (k4 9)
        clear x0 x1 x2 x3 x4 x5 x6 x7 x8 x9 hcells
        refine wp_region_frm (by kernel_rfl) (by kernel_rfl) ?_
        repeat (go_big_quiet_step (first | exact Calls.wd (HG.out _ _ (HR5.out _ (f5.thenNo (Wd.frm _)))) | exact Calls.wd (HGR.out _ _ (HRw.out _ (hfq.thenNo (f5.thenNo (Wd.frm _))))) | exact Calls.wd (HPR.out _ _ (HRw.out _ (hfq.thenNo (f5.thenNo (Wd.frm _)))))))
        refine wpQuiet_nil ?_
        intro w6 hf6
        have k4' := fun j => (hf5.thenNo hf6).box j
        clear d0 e0 d1 e1 d2 e2 d3 e3 d4 e4 d5 e5 d6 e6 d7 e7 d8 e8 d9 e9 k3 k4
        go_wp2_with (first | (go_at_call 18; refine (HE.out _).mono ?_; rintro q w7 ⟨wv7, rfl, hr7, hf7⟩; obtain ⟨ao7, cp7, hwv7⟩ := hr7.shape; subst hwv7; have k5 := fun o j => ((hf5.thenNo (hf6.thenNo hf7)).alloc o).box j) | (go_at_call 19; refine (HT.out _ _ _ (hr7.frm ((Frm.refl No _).alloc _) (fun _ _ h => h)) (HRw.out _ (hfq.thenNo (f5.thenNo ((hf6.thenNo hf7).alloc _))))).mono ?_; rintro q w8 ⟨rfl, hf8⟩))
        go_ret
        exact ⟨rfl, f2.thenNo (hfq.thenNo (f5.thenNo (((hf6.thenNo hf7).alloc _).thenNo hf8)))⟩
  · rw [hlg] at HL
    clear hlg hok hsm
    obtain ⟨ao, cp, rfl⟩ := hr.shape
    clear hr
    obtain ⟨k, who, name, other, text, word, n0, n1, n2, n3⟩ := c
    unfold cmV at *
    dsimp only at *
    go_enter Try.func3, Try.ntmps3
    go_wp2_with (first | (go_at_call 12; refine (cmdspeaks _).mono ?_; rintro q w1 ⟨rfl, hf1⟩; have q1 := hf1.box) | (go_at_call 13; refine (HL.out _ (((Frm.refl No w).alloc _).thenNo hf1)).mono ?_; rintro q w2 ⟨rfl, hf2⟩))
    go_ret
    exact ⟨rfl, (((Frm.refl No w).alloc _).thenNo hf1).thenNo hf2⟩
set_option maxRecDepth 100000 in
theorem lifted (os : Os) (started : os.Started) (H : Type) (enc : TypeId × Value → H) :
    ReturnsInHanded {} Try.checked os 3 .any (Rows.commandPutsSpec.pre6 enc Try.prog Try.f3 Rows.commandPutsRow.domain false) (Rows.commandPutsSpec.post enc Try.prog Try.f3 false true false false) := by
  refine returnsInHanded_of_change_sized (C := Try.checked) own started (by kernel_rfl) Try.func3
    (ChangeSpec.witness6 (enc := enc) (C := Try.checked) false ⟨#[], #[.agg #[.int .i64 0, .string ByteArray.empty, .string ByteArray.empty, .string ByteArray.empty, .string ByteArray.empty, .slice none 0 0, .int .i64 0, .int .i64 0, .int .i64 0, .int .i64 0]], []⟩ 8 (by kernel_rfl) (by kernel_rfl) (by kernel_rfl) (by kernel_rfl)) ?_
  intro W base args ds gs before hval0 hW _ hsz0 _
  have hsz : (DataW.weightsEach Try.prog (Try.f3.params.toList ++ Rows.commandPutsSpec.plain.varTypes Try.prog) (ds ++ gs)).all (· ≤ reachBytes) = true := hsz0
  clear hsz0
  have hval : ∀ (j : Nat) t v, Try.f3.params[j]? = some t → args[j]? = some v → Value.okWide Try.prog W .any base t v := hval0
  have hW' : DataW.Whole enc Try.prog Try.f3.params.toList Rows.commandPutsSpec.vars false W args.toList ds gs before := hW
  have hts : ∀ t ∈ Try.f3.params.toList, Try.prog.readableRec t = true ∧ t < Try.prog.types.size := by
    rw [Try.params3]
    intro t ht
    simp only [List.mem_cons, List.not_mem_nil, or_false] at ht
    subst ht; exact ⟨by kernel_rfl, of_decide_eq_true (by kernel_rfl)⟩
  obtain ⟨p, q, hA0, hV, hbef, hfz, hnd⟩ := hW
  have hA : DataW.TrodAll enc Try.prog W 0 (fun _ => true) true Try.f3.params.toList args.toList ds p := hA0
  rw [Try.params3] at hA hval hsz
  obtain ⟨v0, vs0, d0, ds0, p0, q0, hargs, rfl, rfl, h0, r0⟩ := trodAll_cons hA
  obtain ⟨rfl, rfl, rfl⟩ := trodAll_nil r0
  obtain rfl : args = #[v0] := by cases args; simp_all
  clear hA hA0 hval0
  obtain ⟨x0, rfl, hg0⟩ := open_raw (enc := enc) h0 (hval 0 25 v0 rfl rfl)
  refine (walk x0 W hg0).mono fun e W' ⟨he, hg⟩ => ?_
  subst he
  exact ⟨_, rfl, post_law hW' rfl Try.underlying4 rfl rfl rfl rfl laidOut hts hg.toBelow⟩

theorem over : Rows.commandPutsRow.holds Try.pinned (OpenSpec.ofChange Rows.commandPutsSpec) :=
  OpenClaim.holds_of_wide 3 Try.f3 rfl rfl rfl rfl rfl rfl rfl ⟨rfl, rfl, rfl, rfl, rfl⟩ rfl rfl rfl rfl rfl (by kernel_rfl) Try.func3 (by kernel_rfl)
    (of_decide_eq_true (by kernel_rfl)) (by unfold Func.isWrapper; first | (rw [if_pos (by decide +kernel)]; kernel_rfl) | (rw [if_neg (by decide +kernel)]; exact ⟨rfl, rfl⟩))
    (fun os started H enc _ => lifted os started H enc)

theorem proved : Rows.CommandPutsSaid :=
  over
#print axioms proved
end CmdPuts
end Go.Proofs.Ytfnhcnmlaginoaa
