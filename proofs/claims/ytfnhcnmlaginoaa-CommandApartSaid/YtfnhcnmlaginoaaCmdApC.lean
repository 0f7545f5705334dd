/- CommandApart's walk where both commands are good. -/
import Derived.Test.YtfnhcnmlaginoaaCmdApS
namespace Go.Proofs.Ytfnhcnmlaginoaa
open Go.RowKit
namespace CmdApart
set_option maxRecDepth 100000 in
set_option maxHeartbeats 8000000 in
theorem walk2 (x y : Cm × Value) (w : World) (hok : RawOK w x) (hok' : RawOK w y) (hlg : Cmd.lg x.1 = false) (hlg' : Cmd.lg y.1 = false) (hg : Cmd.good x.1 = true) (hg' : Cmd.good y.1 = true) :
    Calls Try.prog 5 #[cmV x.1 x.2, cmV y.1 y.2] w fun e w' => e = .returned (.bool true) ∧ Frm No w w' := by
  obtain ⟨c, wv⟩ := x
  obtain ⟨d, wv'⟩ := y
  have hsm := hok.small
  have hr := hok.rd
  have hsm' := hok'.small
  have hr' := hok'.rd
  dsimp only at *
  obtain ⟨i0, gi, gz0, gz1, gz2⟩ := info_parts CmdPuts.info_str
  have HL := hid (fun w' (hf : Frm No w w') => lg_any c wv w' hsm (hr.frm hf (fun _ _ h => h)))
  have HL' := hid (fun w' (hf : Frm No w w') => lg_any d wv' w' hsm' (hr'.frm hf (fun _ _ h => h)))
  have HRD := hid hr
  have HRD' := hid hr'
  have HG := hid (fun v w1 (h1 : Rd w1 v c.word.length 1 (strsV c.word)) => cgood_any c v w1 hsm h1)
  have HG' := hid (fun v w1 (h1 : Rd w1 v d.word.length 1 (strsV d.word)) => cgood_any d v w1 hsm' h1)
  have HP := hid (fun v w1 (h1 : Rd w1 v c.word.length 1 (strsV c.word)) => cput_any c v w1 hsm h1)
  have HP' := hid (fun v w1 (h1 : Rd w1 v d.word.length 1 (strsV d.word)) => cput_any d v w1 hsm' h1)
  have HSM : Hid (c.word.length ≤ 140737488355328 → Cmd.good c = true → Cmd.good d = true → ∃ b : Bool, (Cmd.put c == Cmd.put d) = b ∧ ∀ v1 v2 w1, Rd w1 v1 c.word.length 1 (strsV c.word) → Rd w1 v2 d.word.length 1 (strsV d.word) → Calls Try.prog 19 #[cmV c v1, cmV d v2] w1 fun e w' => e = .returned (.bool b) ∧ Frm No w1 w') := by
    refine hid (fun hl g1 g2 => ⟨Cmd.put c == Cmd.put d, rfl, fun v1 v2 w1 h1 h2 => same_dec c d v1 v2 w1 hl h1 h2 _ ?_⟩)
    rw [Cmd.put, Cmd.put, g1, g2]
    simp only [if_true, beq_iff_eq]
    exact ⟨fun h => Cmd.enc_inj g1 g2 h, fun h => by rw [h]⟩
  have hlp := hid (fun h => Cmd.lg_parts (c := c) h)
  have hlp' := hid (fun h => Cmd.lg_parts (c := d) h)
  obtain ⟨ao, cp, rfl⟩ := hr.shape
  obtain ⟨ao', cp', rfl⟩ := hr'.shape
  clear hok hok' hsm hsm' hr hr'
  rw [hlg] at HL
  rw [hlg'] at HL'
  obtain ⟨l1, l2, l3, l4, l5, -⟩ := hlp.out hlg
  obtain ⟨l1', l2', l3', l4', l5', -⟩ := hlp'.out hlg'
  replace HSM := hid (HSM.out (by omega))
  clear hlg hlg' hlp hlp'
  rw [hg] at HG
  rw [hg'] at HG'
  obtain ⟨b, hb, hsame⟩ := HSM.out hg hg'
  have HSM2 := hid hsame
  clear hsame HSM hg hg'
  obtain ⟨k, who, name, other, text, word, n0, n1, n2, n3⟩ := c
  obtain ⟨k', who', name', other', text', word', n0', n1', n2', n3'⟩ := d
  unfold cmV at *
  dsimp only at *
  generalize Cmd.put ⟨k, who, name, other, text, word, n0, n1, n2, n3⟩ = pa at *
  generalize Cmd.put ⟨k', who', name', other', text', word', n0', n1', n2', n3'⟩ = pb at *
  go_enter Try.func5, Try.ntmps5
  go_wp2_with (first | (go_at_call 12; refine (cmdspeaks _).mono ?_; rintro q w1 ⟨rfl, hf1⟩; have q1 := box2a hf1; have q2 := box2b hf1) | (go_at_call 13; ((with_reducible refine (HL.out _ ((((Frm.refl No w).alloc _).alloc _).thenNo hf1)).mono ?_); rintro q w2 ⟨rfl, hf2⟩; have q3 := box2b (hf1.thenNo hf2))) | (go_at_call 13; ((with_reducible refine (HL'.out _ (((((Frm.refl No w).alloc _).alloc _).thenNo hf1).thenNo hf2)).mono ?_); rintro q w3 ⟨rfl, hf3⟩)))
  have hf13 := (hf1.thenNo hf2).thenNo hf3
  have qa := box2a hf13
  have qb := box2b hf13
  have f3 := (((Frm.refl No w).alloc (.cells #[.int .i64 k, .string ⟨who.toArray⟩, .string ⟨name.toArray⟩, .string ⟨other.toArray⟩, .string ⟨text.toArray⟩, .slice ao word.length cp, .int .i64 n0, .int .i64 n1, .int .i64 n2, .int .i64 n3] 25)).alloc (.cells #[.int .i64 k', .string ⟨who'.toArray⟩, .string ⟨name'.toArray⟩, .string ⟨other'.toArray⟩, .string ⟨text'.toArray⟩, .slice ao' word'.length cp', .int .i64 n0', .int .i64 n1', .int .i64 n2', .int .i64 n3'] 25)).thenNo hf13
  have hz := f3.size
  have hbz : w.heap.size + 1 < w3.heap.size := by have h1 := hf13.size; simp at h1; omega
  clear q1 q2 q3 HL HL' hf1 hf2 hf3 hf13
  have HRw := hid (fun w' (hf : Frm No w3 w') => HRD.out.frm (f3.thenNo hf) (fun _ _ h => h))
  have HRw' := hid (fun w' (hf : Frm No w3 w') => HRD'.out.frm (f3.thenNo hf) (fun _ _ h => h))
  clear HRD HRD'
  have HKa : Hid (∀ w', Frm No w3 w' → w'.cell? ⟨w.heap.size, 0, none⟩ = some (.int .i64 k) ∧ w'.cell? ⟨w.heap.size, 1, none⟩ = some (.string ⟨who.toArray⟩) ∧ w'.cell? ⟨w.heap.size, 2, none⟩ = some (.string ⟨name.toArray⟩) ∧ w'.cell? ⟨w.heap.size, 3, none⟩ = some (.string ⟨other.toArray⟩) ∧ w'.cell? ⟨w.heap.size, 4, none⟩ = some (.string ⟨text.toArray⟩) ∧ w'.cell? ⟨w.heap.size, 5, none⟩ = some (.slice ao word.length cp) ∧ w'.cell? ⟨w.heap.size, 6, none⟩ = some (.int .i64 n0) ∧ w'.cell? ⟨w.heap.size, 7, none⟩ = some (.int .i64 n1) ∧ w'.cell? ⟨w.heap.size, 8, none⟩ = some (.int .i64 n2) ∧ w'.cell? ⟨w.heap.size, 9, none⟩ = some (.int .i64 n3)) := hid fun w' hf => by
    have g := fun j => (hf.cell (p := ⟨w.heap.size, j, none⟩) (show w.heap.size < w3.heap.size by omega) (fun h => h)).trans (qa j)
    exact ⟨g 0, g 1, g 2, g 3, g 4, g 5, g 6, g 7, g 8, g 9⟩
  have HKb : Hid (∀ w', Frm No w3 w' → w'.cell? ⟨w.heap.size + 1, 0, none⟩ = some (.int .i64 k') ∧ w'.cell? ⟨w.heap.size + 1, 1, none⟩ = some (.string ⟨who'.toArray⟩) ∧ w'.cell? ⟨w.heap.size + 1, 2, none⟩ = some (.string ⟨name'.toArray⟩) ∧ w'.cell? ⟨w.heap.size + 1, 3, none⟩ = some (.string ⟨other'.toArray⟩) ∧ w'.cell? ⟨w.heap.size + 1, 4, none⟩ = some (.string ⟨text'.toArray⟩) ∧ w'.cell? ⟨w.heap.size + 1, 5, none⟩ = some (.slice ao' word'.length cp') ∧ w'.cell? ⟨w.heap.size + 1, 6, none⟩ = some (.int .i64 n0') ∧ w'.cell? ⟨w.heap.size + 1, 7, none⟩ = some (.int .i64 n1') ∧ w'.cell? ⟨w.heap.size + 1, 8, none⟩ = some (.int .i64 n2') ∧ w'.cell? ⟨w.heap.size + 1, 9, none⟩ = some (.int .i64 n3')) := hid fun w' hf => by
    have g := fun j => (hf.cell (p := ⟨w.heap.size + 1, j, none⟩) hbz (fun h => h)).trans (qb j)
    exact ⟨g 0, g 1, g 2, g 3, g 4, g 5, g 6, g 7, g 8, g 9⟩
  obtain ⟨ba, hba⟩ : ∃ b, w.heap.size = b := ⟨_, rfl⟩
  obtain ⟨bb, hbb⟩ : ∃ b, ba + 1 = b := ⟨_, rfl⟩
  rw [hba] at HKa
  rw [hba, hbb] at HKb
  simp only [hba, hbb]
  clear qa qb hba hbb hz hbz
  have HS := hid (fun w' (hf : Frm No w3 w') => src_strs Try.underlying22 (HRw.out w' hf))
  have HK := HKa
  go_cut [5] from 8 to 81 (fun p wq => RawCopied ⟨k, who, name, other, text, word, n0, n1, n2, n3⟩ w3 wq p)
  case first =>
    go_region_held3 (fun w' => w'.cell? ⟨ba, 0, none⟩ = some (.int .i64 k) ∧ w'.cell? ⟨ba, 1, none⟩ = some (.string ⟨who.toArray⟩) ∧ w'.cell? ⟨ba, 2, none⟩ = some (.string ⟨name.toArray⟩) ∧ w'.cell? ⟨ba, 3, none⟩ = some (.string ⟨other.toArray⟩) ∧ w'.cell? ⟨ba, 4, none⟩ = some (.string ⟨text.toArray⟩) ∧ w'.cell? ⟨ba, 5, none⟩ = some (.slice ao word.length cp) ∧ w'.cell? ⟨ba, 6, none⟩ = some (.int .i64 n0) ∧ w'.cell? ⟨ba, 7, none⟩ = some (.int .i64 n1) ∧ w'.cell? ⟨ba, 8, none⟩ = some (.int .i64 n2) ∧ w'.cell? ⟨ba, 9, none⟩ = some (.int .i64 n3)) (exact HK.out _ (by repeat (first | with_reducible exact Frm.refl _ _ | with_reducible exact F4 | with_reducible refine Frm.drew ?_ | with_reducible refine Frm.alloc ?_ _ | with_reducible refine Frm.setCell ?_ (fun h => by have g4 := F4.size; first | (simp at h; done) | (simp at h; omega)) _))) (first | ((with_reducible refine world_a (w := w3) ?_); refine step_append_own rfl (.tmp 26) (.tmp 28) 22 22 rfl w3.heap.size 9 i0 _ 1 16 Try.underlying22 gi gz0 gz1 gz2 rfl (.slice (some ⟨w3.heap.size, 0, none⟩) 0 0) 0 [] (by simp [Act.eval]) ((own_empty 9 (Nat.le_refl _))) (.slice ao word.length cp) word.length (strsV word) (by simp [Act.eval]) (HS.out _ (by repeat (first | with_reducible exact Frm.refl _ _ | with_reducible exact F4 | with_reducible refine Frm.drew ?_ | with_reducible refine Frm.alloc ?_ _ | with_reducible refine Frm.setCell ?_ (fun h => by have g4 := F4.size; first | (simp at h; done) | (simp at h; omega)) _))) (by unfold maxLen; omega) (by omega) (by first | (simp; done) | (simp; omega)) ?_; intro v4 w4 hown4 hf4 hv4; rw [Nat.zero_add, List.nil_append] at hown4; have F4 : Frm No w3 w4 := own_a hf4; obtain ⟨ao4, c4, hsh4⟩ := ownsRow_shape hown4; subst hsh4) | ((with_reducible refine world_b (w := w3) ?_); refine step_append_own rfl (.tmp 26) (.tmp 28) 22 22 rfl w3.heap.size 9 i0 _ 1 16 Try.underlying22 gi gz0 gz1 gz2 rfl (.slice (some ⟨w3.heap.size, 0, none⟩) 0 0) 0 [] (by simp [Act.eval]) ((own_empty 9 (Nat.le_refl _)).alloc _) (.slice ao word.length cp) word.length (strsV word) (by simp [Act.eval]) (HS.out _ (by repeat (first | with_reducible exact Frm.refl _ _ | with_reducible exact F4 | with_reducible refine Frm.drew ?_ | with_reducible refine Frm.alloc ?_ _ | with_reducible refine Frm.setCell ?_ (fun h => by have g4 := F4.size; first | (simp at h; done) | (simp at h; omega)) _))) (by unfold maxLen; omega) (by omega) (by first | (simp; done) | (simp; omega)) ?_; intro v4 w4 hown4 hf4 hv4; rw [Nat.zero_add, List.nil_append] at hown4; obtain ⟨F4, kC4, zC4, hV4⟩ := own_b hf4 hv4; obtain ⟨ao4, c4, hsh4⟩ := ownsRow_shape hown4; subst hsh4) | ((with_reducible refine world_c (w := w3) ?_); refine step_append_own rfl (.tmp 26) (.tmp 28) 22 22 rfl w3.heap.size 9 i0 _ 1 16 Try.underlying22 gi gz0 gz1 gz2 rfl (.slice (some ⟨w3.heap.size + 1, 0, none⟩) 0 0) 0 [] (by simp [Act.eval]) ((own_empty_c 9 (Nat.le_refl _))) (.slice ao word.length cp) word.length (strsV word) (by simp [Act.eval]) (HS.out _ (by repeat (first | with_reducible exact Frm.refl _ _ | with_reducible exact F4 | with_reducible refine Frm.drew ?_ | with_reducible refine Frm.alloc ?_ _ | with_reducible refine Frm.setCell ?_ (fun h => by have g4 := F4.size; first | (simp at h; done) | (simp at h; omega)) _))) (by unfold maxLen; omega) (by omega) (by first | (simp; done) | (simp; omega)) ?_; intro v4 w4 hown4 hf4 hv4; rw [Nat.zero_add, List.nil_append] at hown4; obtain ⟨F4, kC4, zC4, hV4⟩ := own_c hf4 hv4; obtain ⟨ao4, c4, hsh4⟩ := ownsRow_shape hown4; subst hsh4))
    all_goals (dsimp only [Exit.then]; go_step; go_meet)
    all_goals first | (with_reducible exact copied_a F4 hown4) | (with_reducible refine copied_b (C := w3.heap.size + 1) (c := ⟨k, who, name, other, text, word, n0, n1, n2, n3⟩) F4 hown4 (by omega) hV4 ?_ kC4; simp) | (with_reducible refine copied_b (C := w3.heap.size) (c := ⟨k, who, name, other, text, word, n0, n1, n2, n3⟩) F4 hown4 (by omega) hV4 ?_ kC4; simp)
  case rest =>
    obtain ⟨C, ao5, cp5, hp5, hfq, hCge, hClt, hcells, hrd5⟩ := hcut
    subst hp5
    clear HS HK
    obtain ⟨wA, hwA⟩ : ∃ wA : World, wA = wc := ⟨_, rfl⟩
    subst hwA
    have HR5 := hid (fun w' (hf : Frm No wA w') => hrd5.frm hf (fun _ _ h => h))
    clear hrd5
    go_wp2_with fail
    have HS := hid (fun w' (hf : Frm No wA w') => src_strs Try.underlying22 (HRw'.out w' (hfq.thenNo hf)))
    have HK : Hid (∀ w', Frm No wA w' → w'.cell? ⟨bb, 0, none⟩ = some (.int .i64 k') ∧ w'.cell? ⟨bb, 1, none⟩ = some (.string ⟨who'.toArray⟩) ∧ w'.cell? ⟨bb, 2, none⟩ = some (.string ⟨name'.toArray⟩) ∧ w'.cell? ⟨bb, 3, none⟩ = some (.string ⟨other'.toArray⟩) ∧ w'.cell? ⟨bb, 4, none⟩ = some (.string ⟨text'.toArray⟩) ∧ w'.cell? ⟨bb, 5, none⟩ = some (.slice ao' word'.length cp') ∧ w'.cell? ⟨bb, 6, none⟩ = some (.int .i64 n0') ∧ w'.cell? ⟨bb, 7, none⟩ = some (.int .i64 n1') ∧ w'.cell? ⟨bb, 8, none⟩ = some (.int .i64 n2') ∧ w'.cell? ⟨bb, 9, none⟩ = some (.int .i64 n3')) := hid fun w' hf => HKb.out w' (hfq.thenNo hf)
    go_cut [6] from 8 to 81 (fun p wq => RawCopied ⟨k', who', name', other', text', word', n0', n1', n2', n3'⟩ wA wq p)
    case first =>
      go_region_held3 (fun w' => w'.cell? ⟨bb, 0, none⟩ = some (.int .i64 k') ∧ w'.cell? ⟨bb, 1, none⟩ = some (.string ⟨who'.toArray⟩) ∧ w'.cell? ⟨bb, 2, none⟩ = some (.string ⟨name'.toArray⟩) ∧ w'.cell? ⟨bb, 3, none⟩ = some (.string ⟨other'.toArray⟩) ∧ w'.cell? ⟨bb, 4, none⟩ = some (.string ⟨text'.toArray⟩) ∧ w'.cell? ⟨bb, 5, none⟩ = some (.slice ao' word'.length cp') ∧ w'.cell? ⟨bb, 6, none⟩ = some (.int .i64 n0') ∧ w'.cell? ⟨bb, 7, none⟩ = some (.int .i64 n1') ∧ w'.cell? ⟨bb, 8, none⟩ = some (.int .i64 n2') ∧ w'.cell? ⟨bb, 9, none⟩ = some (.int .i64 n3')) (exact HK.out _ (by repeat (first | with_reducible exact Frm.refl _ _ | with_reducible exact F4 | with_reducible refine Frm.drew ?_ | with_reducible refine Frm.alloc ?_ _ | with_reducible refine Frm.setCell ?_ (fun h => by have g4 := F4.size; first | (simp at h; done) | (simp at h; omega)) _))) (first | ((with_reducible refine world_a (w := wA) ?_); refine step_append_own rfl (.tmp 43) (.tmp 45) 22 22 rfl wA.heap.size 9 i0 _ 1 16 Try.underlying22 gi gz0 gz1 gz2 rfl (.slice (some ⟨wA.heap.size, 0, none⟩) 0 0) 0 [] (by simp [Act.eval]) ((own_empty 9 (Nat.le_refl _))) (.slice ao' word'.length cp') word'.length (strsV word') (by simp [Act.eval]) (HS.out _ (by repeat (first | with_reducible exact Frm.refl _ _ | with_reducible exact F4 | with_reducible refine Frm.drew ?_ | with_reducible refine Frm.alloc ?_ _ | with_reducible refine Frm.setCell ?_ (fun h => by have g4 := F4.size; first | (simp at h; done) | (simp at h; omega)) _))) (by unfold maxLen; omega) (by omega) (by first | (simp; done) | (simp; omega)) ?_; intro v4 w4 hown4 hf4 hv4; rw [Nat.zero_add, List.nil_append] at hown4; have F4 : Frm No wA w4 := own_a hf4; obtain ⟨ao4, c4, hsh4⟩ := ownsRow_shape hown4; subst hsh4) | ((with_reducible refine world_b (w := wA) ?_); refine step_append_own rfl (.tmp 43) (.tmp 45) 22 22 rfl wA.heap.size 9 i0 _ 1 16 Try.underlying22 gi gz0 gz1 gz2 rfl (.slice (some ⟨wA.heap.size, 0, none⟩) 0 0) 0 [] (by simp [Act.eval]) ((own_empty 9 (Nat.le_refl _)).alloc _) (.slice ao' word'.length cp') word'.length (strsV word') (by simp [Act.eval]) (HS.out _ (by repeat (first | with_reducible exact Frm.refl _ _ | with_reducible exact F4 | with_reducible refine Frm.drew ?_ | with_reducible refine Frm.alloc ?_ _ | with_reducible refine Frm.setCell ?_ (fun h => by have g4 := F4.size; first | (simp at h; done) | (simp at h; omega)) _))) (by unfold maxLen; omega) (by omega) (by first | (simp; done) | (simp; omega)) ?_; intro v4 w4 hown4 hf4 hv4; rw [Nat.zero_add, List.nil_append] at hown4; obtain ⟨F4, kC4, zC4, hV4⟩ := own_b hf4 hv4; obtain ⟨ao4, c4, hsh4⟩ := ownsRow_shape hown4; subst hsh4) | ((with_reducible refine world_c (w := wA) ?_); refine step_append_own rfl (.tmp 43) (.tmp 45) 22 22 rfl wA.heap.size 9 i0 _ 1 16 Try.underlying22 gi gz0 gz1 gz2 rfl (.slice (some ⟨wA.heap.size + 1, 0, none⟩) 0 0) 0 [] (by simp [Act.eval]) ((own_empty_c 9 (Nat.le_refl _))) (.slice ao' word'.length cp') word'.length (strsV word') (by simp [Act.eval]) (HS.out _ (by repeat (first | with_reducible exact Frm.refl _ _ | with_reducible exact F4 | with_reducible refine Frm.drew ?_ | with_reducible refine Frm.alloc ?_ _ | with_reducible refine Frm.setCell ?_ (fun h => by have g4 := F4.size; first | (simp at h; done) | (simp at h; omega)) _))) (by unfold maxLen; omega) (by omega) (by first | (simp; done) | (simp; omega)) ?_; intro v4 w4 hown4 hf4 hv4; rw [Nat.zero_add, List.nil_append] at hown4; obtain ⟨F4, kC4, zC4, hV4⟩ := own_c hf4 hv4; obtain ⟨ao4, c4, hsh4⟩ := ownsRow_shape hown4; subst hsh4))
      all_goals (dsimp only [Exit.then]; go_step; go_meet)
      all_goals first | (with_reducible exact copied_a F4 hown4) | (with_reducible refine copied_b (C := wA.heap.size + 1) (c := ⟨k', who', name', other', text', word', n0', n1', n2', n3'⟩) F4 hown4 (by omega) hV4 ?_ kC4; simp) | (with_reducible refine copied_b (C := wA.heap.size) (c := ⟨k', who', name', other', text', word', n0', n1', n2', n3'⟩) F4 hown4 (by omega) hV4 ?_ kC4; simp)
    case rest =>
      obtain ⟨D, ao6, cp6, hp6, hfq', hDge, hDlt, hdells, hrd6⟩ := hcut
      subst hp6
      clear HS HK
      have HR6 := hid (fun w' (hf : Frm No wc w') => hrd6.frm hf (fun _ _ h => h))
      have kC := fun j hj => (hfq'.cell (p := ⟨C, j, none⟩) hClt (fun h => h)).trans (hcells j hj)
      clear hcells hrd6
      go_upto_if 57 with (first | (go_at_call 15; ((with_reducible refine (HG.out _ _ (HR5.out _ hfq')).mono ?_); rintro q w5 ⟨rfl, hf5⟩; have kD := fun j hj => (hf5.cell (p := ⟨D, j, none⟩) hDlt (fun h => h)).trans (hdells j hj))) | (go_at_call 15; ((with_reducible refine (HG'.out _ _ (HR6.out _ hf5)).mono ?_); rintro q w6 ⟨rfl, hf6⟩)))
      have hf56 := hf5.thenNo hf6
      have kC6 := fun j hj => (hf56.cell (p := ⟨C, j, none⟩) (Nat.lt_of_lt_of_le hClt hfq'.size) (fun h => h)).trans (kC j hj)
      have kD6 := fun j hj => (hf56.cell (p := ⟨D, j, none⟩) hDlt (fun h => h)).trans (hdells j hj)
      obtain ⟨x0, x1, x2, x3, x4, x5, x6, x7, x8, x9⟩ := HKb.out _ (hfq.thenNo (hfq'.thenNo hf56))
      have hC6 : C < w6.heap.size := Nat.lt_of_lt_of_le (Nat.lt_of_lt_of_le hClt hfq'.size) hf56.size
      have hD6 : D < w6.heap.size := Nat.lt_of_lt_of_le hDlt hf56.size
      clear kC kD hdells hf5 hf6
      go_wp2_with fail
      have hal := (Frm.refl No w6).alloc (.cells #[.int .i64 k', .string ⟨who'.toArray⟩, .string ⟨name'.toArray⟩, .string ⟨other'.toArray⟩, .string ⟨text'.toArray⟩, .slice ao' word'.length cp', .int .i64 n0', .int .i64 n1', .int .i64 n2', .int .i64 n3'] 29)
      have al6 := (Frm.refl No (w6.alloc (.cells #[.int .i64 k', .string ⟨who'.toArray⟩, .string ⟨name'.toArray⟩, .string ⟨other'.toArray⟩, .string ⟨text'.toArray⟩, .slice ao' word'.length cp', .int .i64 n0', .int .i64 n1', .int .i64 n2', .int .i64 n3'] 29))).box
      have d0 := Wd.cell ((hal.cell (p := ⟨C, 0, none⟩) hC6 (fun h => h)).trans (kC6 0 (by omega)))
      have e0 := Wd.cell ((hal.cell (p := ⟨D, 0, none⟩) hD6 (fun h => h)).trans (kD6 0 (by omega)))
      have g0 := Wd.cell (al6 0)
      have d1 := Wd.cell ((hal.cell (p := ⟨C, 1, none⟩) hC6 (fun h => h)).trans (kC6 1 (by omega)))
      have e1 := Wd.cell ((hal.cell (p := ⟨D, 1, none⟩) hD6 (fun h => h)).trans (kD6 1 (by omega)))
      have g1 := Wd.cell (al6 1)
      have d2 := Wd.cell ((hal.cell (p := ⟨C, 2, none⟩) hC6 (fun h => h)).trans (kC6 2 (by omega)))
      have e2 := Wd.cell ((hal.cell (p := ⟨D, 2, none⟩) hD6 (fun h => h)).trans (kD6 2 (by omega)))
      have g2 := Wd.cell (al6 2)
      have d3 := Wd.cell ((hal.cell (p := ⟨C, 3, none⟩) hC6 (fun h => h)).trans (kC6 3 (by omega)))
      have e3 := Wd.cell ((hal.cell (p := ⟨D, 3, none⟩) hD6 (fun h => h)).trans (kD6 3 (by omega)))
      have g3 := Wd.cell (al6 3)
      have d4 := Wd.cell ((hal.cell (p := ⟨C, 4, none⟩) hC6 (fun h => h)).trans (kC6 4 (by omega)))
      have e4 := Wd.cell ((hal.cell (p := ⟨D, 4, none⟩) hD6 (fun h => h)).trans (kD6 4 (by omega)))
      have g4 := Wd.cell (al6 4)
      have d5 := Wd.cell ((hal.cell (p := ⟨C, 5, none⟩) hC6 (fun h => h)).trans (kC6 5 (by omega)))
      have e5 := Wd.cell ((hal.cell (p := ⟨D, 5, none⟩) hD6 (fun h => h)).trans (kD6 5 (by omega)))
      have g5 := Wd.cell (al6 5)
      have d6 := Wd.cell ((hal.cell (p := ⟨C, 6, none⟩) hC6 (fun h => h)).trans (kC6 6 (by omega)))
      have e6 := Wd.cell ((hal.cell (p := ⟨D, 6, none⟩) hD6 (fun h => h)).trans (kD6 6 (by omega)))
      have g6 := Wd.cell (al6 6)
      have d7 := Wd.cell ((hal.cell (p := ⟨C, 7, none⟩) hC6 (fun h => h)).trans (kC6 7 (by omega)))
      have e7 := Wd.cell ((hal.cell (p := ⟨D, 7, none⟩) hD6 (fun h => h)).trans (kD6 7 (by omega)))
      have g7 := Wd.cell (al6 7)
      have d8 := Wd.cell ((hal.cell (p := ⟨C, 8, none⟩) hC6 (fun h => h)).trans (kC6 8 (by omega)))
      have e8 := Wd.cell ((hal.cell (p := ⟨D, 8, none⟩) hD6 (fun h => h)).trans (kD6 8 (by omega)))
      have g8 := Wd.cell (al6 8)
      have d9 := Wd.cell ((hal.cell (p := ⟨C, 9, none⟩) hC6 (fun h => h)).trans (kC6 9 (by omega)))
      have e9 := Wd.cell ((hal.cell (p := ⟨D, 9, none⟩) hD6 (fun h => h)).trans (kD6 9 (by omega)))
      have g9 := Wd.cell (al6 9)
      clear al6
      clear x0 x1 x2 x3 x4 x5 x6 x7 x8 x9
      refine wp_region_frm (by kernel_rfl) (by kernel_rfl) ?_
      repeat (go_big_quiet_step (first | with_reducible exact Calls.wd (HP.out _ _ (HR5.out _ (hfq'.thenNo (hf56.thenNo (hal.thenNo (Wd.frm _)))))) | with_reducible exact Calls.wd (HP'.out _ _ (HR6.out _ (hf56.thenNo (hal.thenNo (Wd.frm _))))) | with_reducible exact Calls.wd (HSM2.out _ _ _ (HR5.out _ (hfq'.thenNo (hf56.thenNo (hal.thenNo (Wd.frm _))))) (HRw'.out _ (hfq.thenNo (hfq'.thenNo (hf56.thenNo (hal.thenNo (Wd.frm _)))))))))
      refine wpQuiet_nil ?_
      intro w7 hf7
      clear d0 e0 g0 d1 e1 g1 d2 e2 g2 d3 e3 g3 d4 e4 g4 d5 e5 g5 d6 e6 g6 d7 e7 g7 d8 e8 g8 d9 e9 g9 kC6 kD6
      go_wp2_with fail
      go_ret
      exact ⟨rfl, (f3.thenNo (hfq.thenNo (hfq'.thenNo (hf56.thenNo (hal.thenNo hf7)))))⟩
end CmdApart
end Go.Proofs.Ytfnhcnmlaginoaa
