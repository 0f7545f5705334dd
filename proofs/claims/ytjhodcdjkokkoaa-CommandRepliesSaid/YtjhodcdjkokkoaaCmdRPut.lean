/- The walk of the reference's Put of a command. -/
import Derived.Test.YtjhodcdjkokkoaaCmdG3
import Derived.Test.YtjhodcdjkokkoaaCmdPut
namespace Go.Proofs.Ytjhodcdjkokkoaa
open Go.RowKit

set_option maxRecDepth 100000 in
theorem rtext_any (s : List UInt8) (w : World) (hs : s.length ≤ 65536) : Calls Try.prog 34 #[.string ⟨s.toArray⟩] w fun e w' => e = .returned (.string ⟨(Oct.text s).toArray⟩) ∧ Frm No w w' := by
  have ht : Oct.text s = Oct.enc s.length ++ s := if_neg (by omega)
  rw [ht]
  clear ht
  have hle := Oct.enc_le s.length
  have hno : ¬ 9223372036854775807 < (Oct.enc (s.length : Int)).length + s.length := by omega
  go_enter Try.func34, Try.ntmps34
  go_wp2_with (go_at_call 33; refine (refput_any _ _).mono ?_; rintro e1 w1 ⟨rfl, hf1⟩)
  go_ret
  exact ⟨rfl, hf1⟩

set_option maxRecDepth 100000 in
set_option maxHeartbeats 400000 in
theorem rtexts_any (v : Value) (ss : List (List UInt8)) (w : World) (hl : ss.length ≤ 17592186044416) (hs : ∀ s ∈ ss, s.length ≤ 65536) (hr : Rd w v ss.length 1 (strsV ss)) :
    Calls Try.prog 35 #[v] w fun e w' => e = .returned (.string ⟨(Oct.enc ss.length ++ Oct.texts ss).toArray⟩) ∧ Frm No w w' := by
  obtain ⟨ao, cp, rfl⟩ := hr.shape
  have HT := hid (fun s w h => rtext_any s w h)
  go_enter Try.func35, Try.ntmps35
  go_wp2_with (go_at_call 33; refine (refput_any _ _).mono ?_; rintro e1 w1 ⟨rfl, hf1⟩)
  go_loopw [3, 4] (fun v i wr => ∃ k : Nat, k ≤ ss.length ∧ i = .int .i64 (k : Int) ∧ v = .string ⟨(Oct.enc ss.length ++ Oct.texts (ss.take k)).toArray⟩ ∧ Frm No w wr) (fun _ i _ => ss.length - (intOf i).toNat)
  case atStart => exact ⟨0, by omega, rfl, by simp [Oct.texts], hf1⟩
  case round =>
    obtain ⟨k, hk, rfl, rfl, hf⟩ := hrel
    by_cases hkl : k < ss.length
    · obtain ⟨b', o', rfl, hc⟩ := hr.at_ (by omega)
      have hck := hc k (by omega)
      have hb' : b' < w.heap.size := World.block_lt_of_cell? w _ hck
      have hcell : wr.cell? ⟨b', o' + k, none⟩ = some (.string ⟨ss[k].toArray⟩) := by
        rw [hf.cell (p := ⟨b', o' + k, none⟩) hb' (fun h => h), hck]; simp [strsV]
      have hsk := hs _ (List.getElem_mem hkl)
      have HS := hid (Oct.texts_snoc ss k hkl)
      have l1 := Oct.texts_le (ss.take k)
      have l2 := Oct.text_le ss[k]
      have l3 := Oct.enc_le ss.length
      rw [List.length_take] at l1
      have hno : ¬ 9223372036854775807 < (Oct.enc (ss.length : Int)).length + (Oct.texts (ss.take k)).length + (Oct.text ss[k]).length := by omega
      have hkz : (k : Int) < (ss.length : Int) := by omega
      clear hc hck
      go_wp2_with (go_at_call 34; refine (HT.out _ _ hsk).mono ?_; rintro e2 w2 ⟨rfl, hf2⟩)
      exact ⟨⟨k + 1, by omega, by go_num, by simp only [HS.out], hf.thenNo hf2⟩, by simp [intOf]; omega⟩
    · obtain rfl : k = ss.length := by omega
      rw [List.take_length]
      go_wp2_with fail
      go_ret
      exact ⟨rfl, hf⟩

set_option maxRecDepth 100000 in
set_option maxHeartbeats 4000000 in
theorem rput_any (c : Cm) (wv : Value) (w : World) (hsm : Cmd.small c) (hr : Rd w wv c.word.length 1 (strsV c.word)) :
    Calls Try.prog 13 #[cmV c wv] w fun e w' => e = .returned (.string ⟨(Cmd.put c).toArray⟩) ∧ Frm No w w' := by
  have HG := hid (fun w1 (hf : Frm No w w1) => rgood_any c wv w1 hsm (hr.frm hf (fun _ _ h => h)))
  cases hgood : Cmd.good c
  · rw [hgood] at HG
    have hput : Cmd.put c = [] := by rw [Cmd.put, hgood]; rfl
    rw [hput]
    clear hr hsm hgood hput
    unfold cmV at *
    go_enter Try.func13, Try.ntmps13
    go_wp2_with (go_at_call 12; refine (HG.out _ ((Frm.refl No w).alloc _)).mono ?_; rintro e1 w1 ⟨rfl, hf1⟩; have hf1' := ((Frm.refl No w).alloc _).thenNo hf1)
    go_ret
    exact ⟨rfl, hf1'⟩
  · have hp := Cmd.good_parts hgood
    obtain ⟨hk, h1, h2, h3, h4, h5, h6, g0, g1, g2, g3⟩ := hp
    replace h1 : c.who.length ≤ 65536 := by have := (Cmd.gn_len h1).2; omega
    replace h2 : c.name.length ≤ 65536 := by have := Cmd.gnm_len h2; omega
    replace h3 : c.other.length ≤ 65536 := by have := Cmd.gnm_len h3; omega
    replace h6 : ∀ s ∈ c.word, s.length ≤ 65536 := fun s hs => by have := h6 s hs; omega
    have HRD := hid (fun w1 (hf : Frm No w w1) => hr.frm hf (fun _ _ h => h))
    have HTS := hid (fun w1 (hf : Frm No w w1) => rtexts_any wv c.word w1 (by omega) h6 (hr.frm hf (fun _ _ h => h)))
    have HT := hid (fun s w h => rtext_any s w h)
    have HP := hid (fun n w => refput_any n w)
    rw [hgood] at HG
    have hput : Cmd.put c = Cmd.enc c := by rw [Cmd.put, hgood]; rfl
    rw [hput]
    clear hput
    obtain ⟨R, hR⟩ : ∃ R, Cmd.enc c = R := ⟨_, rfl⟩
    rw [hR]
    have hput := hid hR.symm
    clear hR
    unfold Cmd.enc at hput
    have l0 := Oct.enc_le c.kind
    have l1 := Oct.text_le c.who
    have l2 := Oct.text_le c.name
    have l3 := Oct.text_le c.other
    have l4 := Oct.text_le c.text
    have l5 := Oct.texts_le c.word
    have l6 := Oct.enc_le c.word.length
    have m0 := Oct.enc_le c.n0
    have m1 := Oct.enc_le c.n1
    have m2 := Oct.enc_le c.n2
    have m3 := Oct.enc_le c.n3
    clear hsm hgood h6 g0 g1 g2 g3 hk
    obtain ⟨ao, cp, rfl⟩ := hr.shape
    clear hr
    unfold cmV at *
    obtain ⟨k, who, name, other, text, word, n0, n1, n2, n3⟩ := c
    dsimp only at *
    go_enter Try.func13, Try.ntmps13
    go_wp2_with (go_at_call 12; refine (HG.out _ ((Frm.refl No w).alloc _)).mono ?_; rintro e1 w1 ⟨rfl, hf1⟩; have hf1' := ((Frm.refl No w).alloc _).thenNo hf1)
    have q := hf1.box
    have d0 := Wd.cell (q 0)
    have d1 := Wd.cell (q 1)
    have d2 := Wd.cell (q 2)
    have d3 := Wd.cell (q 3)
    have d4 := Wd.cell (q 4)
    have d5 := Wd.cell (q 5)
    refine wp_region_frm (by kernel_rfl) (by kernel_rfl) ?_
    repeat (go_big_quiet_step (first | exact Calls.wd (HTS.out _ (hf1'.thenNo (Wd.frm _))) | exact Calls.wd (HT.out _ _ (by assumption)) | exact Calls.wd (HP.out _ _)))
    refine wpQuiet_nil ?_
    intro wq hfq
    obtain ⟨L, hL⟩ : ∃ L, Oct.enc k ++ (Oct.text who ++ (Oct.text name ++ (Oct.text other ++ (Oct.text text ++ (Oct.enc word.length ++ Oct.texts word))))) = L := ⟨_, rfl⟩
    have hll : L.length ≤ 5000000 := by rw [← hL]; simp only [List.length_append]; omega
    have hR : Hid (R = L ++ (Oct.enc n0 ++ (Oct.enc n1 ++ (Oct.enc n2 ++ Oct.enc n3)))) := by
      refine hid ?_
      have hL2 := hput.out
      rw [← hL, hL2]
      simp only [List.append_assoc]
    rw [hL]
    clear hput hL HT HTS HG HRD d0 d1 d2 d3 d4 d5 l0 l1 l2 l3 l4 l5 l6
    have a0 : (L ++ Oct.enc n0).length ≤ 5000008 := by simp only [List.length_append]; omega
    have a1 : (L ++ (Oct.enc n0 ++ Oct.enc n1)).length ≤ 5000016 := by simp only [List.length_append]; omega
    have a2 : (L ++ (Oct.enc n0 ++ (Oct.enc n1 ++ Oct.enc n2))).length ≤ 5000024 := by simp only [List.length_append]; omega
    go_wp2_with fail
    go_loopw [3, 4] (fun v i wr => (v = .string ⟨L.toArray⟩ ∧ i = .int .i64 0 ∧ Frm No w1 wr) ∨ (v = .string ⟨(L ++ Oct.enc n0).toArray⟩ ∧ i = .int .i64 1 ∧ Frm No w1 wr) ∨ (v = .string ⟨(L ++ (Oct.enc n0 ++ Oct.enc n1)).toArray⟩ ∧ i = .int .i64 2 ∧ Frm No w1 wr) ∨ (v = .string ⟨(L ++ (Oct.enc n0 ++ (Oct.enc n1 ++ Oct.enc n2))).toArray⟩ ∧ i = .int .i64 3 ∧ Frm No w1 wr) ∨ (v = .string ⟨(L ++ (Oct.enc n0 ++ (Oct.enc n1 ++ (Oct.enc n2 ++ Oct.enc n3)))).toArray⟩ ∧ i = .int .i64 4 ∧ Frm No w1 wr)) (fun _ i _ => 4 - (intOf i).toNat)
    case atStart => exact .inl ⟨rfl, rfl, hfq⟩
    case round =>
      rcases hrel with ⟨rfl, rfl, hf⟩ | ⟨rfl, rfl, hf⟩ | ⟨rfl, rfl, hf⟩ | ⟨rfl, rfl, hf⟩ | ⟨rfl, rfl, hf⟩
      · have z0 := (hf1.thenNo hf).box 6
        go_wp2_with (go_at_call 33; refine (HP.out _ _).mono ?_; rintro e2 w2 ⟨rfl, hf2⟩)
        exact ⟨.inr (.inl ⟨by simp only, by go_num, hf.thenNo hf2⟩), by simp [intOf]⟩
      · have z1 := (hf1.thenNo hf).box 7
        go_wp2_with (go_at_call 33; refine (HP.out _ _).mono ?_; rintro e2 w2 ⟨rfl, hf2⟩)
        exact ⟨.inr (.inr (.inl ⟨by simp only, by go_num, hf.thenNo hf2⟩)), by simp [intOf]⟩
      · have z2 := (hf1.thenNo hf).box 8
        go_wp2_with (go_at_call 33; refine (HP.out _ _).mono ?_; rintro e2 w2 ⟨rfl, hf2⟩)
        exact ⟨.inr (.inr (.inr (.inl ⟨by simp only, by go_num, hf.thenNo hf2⟩))), by simp [intOf]⟩
      · have z3 := (hf1.thenNo hf).box 9
        go_wp2_with (go_at_call 33; refine (HP.out _ _).mono ?_; rintro e2 w2 ⟨rfl, hf2⟩)
        exact ⟨.inr (.inr (.inr (.inr (⟨by simp only, by go_num, hf.thenNo hf2⟩)))), by simp [intOf]⟩
      · go_wp2_with fail
        rw [hR.out]
        go_ret
        exact ⟨rfl, hf1'.thenNo hf⟩
end Go.Proofs.Ytjhodcdjkokkoaa
