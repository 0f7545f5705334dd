/- For all bytes and every sequence of decoding calls, the results, the first error and the rest are those of the reference. -/
import Derived.Test.YtlhcjoaeipgbeaaBack2
import Derived.Test.YtlhcjoaeipgbeaaOpen
import Derived.Deep.RegionHeld3
namespace Go.Proofs.Ytlhcjoaeipgbeaa
open Go.ChangeShapes Go.WideShapes Go.ChangeAt Go.RowKit
open Go.ChangeMaps (open_string shut_string)

namespace OctReads
theorem kind5 (x : Int) : (wrap64 (x.tmod 5 + 5)).tmod 5 = 0 ∨ (wrap64 (x.tmod 5 + 5)).tmod 5 = 1 ∨ (wrap64 (x.tmod 5 + 5)).tmod 5 = 2 ∨ (wrap64 (x.tmod 5 + 5)).tmod 5 = 3 ∨ (wrap64 (x.tmod 5 + 5)).tmod 5 = 4 := by
  have h1 := Int.lt_tmod_of_pos x (b := 5) (by omega)
  have h2 := Int.tmod_lt_of_pos x (b := 5) (by omega)
  rw [IntWalk.wrap64_in _ (by omega), Int.tmod_eq_emod_of_nonneg (by omega)]
  omega
theorem rBool_len (s : List UInt8) (e : Int) : (Oct.rBool s e).2.1.length ≤ s.length := by
  unfold Oct.rBool
  repeat' split
  all_goals simp
theorem nInts_len : ∀ (n : Nat) (s : List UInt8) (acc : List Int), (Oct.nInts n s acc).2.1.length ≤ s.length
  | 0, s, acc => by simp [Oct.nInts]
  | n + 1, s, acc => by
    have h := rInt_len s 0
    unfold Oct.nInts
    split
    · exact Nat.le_trans (nInts_len n _ _) h
    · exact h
theorem nTexts_len : ∀ (n : Nat) (s : List UInt8) (acc : List (List UInt8)), (Oct.nTexts n s acc).2.1.length ≤ s.length
  | 0, s, acc => by simp [Oct.nTexts]
  | n + 1, s, acc => by
    have h := (rText_len s 0).1
    unfold Oct.nTexts
    split
    · exact Nat.le_trans (nTexts_len n _ _) h
    · exact h
theorem nInts_count : ∀ (n : Nat) (s : List UInt8) (acc : List Int), (Oct.nInts n s acc).1.length ≤ acc.length + n
  | 0, s, acc => by simp [Oct.nInts]
  | n + 1, s, acc => by
    unfold Oct.nInts
    split
    · have := nInts_count n (Oct.rInt s 0).2.1 (acc ++ [(Oct.rInt s 0).1])
      simp at this
      omega
    · simp
theorem nTexts_count : ∀ (n : Nat) (s : List UInt8) (acc : List (List UInt8)), (Oct.nTexts n s acc).1.length ≤ acc.length + n
  | 0, s, acc => by simp [Oct.nTexts]
  | n + 1, s, acc => by
    unfold Oct.nTexts
    split
    · have := nTexts_count n (Oct.rText s 0).2.1 (acc ++ [(Oct.rText s 0).1])
      simp at this
      omega
    · simp
theorem rInts_count (most : Int) (s : List UInt8) (e : Int) : (Oct.rInts most s e).1.length ≤ 65536 := by
  have h := rSize_in most s e
  unfold Oct.rInts
  split
  · have := nInts_count (Oct.rSize most s e).1.toNat (Oct.rSize most s e).2.1 []
    simp at this
    omega
  · simp
theorem rTexts_count (most : Int) (s : List UInt8) (e : Int) : (Oct.rTexts most s e).1.length ≤ 65536 := by
  have h := rSize_in most s e
  unfold Oct.rTexts
  split
  · have := nTexts_count (Oct.rSize most s e).1.toNat (Oct.rSize most s e).2.1 []
    simp at this
    omega
  · simp
theorem rInts_len (most : Int) (s : List UInt8) (e : Int) : (Oct.rInts most s e).2.1.length ≤ s.length := by
  have h := rSize_len most s e
  unfold Oct.rInts
  split
  · exact Nat.le_trans (nInts_len _ _ _) h
  · exact h
theorem rTexts_len (most : Int) (s : List UInt8) (e : Int) : (Oct.rTexts most s e).2.1.length ≤ s.length := by
  have h := rSize_len most s e
  unfold Oct.rTexts
  split
  · exact Nat.le_trans (nTexts_len _ _ _) h
  · exact h

def pairV (x : Int × Int) : List Value := [.int .i64 x.1, .int .i64 x.2]

set_option maxRecDepth 100000 in
set_option maxHeartbeats 1000000 in
theorem walk (l : List UInt8) (hl : l.length ≤ 140737488351232) (v : Value) (asks : List (Int × Int)) (w : World) (hr : RdL w v 2 pairV asks) (hal : asks.length ≤ maxLen)
    (hg : ∀ x ∈ asks, (-9223372036854775808 ≤ x.1 ∧ x.1 ≤ 9223372036854775807) ∧ (-9223372036854775808 ≤ x.2 ∧ x.2 ≤ 9223372036854775807)) :
    Calls Try.prog 8 #[.string ⟨l.toArray⟩, v] w fun e w' => e = .returned (.bool true) ∧ Frm No w w' := by
  unfold maxLen at hal
  obtain ⟨ao, c, rfl⟩ := hr.shape
  by_cases h20 : 2000 < l.length
  · go_enter Try.func8, Try.ntmps8
    go_wp2_with (go_at_call 20; refine (octspeaks _).mono ?_; rintro e w1 ⟨rfl, hf1⟩)
    go_ret
    exact ⟨rfl, hf1⟩
  go_enter Try.func8, Try.ntmps8
  go_wp2_with (first | (go_at_call 20; refine (octspeaks _).mono ?_; rintro e w1 ⟨rfl, hf1⟩) | (go_at_call 27; refine (in_open _ _).mono ?_; rintro e w2 ⟨b1, rfl, hb1, ha1, hf2⟩))
  have hb2 : w.heap.size ≤ w2.heap.size := Nat.le_trans hf1.size hf2.size
  have hlt1 := ha1.lt
  have ha2 : InAt (w2.alloc (.cells #[.string ⟨l.toArray⟩, .int .i64 0] 67)) w2.heap.size l 0 := ⟨by rw [World.cell?_alloc_at _ _ _ _ rfl]; rfl, by rw [World.cell?_alloc_at _ _ _ _ rfl]; rfl, fun j => World.frozen?_alloc_at _ _ _ _ rfl⟩
  have hb1' : w.heap.size ≤ b1 := Nat.le_trans hf1.size hb1
  go_loopw [7] (fun i wr => ∃ (k : Nat) (s : List UInt8) (e : Int), k ≤ asks.length ∧ k ≤ 20 ∧ i = .int .i64 (k : Int) ∧ s.length ≤ 2000 ∧ InAt wr b1 s e ∧ InAt wr w2.heap.size s e ∧ Frm No w wr) (fun i _ => asks.length - (intOf i).toNat)
  case atStart => exact ⟨0, l, 0, by omega, by omega, rfl, by omega, ha1.frm ((Frm.refl No w2).alloc _) (fun h => h), ha2, (hf1.thenNo hf2).alloc _⟩
  case round =>
    obtain ⟨k, s, e, hk, hk20, rfl, hsl, hx1, hx2, hf⟩ := hrel
    clear ha1 ha2
    by_cases hlast : k < asks.length ∧ k < 20
    · obtain ⟨hka, hk2⟩ := hlast
      obtain ⟨b, o, rfl, hc⟩ := hr.at_ (by omega)
      have hd0 : w.cell? ⟨b, o + k * 2, none⟩ = some (.int .i64 asks[k].1) := by have := hc k hka 0 (by omega); simpa [pairV] using this
      have hd1 : w.cell? ⟨b, o + k * 2 + 1, none⟩ = some (.int .i64 asks[k].2) := by have := hc k hka 1 (by omega); simpa [pairV, Nat.add_assoc] using this
      have hbw : b < w.heap.size := World.block_lt_of_cell? w _ hd0
      have hc0 : wr.cell? ⟨b, o + k * 2, none⟩ = some (.int .i64 asks[k].1) := (hf.cell (p := ⟨b, o + k * 2, none⟩) hbw (fun h => h)).trans hd0
      have hc1 : wr.cell? ⟨b, o + k * 2 + 1, none⟩ = some (.int .i64 asks[k].2) := (hf.cell (p := ⟨b, o + k * 2 + 1, none⟩) hbw (fun h => h)).trans hd1
      clear hd0 hd1
      have hgk := hg _ (List.getElem_mem hka)
      have hkc : (k : Int) < (asks.length : Int) := by omega
      clear hc hg
      generalize asks[k] = x at *
      obtain ⟨x0, x1⟩ := x
      simp only at hc0 hc1 hgk
      obtain ⟨⟨hg1, hg2⟩, hg3, hg4⟩ := hgk
      rcases kind5 x0 with hkd | hkd | hkd | hkd | hkd
      · have HA := hid (fun w h => in_int b1 s e w h (by omega))
        have HB := hid (fun w h => ref_int w2.heap.size s e w h (by omega))
        have hle := rInt_len s e
        obtain ⟨⟨r, s', e'⟩, hrx⟩ : ∃ x, Oct.rInt s e = x := ⟨_, rfl⟩
        rw [hrx] at HA HB hle
        simp only at HA HB hle
        clear hrx
        go_wp2_with (first | (go_at_call 28; refine (HA.out _ hx1).mono ?_; rintro e3 w3 ⟨rfl, hy1, hg1⟩; have hx2' := hx2.frm hg1 (fun h : w2.heap.size = b1 => by omega)) | (go_at_call 30; refine (HB.out _ hx2').mono ?_; rintro e4 w4 ⟨rfl, hy2, hg2⟩; replace hy1 := hy1.frm hg2 (fun h : b1 = w2.heap.size => by omega)))
        have q1 := hy2.c1
        go_quiet ((first | (go_at_call 29; exact Calls.quiet_of_same ((in_err b1 _ _ _ (hy1.frm ((Frm.refl No _).drewN _) (fun h => h))).mono fun _ _ ⟨a, b⟩ => ⟨a, b.symm⟩)) | (go_at_call 40; exact Calls.quiet_of_same ((in_end b1 _ _ _ (hy1.frm ((Frm.refl No _).drewN _) (fun h => h))).mono fun _ _ ⟨a, b⟩ => ⟨a, b.symm⟩)) | (go_at_call 41; exact Calls.quiet_of_same ((ref_end w2.heap.size _ _ _ (hy2.frm ((Frm.refl No _).drewN _) (fun h => h))).mono fun _ _ ⟨a, b⟩ => ⟨a, b.symm⟩))))
        go_wp2_with fail
        exact ⟨⟨k + 1, s', e', by omega, by omega, by go_num, by omega, hy1.frm ((Frm.refl No _).drewN _) (fun h => h), hy2.frm ((Frm.refl No _).drewN _) (fun h => h), ((hf.trans hg1 (fun _ _ h => h) (fun i hi h => by simp only [One] at h; omega)).trans hg2 (fun _ _ h => h) (fun i hi (h : i = w2.heap.size) => by omega)).drewN _⟩, by simp [intOf]; omega⟩
      · have HA := hid (fun w h => in_bool b1 s e w h (by omega))
        have HB := hid (fun w h => ref_bool w2.heap.size s e w h (by omega))
        have hle := rBool_len s e
        obtain ⟨⟨r, s', e'⟩, hrx⟩ : ∃ x, Oct.rBool s e = x := ⟨_, rfl⟩
        rw [hrx] at HA HB hle
        simp only at HA HB hle
        clear hrx
        go_wp2_with (first | (go_at_call 31; refine (HA.out _ hx1).mono ?_; rintro e3 w3 ⟨rfl, hy1, hg1⟩; have hx2' := hx2.frm hg1 (fun h : w2.heap.size = b1 => by omega)) | (go_at_call 32; refine (HB.out _ hx2').mono ?_; rintro e4 w4 ⟨rfl, hy2, hg2⟩; replace hy1 := hy1.frm hg2 (fun h : b1 = w2.heap.size => by omega)))
        have q1 := hy2.c1
        go_quiet ((first | (go_at_call 29; exact Calls.quiet_of_same ((in_err b1 _ _ _ (hy1.frm ((Frm.refl No _).drewN _) (fun h => h))).mono fun _ _ ⟨a, b⟩ => ⟨a, b.symm⟩)) | (go_at_call 40; exact Calls.quiet_of_same ((in_end b1 _ _ _ (hy1.frm ((Frm.refl No _).drewN _) (fun h => h))).mono fun _ _ ⟨a, b⟩ => ⟨a, b.symm⟩)) | (go_at_call 41; exact Calls.quiet_of_same ((ref_end w2.heap.size _ _ _ (hy2.frm ((Frm.refl No _).drewN _) (fun h => h))).mono fun _ _ ⟨a, b⟩ => ⟨a, b.symm⟩))))
        go_wp2_with fail
        exact ⟨⟨k + 1, s', e', by omega, by omega, by go_num, by omega, hy1.frm ((Frm.refl No _).drewN _) (fun h => h), hy2.frm ((Frm.refl No _).drewN _) (fun h => h), ((hf.trans hg1 (fun _ _ h => h) (fun i hi h => by simp only [One] at h; omega)).trans hg2 (fun _ _ h => h) (fun i hi (h : i = w2.heap.size) => by omega)).drewN _⟩, by simp [intOf]; omega⟩
      · have HA := hid (fun w h => in_text b1 s e w h (by omega))
        have HB := hid (fun w h => ref_text w2.heap.size s e w h (by omega))
        have hle := (rText_len s e).1
        obtain ⟨⟨r, s', e'⟩, hrx⟩ : ∃ x, Oct.rText s e = x := ⟨_, rfl⟩
        rw [hrx] at HA HB hle
        simp only at HA HB hle
        clear hrx
        go_wp2_with (first | (go_at_call 33; refine (HA.out _ hx1).mono ?_; rintro e3 w3 ⟨rfl, hy1, hg1⟩; have hx2' := hx2.frm hg1 (fun h : w2.heap.size = b1 => by omega)) | (go_at_call 34; refine (HB.out _ hx2').mono ?_; rintro e4 w4 ⟨rfl, hy2, hg2⟩; replace hy1 := hy1.frm hg2 (fun h : b1 = w2.heap.size => by omega)))
        have q1 := hy2.c1
        go_quiet ((first | (go_at_call 29; exact Calls.quiet_of_same ((in_err b1 _ _ _ (hy1.frm ((Frm.refl No _).drewN _) (fun h => h))).mono fun _ _ ⟨a, b⟩ => ⟨a, b.symm⟩)) | (go_at_call 40; exact Calls.quiet_of_same ((in_end b1 _ _ _ (hy1.frm ((Frm.refl No _).drewN _) (fun h => h))).mono fun _ _ ⟨a, b⟩ => ⟨a, b.symm⟩)) | (go_at_call 41; exact Calls.quiet_of_same ((ref_end w2.heap.size _ _ _ (hy2.frm ((Frm.refl No _).drewN _) (fun h => h))).mono fun _ _ ⟨a, b⟩ => ⟨a, b.symm⟩))))
        go_wp2_with fail
        exact ⟨⟨k + 1, s', e', by omega, by omega, by go_num, by omega, hy1.frm ((Frm.refl No _).drewN _) (fun h => h), hy2.frm ((Frm.refl No _).drewN _) (fun h => h), ((hf.trans hg1 (fun _ _ h => h) (fun i hi h => by simp only [One] at h; omega)).trans hg2 (fun _ _ h => h) (fun i hi (h : i = w2.heap.size) => by omega)).drewN _⟩, by simp [intOf]; omega⟩
      · have HA := hid (fun w h => in_ints b1 x1 s e w h (by omega))
        have HB := hid (fun w h => ref_ints w2.heap.size x1 s e w h (by omega))
        have hle := rInts_len x1 s e
        have hct := rInts_count x1 s e
        obtain ⟨⟨r, s', e'⟩, hrx⟩ : ∃ x, Oct.rInts x1 s e = x := ⟨_, rfl⟩
        rw [hrx] at HA HB hle hct
        simp only at HA HB hle hct
        clear hrx
        have hbb : b < wr.heap.size := World.block_lt_of_cell? wr _ hc1
        have hz2 := hx2.lt
        go_wp2_with fail
        go_region_held3 (fun w' => w'.cell? ⟨b, o + k * 2 + 1, none⟩ = some (.int .i64 x1)) (first | exact hc1 | exact K1 | exact K2 | exact K3) (first | (go_at_call 36; refine (HA.out _ (hx1.frm ((Frm.refl No _).drew) (fun h => h))).mono ?_; rintro e3 w3 ⟨v1, rfl, ho1, hy1, hg1⟩; have K1 := (hg1.cell (p := ⟨b, o + k * 2 + 1, none⟩) hbb (fun h : b = b1 => by omega)).trans hc1) | (go_at_call 37; refine (HB.out _ ((hx2.frm ((Frm.refl No _).drew) (fun h => h)).frm hg1 (fun h : w2.heap.size = b1 => by omega))).mono ?_; rintro e4 w4 ⟨v2, rfl, ho2, hy2, hg2⟩; have hy1' := hy1.frm hg2 (fun h : b1 = w2.heap.size => by omega); have ho1' := hg2.row ho1 (fun i hi (h : i = w2.heap.size) => by have h3 : wr.heap.size ≤ i := (ho1.lt i hi).1; omega); have K2 := (hg2.cell (p := ⟨b, o + k * 2 + 1, none⟩) (Nat.lt_of_lt_of_le hbb hg1.size) (fun h : b = w2.heap.size => by omega)).trans K1) | (go_at_call 35; refine (back2_same v1 v2 r _ (by have := Rd.ofOwn ho1'; rw [intsV_length] at this; exact this) (by have := Rd.ofOwn ho2; rw [intsV_length] at this; exact this) (by omega)).mono ?_; rintro e5 w5 ⟨rfl, hg5⟩; have hy1 := hy1'.frm hg5 (fun h => h); replace hy2 := hy2.frm hg5 (fun h => h); have K3 := (hg5.cell (p := ⟨b, o + k * 2 + 1, none⟩) (Nat.lt_of_lt_of_le (Nat.lt_of_lt_of_le hbb hg1.size) hg2.size) (fun h => h)).trans K2))
        all_goals go_wp2_with fail
        have hfz : Frm No w w5 := (((hf.drew).trans hg1 (fun _ _ h => h) (fun i hi (h : i = b1) => by omega)).trans hg2 (fun _ _ h => h) (fun i hi (h : i = w2.heap.size) => by omega)).thenNo hg5
        have q1 := hy2.c1
        go_quiet ((first | (go_at_call 29; exact Calls.quiet_of_same ((in_err b1 _ _ _ (hy1.frm ((Frm.refl No _).drewN _) (fun h => h))).mono fun _ _ ⟨a, b⟩ => ⟨a, b.symm⟩)) | (go_at_call 40; exact Calls.quiet_of_same ((in_end b1 _ _ _ (hy1.frm ((Frm.refl No _).drewN _) (fun h => h))).mono fun _ _ ⟨a, b⟩ => ⟨a, b.symm⟩)) | (go_at_call 41; exact Calls.quiet_of_same ((ref_end w2.heap.size _ _ _ (hy2.frm ((Frm.refl No _).drewN _) (fun h => h))).mono fun _ _ ⟨a, b⟩ => ⟨a, b.symm⟩))))
        go_wp2_with fail
        exact ⟨⟨k + 1, s', e', by omega, by omega, by go_num, by omega, hy1.frm ((Frm.refl No _).drewN _) (fun h => h), hy2.frm ((Frm.refl No _).drewN _) (fun h => h), hfz.drewN _⟩, by simp [intOf]; omega⟩
      · have HA := hid (fun w h => in_texts b1 x1 s e w h (by omega))
        have HB := hid (fun w h => ref_texts w2.heap.size x1 s e w h (by omega))
        have hle := rTexts_len x1 s e
        have hct := rTexts_count x1 s e
        obtain ⟨⟨r, s', e'⟩, hrx⟩ : ∃ x, Oct.rTexts x1 s e = x := ⟨_, rfl⟩
        rw [hrx] at HA HB hle hct
        simp only at HA HB hle hct
        clear hrx
        have hbb : b < wr.heap.size := World.block_lt_of_cell? wr _ hc1
        have hz2 := hx2.lt
        go_wp2_with fail
        go_region_held3 (fun w' => w'.cell? ⟨b, o + k * 2 + 1, none⟩ = some (.int .i64 x1)) (first | exact hc1 | exact K1 | exact K2) (first | (go_at_call 38; refine (HA.out _ (hx1.frm ((Frm.refl No _).drew) (fun h => h))).mono ?_; rintro e3 w3 ⟨v1, rfl, ho1, hy1, hg1⟩; have K1 := (hg1.cell (p := ⟨b, o + k * 2 + 1, none⟩) hbb (fun h : b = b1 => by omega)).trans hc1) | (go_at_call 39; refine (HB.out _ ((hx2.frm ((Frm.refl No _).drew) (fun h => h)).frm hg1 (fun h : w2.heap.size = b1 => by omega))).mono ?_; rintro e4 w4 ⟨v2, rfl, ho2, hy2, hg2⟩; have hy1' := hy1.frm hg2 (fun h : b1 = w2.heap.size => by omega); have ho1' := hg2.row ho1 (fun i hi (h : i = w2.heap.size) => by have h3 : wr.heap.size ≤ i := (ho1.lt i hi).1; omega); have K2 := (hg2.cell (p := ⟨b, o + k * 2 + 1, none⟩) (Nat.lt_of_lt_of_le hbb hg1.size) (fun h : b = w2.heap.size => by omega)).trans K1))
        have hfz : Frm No w w4 := ((hf.drew).trans hg1 (fun _ _ h => h) (fun i hi (h : i = b1) => by omega)).trans hg2 (fun _ _ h => h) (fun i hi (h : i = w2.heap.size) => by omega)
        rw [strsV_length] at ho1' ho2
        have rd1 := Rd.ofOwn ho1'
        have rd2 := Rd.ofOwn ho2
        obtain ⟨a1, c1, rfl⟩ := ownsRow_shape ho1'
        obtain ⟨a2, c2, rfl⟩ := ownsRow_shape ho2
        clear ho1 ho1' ho2
        go_wp2_with fail
        obtain ⟨wo, rfl⟩ : ∃ wo : World, wo = wr := ⟨_, rfl⟩
        go_loopw [10] (fun i wq => ∃ n : Nat, n ≤ r.length ∧ i = .int .i64 (n : Int) ∧ Frm No w4 wq) (fun i _ => r.length - (intOf i).toNat)
        case atStart => exact ⟨0, by omega, rfl, Frm.refl _ _⟩
        case round =>
          obtain ⟨n, hn, rfl, hq⟩ := hrel
          by_cases hnl : n < r.length
          · obtain ⟨p1, o1, rfl, hcA⟩ := (rd1.frm hq (fun _ _ h => h)).at_ (by omega)
            obtain ⟨p2, o2, rfl, hcB⟩ := (rd2.frm hq (fun _ _ h => h)).at_ (by omega)
            have m1 : wr.cell? ⟨p1, o1 + n, none⟩ = some (.string ⟨r[n].toArray⟩) := by rw [hcA n (by omega)]; simp [strsV]
            have m2 : wr.cell? ⟨p2, o2 + n, none⟩ = some (.string ⟨r[n].toArray⟩) := by rw [hcB n (by omega)]; simp [strsV]
            have kz : (n : Int) < (r.length : Int) := by omega
            clear hcA hcB rd1 rd2
            generalize r[n] = rn at *
            go_wp2_with fail
            go_quiet (fail)
            go_wp2_with fail
            exact ⟨⟨n + 1, by omega, by go_num, hq.drewN _⟩, by simp [intOf]; omega⟩
          · obtain rfl : n = r.length := by omega
            have hy1 := hy1'.frm hq (fun h => h)
            replace hy2 := hy2.frm hq (fun h => h)
            clear rd1 rd2
            go_wp2_with fail
            have q1 := hy2.c1
            go_quiet ((first | (go_at_call 29; exact Calls.quiet_of_same ((in_err b1 _ _ _ (hy1.frm ((Frm.refl No _).drewN _) (fun h => h))).mono fun _ _ ⟨a, b⟩ => ⟨a, b.symm⟩)) | (go_at_call 40; exact Calls.quiet_of_same ((in_end b1 _ _ _ (hy1.frm ((Frm.refl No _).drewN _) (fun h => h))).mono fun _ _ ⟨a, b⟩ => ⟨a, b.symm⟩)) | (go_at_call 41; exact Calls.quiet_of_same ((ref_end w2.heap.size _ _ _ (hy2.frm ((Frm.refl No _).drewN _) (fun h => h))).mono fun _ _ ⟨a, b⟩ => ⟨a, b.symm⟩))))
            go_wp2_with fail
            exact ⟨⟨k + 1, s', e', by omega, by omega, by go_num, by omega, hy1.frm ((Frm.refl No _).drewN _) (fun h => h), hy2.frm ((Frm.refl No _).drewN _) (fun h => h), (hfz.thenNo hq).drewN _⟩, by simp [intOf]; omega⟩
    · by_cases hka : k < asks.length
      · have hk2 : ¬ k < 20 := fun h => hlast ⟨hka, h⟩
        go_wp2_with fail
        go_ret
        exact ⟨rfl, hf⟩
      · go_wp2_with fail
        go_ret
        exact ⟨rfl, hf⟩
theorem cells_pair : Try.prog.cellsOf 68 = 2 := by kernel_rfl
theorem el_pair {H : Type} {enc : TypeId × Value → H} {W : World} {cs : List Value} {n : Nat} {x : DataW H × List MemPlace} (hl : cs.length = 2) (h : DataW.trod enc Try.prog W 0 (fun _ => true) true n 68 cs = some x) :
    ∃ y : Int × Int, cs = pairV y ∧ (Fits y.1 ∧ Fits y.2) := by
  obtain ⟨xs, m, -, -, -, hxl, hx⟩ := DataW.trod_array Try.underlying68 h
  obtain ⟨c0, c1, rfl⟩ := len2 hl
  rw [cells_int] at hx
  have h0 := hx 0 (by omega)
  have h1 := hx 1 (by omega)
  rw [List.getElem?_eq_getElem (by omega)] at h0 h1
  obtain ⟨a, e0, -, wa⟩ := DataW.trod_int Try.underlying3 h0
  obtain ⟨b, e1, -, wb⟩ := DataW.trod_int Try.underlying3 h1
  simp at e0 e1
  exact ⟨(a, b), by rw [e0, e1]; rfl, bounds_i64 wa, bounds_i64 wb⟩
theorem open_pairs {H : Type} {enc : TypeId × Value → H} {W : World} {v : Value} {d : DataW H} {ps : List MemPlace} (h : DataW.Trod enc Try.prog W 0 (fun _ => true) true 64 v d ps) (hv : ∃ a l c, v = .slice a l c) :
    ∃ xs : List (Int × Int), RdL W v 2 pairV xs ∧ xs.length ≤ maxLen ∧ ∀ y ∈ xs, Fits y.1 ∧ Fits y.2 :=
  open_list Try.underlying64 cells_pair (by omega) h hv (fun _ _ _ hl h => el_pair hl h)

set_option maxRecDepth 100000 in
theorem lifted (os : Os) (started : os.Started) (H : Type) (enc : TypeId × Value → H) :
    ReturnsInHanded {} Try.checked os 8 .any (Rows.octetsReadsSpec.pre6 enc Try.prog Try.f8 Rows.octetsReadsRow.domain false) (Rows.octetsReadsSpec.post enc Try.prog Try.f8 false true false false) := by
  refine returnsInHanded_of_change_sized (C := Try.checked) own started (by kernel_rfl) Try.func8
    (ChangeSpec.witness6 (enc := enc) (C := Try.checked) false ⟨#[], #[.string ByteArray.empty, .slice none 0 0], []⟩ 8 (by kernel_rfl) (by kernel_rfl) (by kernel_rfl) (by kernel_rfl)) ?_
  intro W base args ds gs before hval0 hW _ hsz0 _
  have hsz : (DataW.weightsEach Try.prog (Try.f8.params.toList ++ Rows.octetsReadsSpec.plain.varTypes Try.prog) (ds ++ gs)).all (· ≤ reachBytes) = true := hsz0
  clear hsz0
  have hval : ∀ (j : Nat) t v, Try.f8.params[j]? = some t → args[j]? = some v → Value.okWide Try.prog W .any base t v := hval0
  have hW' : DataW.Whole enc Try.prog Try.f8.params.toList Rows.octetsReadsSpec.vars false W args.toList ds gs before := hW
  have hts : ∀ t ∈ Try.f8.params.toList, Try.prog.readableRec t = true ∧ t < Try.prog.types.size := by
    rw [Try.params8]
    intro t ht
    simp only [List.mem_cons, List.not_mem_nil, or_false] at ht
    rcases ht with rfl | rfl <;> exact ⟨by kernel_rfl, of_decide_eq_true (by kernel_rfl)⟩
  obtain ⟨p, q, hA0, hV, hbef, hfz, hnd⟩ := hW
  have hA : DataW.TrodAll enc Try.prog W 0 (fun _ => true) true Try.f8.params.toList args.toList ds p := hA0
  rw [Try.params8] at hA hval hsz
  obtain ⟨v0, vs0, d0, ds0, p0, q0, hargs, rfl, rfl, h0, r0⟩ := trodAll_cons hA
  obtain ⟨v1, vs1, d1, ds1, p1, q1, rfl, rfl, rfl, h1, r1⟩ := trodAll_cons r0
  obtain ⟨rfl, rfl, rfl⟩ := trodAll_nil r1
  obtain rfl : args = #[v0, v1] := by cases args; simp_all
  clear hA hA0 hval0
  obtain ⟨a0, rfl, rfl, rfl, w0⟩ := open_string Try.underlying9 (hval 0 9 v0 rfl rfl) h0
  have hb0' : a0.data.toList.length ≤ 140737488351232 := sized_string hsz (j := 0) (t := 9) rfl rfl
  obtain ⟨l0, rfl⟩ := str_of a0
  obtain ⟨x1, hr1, hn1, hg1⟩ := open_pairs (enc := enc) h1 (okWide_slice Try.underlying64 (hval 1 64 v1 rfl rfl))
  refine (walk l0 hb0' v1 x1 W hr1 hn1 hg1).mono fun e W' ⟨he, hg⟩ => ?_
  subst he
  exact ⟨_, rfl, post_law hW' rfl Try.underlying4 rfl rfl rfl rfl laidOut hts hg.toBelow⟩

theorem over : Rows.octetsReadsRow.holds Try.pinned (OpenSpec.ofChange Rows.octetsReadsSpec) :=
  OpenClaim.holds_of_wide 8 Try.f8 rfl rfl rfl rfl rfl rfl rfl ⟨rfl, rfl, rfl, rfl, rfl⟩ rfl rfl rfl rfl rfl (by kernel_rfl) Try.func8 (by kernel_rfl)
    (of_decide_eq_true (by kernel_rfl)) (by unfold Func.isWrapper; first | (rw [if_pos (by decide +kernel)]; kernel_rfl) | (rw [if_neg (by decide +kernel)]; exact ⟨rfl, rfl⟩))
    (fun os started H enc _ => lifted os started H enc)

theorem proved : Rows.OctetsReadsSaid :=
  over
#print axioms proved
end OctReads
end Go.Proofs.Ytlhcjoaeipgbeaa
