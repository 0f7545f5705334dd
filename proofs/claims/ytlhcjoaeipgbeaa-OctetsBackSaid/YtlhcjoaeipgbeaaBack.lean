/- The walks of large and back: is an item too large; is it what is read next. -/
import Derived.Test.YtlhcjoaeipgbeaaBackLaw
import Derived.Test.YtlhcjoaeipgbeaaBack2
import Derived.Deep.RegionHeld3
namespace Go.Proofs.Ytlhcjoaeipgbeaa
open Go.RowKit

set_option maxRecDepth 100000 in
set_option maxHeartbeats 400000 in
theorem large_any (x : It) (w : World) (h : ItOK w x) :
    Calls Try.prog 45 #[.agg (itV x).toArray] w fun e w' => e = .returned (.bool (lg x)) ∧ Frm No w w' := by
  have hlg : lg x = (decide (2000 < x.t.length) || decide (200 < x.zs.length) || decide (200 < x.ss.length) || x.ss.any fun s => decide (500 < s.length)) := rfl
  obtain ⟨L, hL⟩ : ∃ L, lg x = L := ⟨_, rfl⟩
  rw [hL] at hlg ⊢
  obtain ⟨ht, hzl, hsl, hss, -, -, hrz, hrs⟩ := h
  unfold maxLen at ht hzl hsl hss
  clear hL
  obtain ⟨k, n, b, t, ns, zs, ts, ss⟩ := x
  unfold itV at *
  simp only at *
  obtain ⟨a1, c1, rfl⟩ := hrz.shape
  obtain ⟨a2, c2, rfl⟩ := hrs.shape
  by_cases h1 : 2000 < t.length
  · rw [decide_eq_true h1, Bool.true_or, Bool.true_or, Bool.true_or] at hlg
    subst hlg
    have h1' : (2000 : Int) < (t.length : Int) := by omega
    go_enter Try.func45, Try.ntmps45
    go_wp2_with fail
    go_ret
    exact ⟨rfl, (Frm.refl _ _).alloc _⟩
  · have h1' : ¬ (2000 : Int) < (t.length : Int) := by omega
    rw [decide_eq_false h1, Bool.false_or] at hlg
    clear h1
    by_cases h2 : 200 < zs.length
    · rw [decide_eq_true h2, Bool.true_or, Bool.true_or] at hlg
      subst hlg
      have h2' : (200 : Int) < (zs.length : Int) := by omega
      go_enter Try.func45, Try.ntmps45
      go_wp2_with fail
      go_ret
      exact ⟨rfl, (Frm.refl _ _).alloc _⟩
    · have h2' : ¬ (200 : Int) < (zs.length : Int) := by omega
      rw [decide_eq_false h2, Bool.false_or] at hlg
      clear h2
      by_cases h3 : 200 < ss.length
      · rw [decide_eq_true h3, Bool.true_or] at hlg
        subst hlg
        have h3' : (200 : Int) < (ss.length : Int) := by omega
        go_enter Try.func45, Try.ntmps45
        go_wp2_with fail
        go_ret
        exact ⟨rfl, (Frm.refl _ _).alloc _⟩
      · have h3' : ¬ (200 : Int) < (ss.length : Int) := by omega
        rw [decide_eq_false h3, Bool.false_or] at hlg
        go_enter Try.func45, Try.ntmps45
        go_wp2_with fail
        obtain ⟨wb, hwb⟩ : ∃ wb : World, wb = w.alloc (.cells #[.int .i64 k, .int .i64 n, .bool b, .string ⟨t.toArray⟩, .slice a1 zs.length c1, .slice a2 ss.length c2] 81) := ⟨_, rfl⟩
        have HWB := hid hwb
        have hfb : Frm No w wb := by rw [hwb]; exact (Frm.refl _ _).alloc _
        have hq : wb.cell? ⟨w.heap.size, 5, none⟩ = some (.slice a2 ss.length c2) := by rw [hwb, World.cell?_alloc_at _ _ _ _ rfl]; rfl
        have hbs : w.heap.size < wb.heap.size := by rw [hwb]; simp
        rw [← hwb]
        clear hwb h1' h2' h3'
        go_loopw [3] (fun i wr => ∃ j : Nat, j ≤ ss.length ∧ i = .int .i64 (j : Int) ∧ (∀ g (hg : g < ss.length), g < j → ss[g].length ≤ 500) ∧ Frm No wb wr) (fun i _ => ss.length - (intOf i).toNat)
        case atStart => exact ⟨0, by omega, rfl, fun g _ h => by omega, Frm.refl _ _⟩
        case round =>
          obtain ⟨j, hj, rfl, hlow, hf⟩ := hrel
          have q := (hf.cell (p := ⟨w.heap.size, 5, none⟩) hbs (fun h => h)).trans hq
          by_cases hjl : j < ss.length
          · obtain ⟨b', o', e, hc⟩ := ((hrs.frm hfb (fun _ _ h => h)).frm hf (fun _ _ h => h)).at_ (by omega)
            subst e
            have k1 : wr.cell? ⟨b', o' + j, none⟩ = some (.string ⟨ss[j].toArray⟩) := by rw [hc j (by omega)]; simp [strsV]
            have kz : (j : Int) < (ss.length : Int) := by omega
            have hsj := hss _ (List.getElem_mem hjl)
            clear hc
            by_cases h5 : 500 < ss[j].length
            · have h5' : (500 : Int) < (ss[j].length : Int) := by omega
              have hany : (ss.any fun s => decide (500 < s.length)) = true := List.any_eq_true.2 ⟨_, List.getElem_mem hjl, decide_eq_true h5⟩
              rw [hany] at hlg
              subst hlg
              generalize ss[j] = s at *
              go_wp2_with fail
              go_ret
              exact ⟨rfl, hfb.thenNo hf⟩
            · have h5' : ¬ (500 : Int) < (ss[j].length : Int) := by omega
              have hlow' : Hid (∀ g (hg : g < ss.length), g < j + 1 → ss[g].length ≤ 500) := by
                intro g hg hgj
                by_cases hgj' : g < j
                · exact hlow g hg hgj'
                · obtain rfl : g = j := by omega
                  omega
              clear hlow hlg
              generalize ss[j] = s at *
              go_wp2_with fail
              exact ⟨⟨j + 1, by omega, by go_num, hlow'.out, hf⟩, by simp [intOf]; omega⟩
          · obtain rfl : j = ss.length := by omega
            have hany : (ss.any fun s => decide (500 < s.length)) = false := by
              rw [List.any_eq_false]
              intro s hs
              obtain ⟨g, hg, rfl⟩ := List.getElem_of_mem hs
              have := hlow g hg hg
              simp; omega
            rw [hany] at hlg
            subst hlg
            clear hlow
            go_wp2_with fail
            go_ret
            exact ⟨rfl, hfb.thenNo hf⟩

theorem item_of {x : It} {k : Int} (h : knd x = k) : Oct.item x = if k = 0 then Oct.enc x.n else if k = 1 then Oct.flag x.b else if k = 2 then Oct.text x.t
    else if k = 3 then Oct.enc x.zs.length ++ Oct.ints x.zs else Oct.enc x.ss.length ++ Oct.texts x.ss := by rw [← h]; rfl
theorem bad_of {x : It} {k : Int} (h : knd x = k) : Oct.badItem x = if k = 0 then (Oct.enc x.n).isEmpty else if k = 1 then false else if k = 2 then decide (65536 < x.t.length)
    else if k = 3 then (decide (65536 < x.zs.length) || Oct.badInts x.zs) else (decide (65536 < x.ss.length) || Oct.badTexts x.ss) := by rw [← h]; rfl

set_option maxRecDepth 100000 in
set_option maxHeartbeats 1000000 in
theorem back_item (b : Nat) (x : It) (r : List UInt8) (w0 w : World) (hx : ItOK w0 x) (hf0 : Frm No w0 w) (hb : w0.heap.size ≤ b) (hin : InAt w b (Oct.item x ++ r) 0) (hl : (Oct.item x ++ r).length ≤ 281474976710656) (hlg : lg x = false) (hbad : Oct.badItem x = false) :
    Calls Try.prog 47 #[.pointer (some ⟨b, 0, none⟩), .agg (itV x).toArray] w fun e w' => e = .returned (.bool true) ∧ InAt w' b r 0 ∧ Frm (One b) w w' := by
  have HK := hid (fun w => kind_any x w)
  have hk := knd_in x
  obtain ⟨hl1, hl2, hl3, hl4⟩ := lg_false hlg
  have hit := fun k (h : knd x = k) => item_of h
  have hbt := fun k (h : knd x = k) => bad_of h
  obtain ⟨ht, hzl, hsl, hss, -, -, hrz, hrs⟩ := hx
  clear ht hzl hsl hss hlg
  have hbw := hin.lt
  obtain ⟨kd, hkd⟩ : ∃ kd, knd x = kd := ⟨_, rfl⟩
  rw [hit kd hkd] at hin hl
  rw [hbt kd hkd] at hbad
  rw [hkd] at HK hk
  clear hit hbt hkd
  obtain ⟨k, n, bo, t, ns, zs, ts, ss⟩ := x
  unfold itV at *
  simp only at *
  rcases hk with rfl | rfl | rfl | rfl | rfl
  all_goals simp (decide := true) only [if_true, if_false] at hbad hin hl
  · have hr := rInt_enc hbad r
    have HI := hid (fun w h => in_int b _ 0 w h hl)
    rw [hr] at HI
    simp only at HI
    clear hr hrz hrs hbad hl hl4
    go_enter Try.func47, Try.ntmps47
    go_wp2_with (first | (go_at_call 46; refine (HK.out _).mono ?_; rintro e1 w1 ⟨rfl, hf1⟩; have q := hf1.box; have hfa : Frm No w w1 := ((Frm.refl No w).alloc _).thenNo hf1; have hz1 : w.heap.size < w1.heap.size := Nat.lt_of_lt_of_le (by simp) hf1.size; have hin1 := hin.frm hfa (fun h => h)))
    have hc1 : w1.cell? ⟨w.heap.size, 1, none⟩ = some (.int .i64 n) := q 1
    go_region_held3 (fun w' => w'.cell? ⟨w.heap.size, 1, none⟩ = some (.int .i64 n)) (first | exact hc1 | exact K1) (first | (go_at_call 28; refine (HI.out _ (hin1.frm ((Frm.refl No _).drew) (fun h => h))).mono ?_; rintro e3 w3 ⟨rfl, hy1, hg1⟩; have K1 := (hg1.cell (p := ⟨w.heap.size, 1, none⟩) hz1 (fun h : w.heap.size = b => by omega)).trans hc1))
    go_wp2_with fail
    go_ret
    exact ⟨rfl, hy1, hfa.any.then_ (((Frm.refl _ _).drewN _).then_ hg1)⟩
  · have hr := rBool_flag bo r
    have HI := hid (fun w h => in_bool b _ 0 w h hl)
    rw [hr] at HI
    simp only at HI
    clear hr hrz hrs hbad hl hl4
    go_enter Try.func47, Try.ntmps47
    go_wp2_with (first | (go_at_call 46; refine (HK.out _).mono ?_; rintro e1 w1 ⟨rfl, hf1⟩; have q := hf1.box; have hfa : Frm No w w1 := ((Frm.refl No w).alloc _).thenNo hf1; have hz1 : w.heap.size < w1.heap.size := Nat.lt_of_lt_of_le (by simp) hf1.size; have hin1 := hin.frm hfa (fun h => h)))
    have hc1 : w1.cell? ⟨w.heap.size, 2, none⟩ = some (.bool bo) := q 2
    go_region_held3 (fun w' => w'.cell? ⟨w.heap.size, 2, none⟩ = some (.bool bo)) (first | exact hc1 | exact K1) (first | (go_at_call 31; refine (HI.out _ (hin1.frm ((Frm.refl No _).drew) (fun h => h))).mono ?_; rintro e3 w3 ⟨rfl, hy1, hg1⟩; have K1 := (hg1.cell (p := ⟨w.heap.size, 2, none⟩) hz1 (fun h : w.heap.size = b => by omega)).trans hc1))
    go_wp2_with fail
    go_ret
    exact ⟨rfl, hy1, hfa.any.then_ (((Frm.refl _ _).drewN _).then_ hg1)⟩
  · have hr := rText_text (s := t) (by omega) r
    have HI := hid (fun w h => in_text b _ 0 w h hl)
    rw [hr] at HI
    simp only at HI
    clear hr hrz hrs hbad hl hl4
    go_enter Try.func47, Try.ntmps47
    go_wp2_with (first | (go_at_call 46; refine (HK.out _).mono ?_; rintro e1 w1 ⟨rfl, hf1⟩; have q := hf1.box; have hfa : Frm No w w1 := ((Frm.refl No w).alloc _).thenNo hf1; have hz1 : w.heap.size < w1.heap.size := Nat.lt_of_lt_of_le (by simp) hf1.size; have hin1 := hin.frm hfa (fun h => h)))
    have hc1 : w1.cell? ⟨w.heap.size, 3, none⟩ = some (.string ⟨t.toArray⟩) := q 3
    go_region_held3 (fun w' => w'.cell? ⟨w.heap.size, 3, none⟩ = some (.string ⟨t.toArray⟩)) (first | exact hc1 | exact K1) (first | (go_at_call 33; refine (HI.out _ (hin1.frm ((Frm.refl No _).drew) (fun h => h))).mono ?_; rintro e3 w3 ⟨rfl, hy1, hg1⟩; have K1 := (hg1.cell (p := ⟨w.heap.size, 3, none⟩) hz1 (fun h : w.heap.size = b => by omega)).trans hc1))
    go_wp2_with fail
    go_ret
    exact ⟨rfl, hy1, hfa.any.then_ (((Frm.refl _ _).drewN _).then_ hg1)⟩
  · have hr := rInts_list (zs := zs) (most := 200) (by omega) (by omega) (by simpa [show ¬ 65536 < zs.length by omega] using hbad) r
    have HI := hid (fun w h => in_ints b 200 _ 0 w h hl)
    rw [hr] at HI
    simp only at HI
    obtain ⟨a1, c1, rfl⟩ := hrz.shape
    clear hr hbad hl
    go_enter Try.func47, Try.ntmps47
    go_wp2_with (first | (go_at_call 46; refine (HK.out _).mono ?_; rintro e1 w1 ⟨rfl, hf1⟩; have q := hf1.box; have hfa : Frm No w w1 := ((Frm.refl No w).alloc _).thenNo hf1; have hz1 : w.heap.size < w1.heap.size := Nat.lt_of_lt_of_le (by simp) hf1.size; have hin1 := hin.frm hfa (fun h => h)) | (go_at_call 36; refine (HI.out _ hin1).mono ?_; rintro e3 w3 ⟨v1, rfl, ho1, hy1, hg1⟩; rw [intsV_length] at ho1; have hrd := Rd.ofOwn ho1))
    obtain ⟨a2, c2, rfl⟩ := ownsRow_shape ho1
    have hc1 := (hg1.cell (p := ⟨w.heap.size, 4, none⟩) hz1 (fun h : w.heap.size = b => by omega)).trans (q 4)
    have hzz := hg1.size
    have hbx : w.heap.size < w3.heap.size := by omega
    have hf3 : Frm No w0 w3 := (hf0.thenNo hfa).trans hg1 (fun _ _ h => h) (fun i hi (h : i = b) => by omega)
    have hr3 := hrz.frm hf3 (fun _ _ h => h)
    clear hf0 hin ho1 q
    go_loopw [6] (fun i wr => ∃ j : Nat, j ≤ zs.length ∧ i = .int .i64 (j : Int) ∧ Frm No w3 wr) (fun i _ => zs.length - (intOf i).toNat)
    case atStart => exact ⟨0, by omega, rfl, Frm.refl _ _⟩
    case round =>
      obtain ⟨j, hj, rfl, hf⟩ := hrel
      have q := (hf.cell (p := ⟨w.heap.size, 4, none⟩) hbx (fun h => h)).trans hc1
      by_cases hjl : j < zs.length
      · obtain ⟨b1, o1, e1, hd1⟩ := (hr3.frm hf (fun _ _ h => h)).at_ (by omega)
        obtain ⟨b2, o2, e2, hd2⟩ := (hrd.frm hf (fun _ _ h => h)).at_ (by omega)
        subst e1 e2
        have k1 : wr.cell? ⟨b1, o1 + j, none⟩ = some (.int .i64 zs[j]) := by rw [hd1 j (by omega)]; simp [intsV]
        have k2 : wr.cell? ⟨b2, o2 + j, none⟩ = some (.int .i64 zs[j]) := by rw [hd2 j (by omega)]; simp [intsV]
        have kz : (j : Int) < (zs.length : Int) := by omega
        clear hd1 hd2
        generalize zs[j] = z at *
        go_wp2_with fail
        go_quiet (fail)
        go_wp2_with fail
        exact ⟨⟨j + 1, by omega, by go_num, hf.drewN _⟩, by simp [intOf]; omega⟩
      · obtain rfl : j = zs.length := by omega
        go_wp2_with fail
        go_ret
        exact ⟨rfl, hy1.frm hf (fun h => h), (hfa.any.then_ hg1).thenNo hf⟩
  · have hr := rTexts_list (ss := ss) (most := 200) (by omega) (by omega) (by simpa [show ¬ 65536 < ss.length by omega] using hbad) r
    have HI := hid (fun w h => in_texts b 200 _ 0 w h hl)
    rw [hr] at HI
    simp only at HI
    obtain ⟨a1, c1, rfl⟩ := hrs.shape
    clear hr hbad hl
    go_enter Try.func47, Try.ntmps47
    go_wp2_with (first | (go_at_call 46; refine (HK.out _).mono ?_; rintro e1 w1 ⟨rfl, hf1⟩; have q := hf1.box; have hfa : Frm No w w1 := ((Frm.refl No w).alloc _).thenNo hf1; have hz1 : w.heap.size < w1.heap.size := Nat.lt_of_lt_of_le (by simp) hf1.size; have hin1 := hin.frm hfa (fun h => h)) | (go_at_call 38; refine (HI.out _ hin1).mono ?_; rintro e3 w3 ⟨v1, rfl, ho1, hy1, hg1⟩; rw [strsV_length] at ho1; have hrd := Rd.ofOwn ho1))
    obtain ⟨a2, c2, rfl⟩ := ownsRow_shape ho1
    have hc1 := (hg1.cell (p := ⟨w.heap.size, 5, none⟩) hz1 (fun h : w.heap.size = b => by omega)).trans (q 5)
    have hzz := hg1.size
    have hbx : w.heap.size < w3.heap.size := by omega
    have hf3 : Frm No w0 w3 := (hf0.thenNo hfa).trans hg1 (fun _ _ h => h) (fun i hi (h : i = b) => by omega)
    have hr3 := hrs.frm hf3 (fun _ _ h => h)
    clear hf0 hin ho1 q
    go_loopw [8] (fun i wr => ∃ j : Nat, j ≤ ss.length ∧ i = .int .i64 (j : Int) ∧ Frm No w3 wr) (fun i _ => ss.length - (intOf i).toNat)
    case atStart => exact ⟨0, by omega, rfl, Frm.refl _ _⟩
    case round =>
      obtain ⟨j, hj, rfl, hf⟩ := hrel
      have q := (hf.cell (p := ⟨w.heap.size, 5, none⟩) hbx (fun h => h)).trans hc1
      by_cases hjl : j < ss.length
      · obtain ⟨b1, o1, e1, hd1⟩ := (hr3.frm hf (fun _ _ h => h)).at_ (by omega)
        obtain ⟨b2, o2, e2, hd2⟩ := (hrd.frm hf (fun _ _ h => h)).at_ (by omega)
        subst e1 e2
        have k1 : wr.cell? ⟨b1, o1 + j, none⟩ = some (.string ⟨ss[j].toArray⟩) := by rw [hd1 j (by omega)]; simp [strsV]
        have k2 : wr.cell? ⟨b2, o2 + j, none⟩ = some (.string ⟨ss[j].toArray⟩) := by rw [hd2 j (by omega)]; simp [strsV]
        have kz : (j : Int) < (ss.length : Int) := by omega
        clear hd1 hd2
        generalize ss[j] = z at *
        go_wp2_with fail
        go_quiet (fail)
        go_wp2_with fail
        exact ⟨⟨j + 1, by omega, by go_num, hf.drewN _⟩, by simp [intOf]; omega⟩
      · obtain rfl : j = ss.length := by omega
        go_wp2_with fail
        go_ret
        exact ⟨rfl, hy1.frm hf (fun h => h), (hfa.any.then_ hg1).thenNo hf⟩
end Go.Proofs.Ytlhcjoaeipgbeaa
