/- The walk of the reference's PutReply. -/
import Derived.Test.YtjhodcdjkokkoaaRepPut
import Derived.Test.YtjhodcdjkokkoaaCmdSpeaks
namespace Go.Proofs.Ytjhodcdjkokkoaa
open Go.RowKit

theorem Rep.bad_ints (r : Rp) : Rep.bad r = (Oct.badInts [r.k, r.line, r.col, r.count] || decide (65536 < r.text.length) || Oct.badTexts r.texts) := by
  simp [Rep.bad, Oct.badInts, Bool.or_assoc]
theorem Rep.enc_ints (r : Rp) : Rep.enc r = (Oct.ints [r.k, r.line, r.col, r.count] ++ (Oct.text r.text ++ (Oct.enc r.texts.length ++ (Oct.texts r.texts ++ Oct.enc r.marks.length)))) ++ Oct.texts (r.marks.map Mk.put) := by
  simp [Rep.enc, Oct.ints]
theorem Rep.put_bad {r : Rp} (h : Rep.bad r = true) : Rep.put r = [] := by unfold Rep.put; rw [h, Bool.or_true]; rfl
theorem badInts_at {zs : List Int} {j : Nat} (hj : j < zs.length) (h : Oct.enc zs[j] = []) : Oct.badInts zs = true := by
  simp only [Oct.badInts, List.any_eq_true]
  exact ⟨zs[j], List.getElem_mem hj, by rw [h]; rfl⟩
theorem badTexts_at {ss : List (List UInt8)} {j : Nat} (hj : j < ss.length) (h : 65536 < ss[j].length) : Oct.badTexts ss = true := by
  simp only [Oct.badTexts, List.any_eq_true, decide_eq_true_eq]
  exact ⟨ss[j], List.getElem_mem hj, h⟩
theorem texts_put_snoc {l : List Nat} {k : Nat} (hk : k < l.length) : Oct.texts ((l.take (k + 1)).map Mk.put) = Oct.texts ((l.take k).map Mk.put) ++ Oct.text (Mk.put l[k]) := by
  rw [List.take_succ_eq_append_getElem hk, List.map_append]
  simp [Oct.texts]

set_option maxRecDepth 100000 in
set_option maxHeartbeats 8000000 in
theorem rreput_any (r : Rp) (tv mv : Value) (w : World) (h1 : r.text.length ≤ 281474976710656) (h2 : ∀ s ∈ r.texts, s.length ≤ 281474976710656) (h3 : ∀ n ∈ r.marks, n < 18446744073709551616) (hT : Rd w tv r.texts.length 1 (strsV r.texts)) (hM : Rd w mv r.marks.length 1 (fltV r.marks)) :
    Calls Try.prog 22 #[rpV r tv mv] w fun e w' => e = .returned (.string ⟨(Rep.put r).toArray⟩) ∧ Frm No w w' := by
  obtain ⟨tao, tcp, rfl⟩ := hT.shape
  obtain ⟨mao, mcp, rfl⟩ := hM.shape
  by_cases b1 : 4096 < r.texts.length
  · have hp := Rep.put_big (r := r) (by simp [Rep.big, b1])
    rw [hp]
    have b1' : (4096 : Int) < (r.texts.length : Int) := by omega
    clear hT hM h1 h2 h3 hp
    unfold rpV
    go_enter Try.func22, Try.ntmps22
    go_wp2_with fail
    go_ret
    exact ⟨rfl, (Frm.refl No w).alloc _⟩
  have b1' : ¬ (4096 : Int) < (r.texts.length : Int) := by omega
  by_cases b2 : 4096 < r.marks.length
  · have hp := Rep.put_big (r := r) (by simp [Rep.big, b2])
    rw [hp]
    have b2' : (4096 : Int) < (r.marks.length : Int) := by omega
    clear hT hM h1 h2 h3 hp
    unfold rpV
    go_enter Try.func22, Try.ntmps22
    go_wp2_with fail
    go_ret
    exact ⟨rfl, (Frm.refl No w).alloc _⟩
  have b2' : ¬ (4096 : Int) < (r.marks.length : Int) := by omega
  by_cases b3 : 65536 < r.text.length
  · have hp := Rep.put_bad (r := r) (by simp [Rep.bad, b3])
    rw [hp]
    have b3' : (65536 : Int) < (r.text.length : Int) := by omega
    clear hT hM h1 h2 h3 hp
    unfold rpV
    go_enter Try.func22, Try.ntmps22
    go_wp2_with fail
    go_ret
    exact ⟨rfl, (Frm.refl No w).alloc _⟩
  have b3' : ¬ (65536 : Int) < (r.text.length : Int) := by omega
  have hbig : Rep.big r = false := by simp [Rep.big]; omega
  obtain ⟨R, hR0⟩ : ∃ R, Rep.put r = R := ⟨_, rfl⟩
  rw [hR0]
  have hR := hid hR0
  clear hR0
  have HBI := hid (Rep.bad_ints r)
  have HEI := hid (Rep.enc_ints r)
  have HPB := hid (fun h => hR.out.symm.trans (Rep.put_bad (r := r) h))
  have HPN := hid (fun (h : Rep.bad r = false) => hR.out.symm.trans ((Rep.put_not (r := r) hbig).trans (by rw [h]; rfl : _ = Rep.enc r)))
  have HRT := hid (fun w1 (hf : Frm No w w1) => hT.frm hf (fun _ _ h => h))
  have HRM := hid (fun w1 (hf : Frm No w w1) => hM.frm hf (fun _ _ h => h))
  have H3 := hid h3
  have HTS := hid (fun w1 (hf : Frm No w w1) (h6 : ∀ s ∈ r.texts, s.length ≤ 65536) => rtexts_any (.slice tao r.texts.length tcp) r.texts w1 (by omega) h6 (hT.frm hf (fun _ _ h => h)))
  have HT := hid (fun s w h => rtext_any s w h)
  have HP := hid (fun n w => refput_any n w)
  have l1 := Oct.text_le r.text
  have l2 := Oct.texts_le r.texts
  have l3 := Oct.enc_le r.texts.length
  have l4 := Oct.enc_le r.marks.length
  have l5 := Oct.ints_le [r.k, r.line, r.col, r.count]
  have H2 := hid h2
  clear hT hM h1 h2 h3 hR hbig
  generalize Rep.bad r = BD at *
  generalize Rep.enc r = EN at *
  obtain ⟨k, line, col, count, text, texts, marks⟩ := r
  unfold rpV
  dsimp only at *
  obtain ⟨ns, hns⟩ : ∃ ns : List Int, ns = [k, line, col, count] := ⟨_, rfl⟩
  rw [← hns] at HBI HEI l5
  have hnl : ns.length = 4 := by rw [hns]; rfl
  have HNV : Hid (∀ j (h : j < ns.length), (#[.int .i64 k, .int .i64 line, .int .i64 col, .int .i64 count] : Array Value)[j]? = some (.int .i64 ns[j])) := by
    refine hid (fun j h => ?_)
    subst hns
    match j, h with
    | 0, _ => rfl
    | 1, _ => rfl
    | 2, _ => rfl
    | 3, _ => rfl
  have hfA := (Frm.refl No w).alloc (.cells #[.int .i64 k, .int .i64 line, .int .i64 col, .int .i64 count, .string ⟨text.toArray⟩, .slice tao texts.length tcp, .slice mao marks.length mcp] 48)
  have hfB := hfA.alloc (.cells #[.int .i64 k, .int .i64 line, .int .i64 col, .int .i64 count] 3)
  have QA := hid (fun w1 (hf : Frm No ((w.alloc (.cells #[.int .i64 k, .int .i64 line, .int .i64 col, .int .i64 count, .string ⟨text.toArray⟩, .slice tao texts.length tcp, .slice mao marks.length mcp] 48)).alloc (.cells #[.int .i64 k, .int .i64 line, .int .i64 col, .int .i64 count] 3)) w1) => box2a hf)
  have QB := hid (fun w1 (hf : Frm No ((w.alloc (.cells #[.int .i64 k, .int .i64 line, .int .i64 col, .int .i64 count, .string ⟨text.toArray⟩, .slice tao texts.length tcp, .slice mao marks.length mcp] 48)).alloc (.cells #[.int .i64 k, .int .i64 line, .int .i64 col, .int .i64 count] 3)) w1) => box2b hf)
  have HFB := hid hfB
  clear hfA hfB hns
  go_enter Try.func22, Try.ntmps22
  go_wp2_with fail
  obtain ⟨wN, hwN⟩ : ∃ wN, wN = ((w.alloc (.cells #[.int .i64 k, .int .i64 line, .int .i64 col, .int .i64 count, .string ⟨text.toArray⟩, .slice tao texts.length tcp, .slice mao marks.length mcp] 48)).alloc (.cells #[.int .i64 k, .int .i64 line, .int .i64 col, .int .i64 count] 3)) := ⟨_, rfl⟩
  rw [← hwN] at QA QB HFB ⊢
  clear hwN
  go_loopw [4, 5] (fun v i wr => ∃ j : Nat, j ≤ 4 ∧ i = .int .i64 (j : Int) ∧ v = .string ⟨(Oct.ints (ns.take j)).toArray⟩ ∧ Hid (Oct.badInts (ns.take j) = false) ∧ Frm No wN wr) (fun _ i _ => 4 - (intOf i).toNat)
  case atStart => exact ⟨0, by omega, rfl, rfl, hid rfl, Frm.refl _ _⟩
  case round =>
    obtain ⟨j, hj, rfl, rfl, hall, hf⟩ := hrel
    by_cases hj4 : j < 4
    · have hj4' : (j : Int) < 4 := by omega
      have hjn : j < ns.length := by omega
      have k1 : wr.cell? ⟨w.heap.size + 1, j, none⟩ = some (.int .i64 ns[j]) := (QB.out _ hf j).trans (HNV.out j hjn)
      have HB := hid (fun h => HBI.out.trans (by rw [badInts_at hjn h]; rfl : _ = true))
      have HS := hid (Oct.ints_snoc ns j hjn)
      have HBS := hid (Oct.badInts_snoc ns j hjn)
      have hle := Oct.ints_le (ns.take j)
      have hle2 : (Oct.ints (ns.take j)).length ≤ 32 := by rw [List.length_take] at hle; omega
      have hle3 := Oct.enc_le ns[j]
      clear hle HNV
      by_cases he : Oct.enc ns[j] = []
      · obtain rfl : R = [] := HPB.out (HB.out he)
        have he' : (Oct.enc ns[j] == []) = true := by simpa using he
        have he2 : (Oct.enc ns[j]).isEmpty = true := by simpa using he
        clear HB HS HBS HPB HPN HBI HEI HTS HT H2 H3 HRM HRT QA QB he
        generalize ns[j] = x at *
        go_wp2_with (go_at_call 33; refine (HP.out _ _).mono ?_; rintro e2 w2 ⟨rfl, hf2⟩)
        go_ret
        exact ⟨rfl, (HFB.out.thenNo hf).thenNo hf2⟩
      · have he' : (Oct.enc ns[j] == []) = false := by simpa using he
        have he2 : (Oct.enc ns[j]).isEmpty = false := by simpa using he
        have hall' : Hid (Oct.badInts (ns.take (j + 1)) = false) := by
          rw [HBS.out, hall.out]
          exact hid (by simpa using he)
        have HS' : Hid (Oct.ints (ns.take (j + 1)) = Oct.ints (ns.take j) ++ Oct.enc ns[j]) := HS
        clear HB HS HBS HPB HPN HBI HEI HTS HT H2 H3 HRM HRT QA QB he
        generalize Oct.ints (ns.take j) = L at *
        generalize ns[j] = x at *
        go_wp2_with (go_at_call 33; refine (HP.out _ _).mono ?_; rintro e2 w2 ⟨rfl, hf2⟩)
        exact ⟨⟨j + 1, by omega, by go_num, by rw [HS'.out], hall', hf.thenNo hf2⟩, by simp [intOf]; omega⟩
    · obtain rfl : j = 4 := by omega
      rw [List.take_of_length_le (by omega)] at hall ⊢
      have hle : (Oct.ints ns).length ≤ 32 := by omega
      clear HNV QB
      generalize Oct.ints ns = L0 at *
      have qa := QA.out _ hf
      go_wp2_with fail
      go_loopw [7] (fun i wq => ∃ q : Nat, q ≤ texts.length ∧ i = .int .i64 (q : Int) ∧ Hid (∀ p (h : p < texts.length), p < q → texts[p].length ≤ 65536) ∧ Frm No wN wq) (fun i _ => texts.length - (intOf i).toNat)
      case atStart => exact ⟨0, by omega, rfl, hid (fun p _ h => by omega), hf⟩
      case round =>
        obtain ⟨q, hq, rfl, hall2, hf3⟩ := hrel
        clear qa
        have qa := QA.out _ hf3
        by_cases hql : q < texts.length
        · have hqz : (q : Int) < (texts.length : Int) := by omega
          obtain ⟨b', o', rfl, hc⟩ := (HRT.out _ (HFB.out.thenNo hf3)).at_ (by omega)
          have k1 : wr.cell? ⟨b', o' + q, none⟩ = some (.string ⟨texts[q].toArray⟩) := by rw [hc q (by omega)]; simp [strsV]
          have hs := H2.out _ (List.getElem_mem hql)
          have HB := hid (fun h => HBI.out.trans (by rw [badTexts_at hql h, Bool.or_true] : _ = true))
          clear hc
          by_cases h6 : 65536 < texts[q].length
          · obtain rfl : R = [] := HPB.out (HB.out h6)
            have h6' : (65536 : Int) < (texts[q].length : Int) := by omega
            clear HB HPB HPN HBI HEI HTS HT H2 H3 HRM HRT hall2 HP
            generalize texts[q] = x at *
            go_wp2_with fail
            go_ret
            exact ⟨rfl, HFB.out.thenNo hf3⟩
          · have h6' : ¬ (65536 : Int) < (texts[q].length : Int) := by omega
            have hall3 : Hid (∀ p (h : p < texts.length), p < q + 1 → texts[p].length ≤ 65536) := by
              refine hid (fun p hp hpq => ?_)
              by_cases h : p < q
              · exact hall2.out p hp h
              · obtain rfl : p = q := by omega
                omega
            clear HB HPB HPN HBI HEI HTS HT H2 H3 HRM HRT hall2 HP
            generalize texts[q] = x at *
            go_wp2_with fail
            exact ⟨⟨q + 1, by omega, by go_num, hall3, hf3⟩, by simp [intOf]; omega⟩
        · obtain rfl : q = texts.length := by omega
          have hqz : ¬ (texts.length : Int) < (texts.length : Int) := by omega
          have h6 : ∀ s ∈ texts, s.length ≤ 65536 := by
            intro s hs
            obtain ⟨p, hp, rfl⟩ := List.getElem_of_mem hs
            exact hall2.out p hp hp
          have hbt : Oct.badTexts texts = false := by
            simp only [Oct.badTexts, List.any_eq_false, decide_eq_true_eq]
            intro s hs
            have := h6 s hs
            omega
          have hRE : Hid (R = EN) := hid (HPN.out (HBI.out.trans (by rw [hall.out, hbt, decide_eq_false b3]; rfl)))
          have H6 := hid h6
          clear HPB HPN HBI hall hall2 hbt h6 H2
          go_wp2_with fail
          have d4 := Wd.cell (qa 4)
          have d5 := Wd.cell (qa 5)
          have d6 := Wd.cell (qa 6)
          refine wp_region_frm (by kernel_rfl) (by kernel_rfl) ?_
          repeat (go_big_quiet_step (first | (with_reducible exact Calls.wd (HTS.out _ ((HFB.out.thenNo hf3).thenNo (Wd.frm _)) H6.out)) | (with_reducible exact Calls.wd (HT.out _ _ (by omega))) | (with_reducible exact Calls.wd (HP.out _ _))))
          refine wpQuiet_nil ?_
          intro wq hfq
          have HEN := hid (hRE.out.trans HEI.out)
          clear d4 d5 d6 qa HTS HRT hRE HEI H6
          obtain ⟨L, hL⟩ : ∃ L, L0 ++ (Oct.text text ++ (Oct.enc texts.length ++ (Oct.texts texts ++ Oct.enc marks.length))) = L := ⟨_, rfl⟩
          have hll : L.length ≤ 300000000 := by rw [← hL]; simp only [List.length_append]; omega
          rw [hL] at HEN ⊢
          clear hL l1 l2 l3 l4 l5
          have hfN := hf3.thenNo hfq
          have HTN := hid (fun p (hp : p < marks.length) => texts_put_snoc hp)
          go_wp2_with fail
          go_loopw [4, 8] (fun v i wz => ∃ p : Nat, p ≤ marks.length ∧ i = .int .i64 (p : Int) ∧ v = .string ⟨(L ++ Oct.texts ((marks.take p).map Mk.put)).toArray⟩ ∧ Frm No wN wz) (fun _ i _ => marks.length - (intOf i).toNat)
          case atStart => exact ⟨0, by omega, rfl, by simp [Oct.texts], hfN⟩
          case round =>
            obtain ⟨p, hp, rfl, rfl, hfp⟩ := hrel
            have qa := QA.out _ hfp
            have hbp := Oct.texts_le ((marks.take p).map Mk.put)
            have hbl : (L ++ Oct.texts ((marks.take p).map Mk.put)).length ≤ 600000000 := by
              rw [List.length_map, List.length_take] at hbp
              rw [List.length_append]
              omega
            clear hbp
            by_cases hpl : p < marks.length
            · have hpz : (p : Int) < (marks.length : Int) := by omega
              obtain ⟨mb, mo, rfl, hmc⟩ := (HRM.out _ (HFB.out.thenNo hfp)).at_ (by omega)
              have k1 : wr.cell? ⟨mb, mo + p, none⟩ = some (.float .f64 marks[p]) := by rw [hmc p (by omega)]; simp [fltV]
              have HPU := hid (fun w => rmput_any marks[p] (H3.out _ (List.getElem_mem hpl)) w)
              have HS := hid (HTN.out p hpl)
              have HPL := hid (Mk.put_length marks[p])
              clear hmc HRM H3 HTN HEN
              generalize marks[p] = x at *
              generalize Mk.put x = px at *
              have hpx : px.length ≤ 65536 := by rw [HPL.out]; decide
              have hpt := Oct.text_le px
              have HT1 := hid (fun w => HT.out px w hpx)
              clear HPL hpx HT HP
              obtain ⟨M, hM⟩ : ∃ M, L ++ Oct.texts ((marks.take p).map Mk.put) = M := ⟨_, rfl⟩
              have HM : Hid (L ++ Oct.texts ((marks.take (p + 1)).map Mk.put) = M ++ Oct.text px) := hid (by rw [HS.out, ← hM, List.append_assoc])
              rw [hM] at hbl ⊢
              clear hM HS
              go_wp2_with (first | (go_at_call 48; refine (HPU.out _).mono ?_; rintro e2 w2 ⟨rfl, hf2⟩) | (go_at_call 34; refine (HT1.out _).mono ?_; rintro e2 w5 ⟨rfl, hf5⟩))
              exact ⟨⟨p + 1, by omega, by go_num, by rw [HM.out], (hfp.thenNo hf2).thenNo hf5⟩, by simp [intOf]; omega⟩
            · obtain rfl : p = marks.length := by omega
              rw [List.take_length, ← HEN.out]
              clear HEN
              go_wp2_with fail
              go_ret
              exact ⟨rfl, HFB.out.thenNo hfp⟩
end Go.Proofs.Ytjhodcdjkokkoaa
