/- Every sequence of written values is decoded again, in the same order, with no bytes left. -/
import Derived.Test.YtlhcjoaeipgbeaaBack
import Derived.Deep.Cut
import Derived.Deep.CutRange
import Derived.Deep.CutBlock
namespace Go.Proofs.Ytlhcjoaeipgbeaa
open Go.ChangeShapes Go.WideShapes Go.ChangeAt Go.RowKit
open Go.ChangeMaps (open_string shut_string)

namespace OctBack
theorem fit_of {x : It} {k : Int} (h : knd x = k) : fitI x = if k = 0 then (decide (-9007199254740992 ≤ x.n) && decide (x.n ≤ 9007199254740992)) else if k = 3 then !Oct.badInts x.zs else true := by rw [← h]; rfl
theorem rd_block {w : World} {v : Value} {n : Nat} {l : List Value} (h : Rd w v n 1 l) : ∀ g, v.ownBlock = some g → 0 < n → g < w.heap.size := by
  intro g hg hn
  rcases h.cells with ⟨rfl, _⟩ | ⟨b, o, c, rfl, hc⟩
  · omega
  · have hl := h.len
    have h0 := hc 0 (by omega)
    rw [List.getElem?_eq_getElem (by omega)] at h0
    simp only [Value.ownBlock, Option.some.injEq] at hg
    have := World.block_lt_of_cell? w _ h0
    simp only at this
    omega
/-- An item lies at block b from offset o on. -/
structure ItAt (w : World) (b o : Nat) (x : It) : Prop where
  c0 : w.cell? ⟨b, o, none⟩ = some (.int .i64 x.kind)
  c1 : w.cell? ⟨b, o + 1, none⟩ = some (.int .i64 x.n)
  c2 : w.cell? ⟨b, o + 2, none⟩ = some (.bool x.b)
  c3 : w.cell? ⟨b, o + 3, none⟩ = some (.string ⟨x.t.toArray⟩)
  c4 : w.cell? ⟨b, o + 4, none⟩ = some x.ns
  c5 : w.cell? ⟨b, o + 5, none⟩ = some x.ts
theorem ItAt.no {w w' : World} {b o : Nat} {x : It} (h : ItAt w b o x) (hf : Frm No w w') : ItAt w' b o x := by
  have hb : b < w.heap.size := World.block_lt_of_cell? w _ h.c0
  have k := fun j => hf.cell (p := ⟨b, j, none⟩) hb (fun h => h)
  exact ⟨(k _).trans h.c0, (k _).trans h.c1, (k _).trans h.c2, (k _).trans h.c3, (k _).trans h.c4, (k _).trans h.c5⟩
theorem items_at {w : World} {ao : Option Addr} {c : Nat} {xs : List It} (h : RdL w (.slice ao xs.length c) 6 itV xs) (k : Nat) (hk : k < xs.length) : ∃ b o, ao = some ⟨b, o, none⟩ ∧ ItAt w b (o + k * 6) xs[k] := by
  obtain ⟨b, o, e, hc⟩ := h.at_ (by omega)
  refine ⟨b, o, e, ?_, ?_, ?_, ?_, ?_, ?_⟩
  · exact hc k hk 0 (by omega)
  all_goals
    rw [Nat.add_assoc]
    first | exact hc k hk 1 (by omega) | exact hc k hk 2 (by omega) | exact hc k hk 3 (by omega) | exact hc k hk 4 (by omega) | exact hc k hk 5 (by omega)
theorem write_item (B : Nat) (v : Value) (l : List UInt8) (bad : Bool) (x : It) (w w' : World) (hx : ItOK w x) (ho : OutAt w' B 0 v l bad) (hf : Frm No w w') (hB : w.heap.size ≤ B) (hv : ∀ g, v.ownBlock = some g → w.heap.size ≤ g)
    (hl : l.length ≤ 17592186044416) (hlg : lg x = false) : Calls Try.prog 42 #[.pointer (some ⟨B, 0, none⟩), .agg (itV x).toArray] w' (OutP B 0 w' v (l ++ Oct.item x) (bad || Oct.badItem x)) := by
  obtain ⟨h1, h2, h3, h4⟩ := lg_false hlg
  have key : ∀ g, g < w.heap.size → ¬ OutS B v g := by
    rintro g hg (rfl | hs)
    · omega
    · have := hv g hs
      omega
  exact write_any B v l bad x w' ho (hx.no hf) hl h1 h2 h3 h4 (fun g hg h0 => key g (rd_block hx.rz g hg h0)) (fun g hg h0 => key g (rd_block hx.rs g hg h0))
theorem items_le (xs : List It) (k : Nat) (hk : k ≤ 20) (h : ∀ g (hg : g < xs.length), g < k → lg xs[g] = false) : (Oct.items (xs.take k)).length ≤ 280000000 := by
  have key : ∀ k, (∀ g (hg : g < xs.length), g < k → lg xs[g] = false) → (Oct.items (xs.take k)).length ≤ 14000000 * k := by
    intro k
    induction k with
    | zero => intro _; simp [Oct.items]
    | succ k ih =>
      intro h
      have h1 := ih (fun g hg hk => h g hg (by omega))
      by_cases hkx : k < xs.length
      · rw [Oct.items_snoc xs k hkx, List.length_append]
        have := item_le (h k hkx (by omega))
        omega
      · rw [List.take_of_length_le (by omega)] at h1 ⊢
        omega
  have := key k h
  omega
theorem fitA_get {xs : List It} {k : Nat} (h : fitA (xs.take k) = true) : ∀ g (hg : g < xs.length), g < k → fitI xs[g] = true := by
  intro g hg hgk
  rw [fitA, List.all_eq_true] at h
  have hl : g < (xs.take k).length := by rw [List.length_take]; omega
  have := h _ (List.getElem_mem hl)
  rw [List.getElem_take] at this
  exact this

set_option maxRecDepth 100000 in
set_option maxHeartbeats 4000000 in
theorem walk (v : Value) (xs : List It) (w : World) (hr : RdL w v 6 itV xs) (hxl : xs.length ≤ maxLen) (hg : ∀ x ∈ xs, ItOK w x) :
    Calls Try.prog 10 #[v] w fun e w' => e = .returned (.bool true) ∧ Frm No w w' := by
  unfold maxLen at hxl
  have HG := hid hg
  clear hg
  obtain ⟨ao, c, rfl⟩ := hr.shape
  go_enter Try.func10, Try.ntmps10
  go_wp2_with (go_at_call 20; refine (octspeaks _).mono ?_; rintro e w1 ⟨rfl, hf1⟩)
  have ha0 := OutAt_new w1 56
  have hz := hf1.size
  obtain ⟨B, hB⟩ : ∃ B, w1.heap.size = B := ⟨_, rfl⟩
  rw [hB] at ha0 hz
  simp only [hB]
  go_loopw [4, 5] (fun f i wr => ∃ (k : Nat) (v' : Value), k ≤ xs.length ∧ k ≤ 20 ∧ f = .bool (fitA (xs.take k)) ∧ i = .int .i64 (k : Int) ∧ (∀ g (hg : g < xs.length), g < k → lg xs[g] = false) ∧
      OutAt wr B 0 v' (Oct.items (xs.take k)) (!fitA (xs.take k)) ∧ (∀ g, v'.ownBlock = some g → w.heap.size ≤ g) ∧ Frm No w wr)
    (fun _ i _ => xs.length - (intOf i).toNat)
  case atStart => exact ⟨0, .slice none 0 0, by omega, by omega, rfl, rfl, fun g _ h => by omega, ha0, by simp [Value.ownBlock], hf1.alloc _⟩
  case round =>
    obtain ⟨k, v', hk, hk20, rfl, rfl, hlow, hat, hge, hf⟩ := hrel
    by_cases hlast : k < xs.length ∧ k < 20
    · obtain ⟨hka, hk2⟩ := hlast
      obtain ⟨b, o, rfl, hia⟩ := items_at hr k hka
      have HIA := hid (fun w' (h : Frm No w w') => hia.no h)
      clear hia
      have hok := HG.out _ (List.getElem_mem hka)
      have HL := hid (fun w' (h : Frm No w w') => large_any xs[k] w' (hok.no h))
      have HWR := hid (fun w' v l bad (ho : OutAt w' B 0 v l bad) (hf : Frm No w w') (hv : ∀ g, v.ownBlock = some g → w.heap.size ≤ g) (hl : l.length ≤ 17592186044416) (hlg : lg xs[k] = false) => write_item B v l bad xs[k] w w' hok ho hf hz hv hl hlg)
      have HK := hid (fun w => kind_any xs[k] w)
      have HS := hid (Oct.items_snoc xs k hka)
      have HF := hid (fitA_snoc xs k hka)
      have hlen := items_le xs k hk20 hlow
      have hbf := badItem_fit (x := xs[k])
      have hfo := fun k' (h : knd xs[k] = k') => fit_of h
      have hkn := knd_in xs[k]
      have hlow' : lg xs[k] = false → Hid (∀ g (hg : g < xs.length), g < k + 1 → lg xs[g] = false) := by
        intro h0 g hg hgk
        by_cases hgk' : g < k
        · exact hlow g hg hgk'
        · obtain rfl : g = k := by omega
          exact h0
      have hkc : (k : Int) < (xs.length : Int) := by omega
      clear hlow hr
      generalize Oct.items (xs.take k) = lk at *
      generalize fitA (xs.take k) = fit at *
      generalize xs[k] = x at *
      cases hlg : lg x
      · rw [hlg] at HL
        have HLOW := hlow' hlg
        have hbi := hbf hlg
        obtain ⟨kd, hkd⟩ : ∃ kd, knd x = kd := ⟨_, rfl⟩
        have hfi := hfo kd hkd
        rw [hkd] at HK hkn
        have HWR' := hid (fun w' v l bad (ho : OutAt w' B 0 v l bad) (hf : Frm No w w') (hv : ∀ g, v.ownBlock = some g → w.heap.size ≤ g) (hl : l.length ≤ 17592186044416) => HWR.out w' v l bad ho hf hv hl hlg)
        rw [hbi] at HWR'
        obtain ⟨-, hzl, -, -, -, -, hrz, hrs⟩ := hok
        unfold maxLen at hzl
        clear HWR hbi hbf hfo hlow' hlg hkd
        generalize fitI x = fi at *
        generalize Oct.item x = it at *
        obtain ⟨kk, n, bo, t, ns, zs, ts, ss⟩ := x
        simp only [itV] at *
        obtain ⟨a1, c1, rfl⟩ := hrz.shape
        obtain ⟨a2, c2, rfl⟩ := hrs.shape
        obtain ⟨d0, d1, d2, d3, d4, d5⟩ := HIA.out _ hf
        go_upto_block 2 with (first | (go_at_call 45; refine (HL.out _ hf).mono ?_; rintro e1 w1 ⟨rfl, hg1⟩; have hfa := hf.thenNo hg1; obtain ⟨d0, d1, d2, d3, d4, d5⟩ := HIA.out _ hfa; have hat1 := hat.frm hg1 (fun h => h) (fun _ _ h => h)) | (go_at_call 42; refine (HWR'.out _ v' _ _ hat1 hfa hge (by omega)).mono ?_; rintro e2 w2 ⟨rfl, v2, hp⟩; have hf2 := OutPost.no hp hfa hz hge; obtain ⟨d0', d1', d2', d3', d4', d5'⟩ := HIA.out _ hf2; have hat2 := hp.at_; have hge2 := OutPost.ge hp hfa.size hge) | (go_at_call 46; refine (HK.out _).mono ?_; rintro e3 w3 ⟨rfl, hg3⟩; have hf3 := hf2.thenNo hg3; have d1' := (HIA.out _ hf3).c1; have d4' := (HIA.out _ hf3).c4; have hat3 := hat2.frm hg3 (fun h => h) (fun _ _ h => h)))
        clear HL HK HWR' HIA d0 d1 d2 d3 d4 d5 hat hat1 hp hat2
        have hor : (!fit || !fi) = !(fit && fi) := by cases fit <;> cases fi <;> rfl
        rw [hor] at hat3
        clear hor
        have hr3 := hrz.frm hf3 (fun _ _ h => h)
        have hb3 : b < w3.heap.size := World.block_lt_of_cell? w3 _ d4'
        go_cut [4] from 15 to 100 (fun f wq => f = .bool (fit && fi) ∧ Frm No w3 wq)
        case first =>
          clear hat3 HF HS
          rcases hkn with rfl | rfl | rfl | rfl | rfl
          all_goals (try simp (decide := true) only [if_true, if_false] at hfi)
          · cases fit
            · go_wp2_with fail
              go_meet
              exact ⟨rfl, Frm.refl _ _⟩
            · by_cases hn1 : -9007199254740992 ≤ n
              · by_cases hn2 : n ≤ 9007199254740992
                · rw [decide_eq_true hn1, decide_eq_true hn2] at hfi
                  subst hfi
                  go_wp2_with fail
                  go_meet
                  exact ⟨by first | rfl | simp [hn1, hn2], Frm.refl _ _⟩
                · rw [decide_eq_true hn1, decide_eq_false hn2] at hfi
                  subst hfi
                  go_wp2_with fail
                  go_meet
                  exact ⟨by first | rfl | simp [hn1, hn2], Frm.refl _ _⟩
              · rw [decide_eq_false hn1, Bool.false_and] at hfi
                subst hfi
                go_wp2_with fail
                go_meet
                exact ⟨by first | rfl | simp [hn1], Frm.refl _ _⟩
          · subst hfi
            go_wp2_with fail
            go_meet
            exact ⟨by rw [Bool.and_true], Frm.refl _ _⟩
          · subst hfi
            go_wp2_with fail
            go_meet
            exact ⟨by rw [Bool.and_true], Frm.refl _ _⟩
          · obtain ⟨wo, hwo⟩ : ∃ wo : World, wo = wr := ⟨_, rfl⟩
            subst hwo
            have hF : (fit && !Oct.badInts (zs.take zs.length)) = (fit && fi) := by rw [List.take_length, hfi]
            have HF := hid hF
            clear hF hfi
            go_wp2_with fail
            go_loopw [4, 6] (fun f i wq => ∃ j : Nat, j ≤ zs.length ∧ i = .int .i64 (j : Int) ∧ f = .bool (fit && !Oct.badInts (zs.take j)) ∧ Frm No w3 wq) (fun _ i _ => zs.length - (intOf i).toNat)
            case atStart => exact ⟨0, by omega, rfl, by rw [List.take_zero]; cases fit <;> rfl, Frm.refl _ _⟩
            case round =>
              obtain ⟨j, hj, rfl, rfl, hfq⟩ := hrel
              have d4 := (hfq.cell (p := ⟨b, o + k * 6 + 4, none⟩) hb3 (fun h => h)).trans d4'
              by_cases hjl : j < zs.length
              · obtain ⟨b1, o1, e1, hd1⟩ := (hr3.frm hfq (fun _ _ h => h)).at_ (by omega)
                subst e1
                have k1 : wr.cell? ⟨b1, o1 + j, none⟩ = some (.int .i64 zs[j]) := by rw [hd1 j (by omega)]; simp [intsV]
                have kz : (j : Int) < (zs.length : Int) := by omega
                have HB := hid (Oct.badInts_snoc zs j hjl)
                have HE := hid (enc_empty zs[j])
                clear hd1
                generalize zs[j] = z at *
                generalize Oct.badInts (zs.take j) = bj at *
                obtain ⟨cur, hcur⟩ : ∃ cur, (fit && !bj) = cur := ⟨_, rfl⟩
                have HC := hid hcur
                rw [hcur]
                clear hcur
                have hnx : ∀ (x : Bool), (Oct.enc z).isEmpty = x → Hid ((fit && !Oct.badInts (zs.take (j + 1))) = (cur && !x)) := by
                  intro x hx
                  refine hid ?_
                  rw [HB.out, hx, ← HC.out]
                  cases fit <;> cases bj <;> cases x <;> rfl
                cases cur
                · have HN := hnx _ rfl
                  clear hnx
                  go_wp2_with fail
                  exact ⟨⟨j + 1, by omega, by go_num, by rw [HN.out]; rfl, hfq⟩, by simp [intOf]; omega⟩
                · by_cases hn1 : -9007199254740992 ≤ z
                  · by_cases hn2 : z ≤ 9007199254740992
                    · have HN := hnx false (by rw [HE.out, decide_eq_true hn1, decide_eq_true hn2]; rfl)
                      clear hnx
                      go_wp2_with fail
                      exact ⟨⟨j + 1, by omega, by go_num, by rw [HN.out]; first | rfl | simp [hn1, hn2], hfq⟩, by simp [intOf]; omega⟩
                    · have HN := hnx true (by rw [HE.out, decide_eq_true hn1, decide_eq_false hn2]; rfl)
                      clear hnx
                      go_wp2_with fail
                      exact ⟨⟨j + 1, by omega, by go_num, by rw [HN.out]; first | rfl | simp [hn1, hn2], hfq⟩, by simp [intOf]; omega⟩
                  · have HN := hnx true (by rw [HE.out, decide_eq_false hn1]; rfl)
                    clear hnx
                    go_wp2_with fail
                    exact ⟨⟨j + 1, by omega, by go_num, by rw [HN.out]; first | rfl | simp [hn1], hfq⟩, by simp [intOf]; omega⟩
              · obtain rfl : j = zs.length := by omega
                rw [HF.out]
                go_wp2_with fail
                go_meet
                exact ⟨rfl, hfq⟩
          · subst hfi
            go_wp2_with fail
            go_meet
            exact ⟨by rw [Bool.and_true], Frm.refl _ _⟩
        case rest =>
          obtain ⟨hf4, hfq⟩ := hcut
          subst hf4
          have hat4 := hat3.frm hfq (fun h => h) (fun _ _ h => h)
          have hf5 := hf3.thenNo hfq
          clear hr3 hfi hat3
          generalize (fit && fi) = F at *
          cases F
          all_goals
            go_wp2_with (go_at_call 26; refine (out_bytes B 0 v2 _ _ _ hat4).mono ?_; rintro e4 w4 ⟨rfl, rfl⟩)
            exact ⟨⟨k + 1, v2, by omega, by omega, by rw [HF.out], by go_num, HLOW.out, by rw [HF.out, HS.out]; exact hat4, hge2, hf5⟩, by simp [intOf]; omega⟩
      · rw [hlg] at HL
        obtain ⟨-, -, -, -, -, -, hrz, hrs⟩ := hok
        clear HWR hbf hfo hlow' hlg
        obtain ⟨kk, n, bo, t, ns, zs, ts, ss⟩ := x
        simp only [itV] at *
        obtain ⟨d0, d1, d2, d3, d4, d5⟩ := HIA.out _ hf
        go_wp2_with (go_at_call 45; refine (HL.out _ hf).mono ?_; rintro e1 w1 ⟨rfl, hg1⟩)
        go_ret
        exact ⟨rfl, hf.thenNo hg1⟩
    · have hL := items_le xs k hk20 hlow
      have HFG := hid (fitA_get (xs := xs) (k := k))
      generalize hfit : fitA (xs.take k) = fit at *
      cases fit
      · clear HFG hfit hL
        by_cases hka : k < xs.length
        all_goals
          go_wp2_with (go_at_call 26; refine (out_bytes B 0 v' _ _ _ hat).mono ?_; rintro e4 w4 ⟨rfl, rfl⟩)
          go_ret
          exact ⟨rfl, hf⟩
      · have HFG' := hid (HFG.out rfl)
        clear HFG hfit
        have hat' : OutAt wr B 0 v' (Oct.items (xs.take k)) false := hat
        have HLOW := hid hlow
        have hd0 : Oct.items (xs.take k) = Oct.items ((xs.take k).drop 0) := rfl
        clear hat hlow
        by_cases hka : k < xs.length
        all_goals
          go_wp2_with (first | (go_at_call 26; refine (out_bytes B 0 v' _ _ _ hat').mono ?_; rintro e4 w4 ⟨rfl, rfl⟩) | (go_at_call 27; refine (in_open _ _).mono ?_; rintro e2 w2 ⟨b1, rfl, hb1, ha1, hf2⟩))
          obtain ⟨wo, hwo⟩ : ∃ wo : World, wo = wr := ⟨_, rfl⟩
          subst hwo
          have hzr := hf.size
          go_loopw [12] (fun i wq => ∃ j : Nat, j ≤ k ∧ i = .int .i64 (j : Int) ∧ InAt wq b1 (Oct.items ((xs.take k).drop j)) 0 ∧ Frm (One b1) w2 wq) (fun i _ => k - (intOf i).toNat)
          case atStart => exact ⟨0, by omega, rfl, ha1, Frm.refl _ _⟩
          case round =>
            obtain ⟨j, hj, rfl, hin, hfq⟩ := hrel
            have hfw : Frm No w wr := (hf.thenNo hf2).trans hfq (fun _ _ h => h) (fun i hi (h : i = b1) => by omega)
            by_cases hjk : j < k
            · have hjl : j < (xs.take k).length := by rw [List.length_take]; omega
              have hjx : j < xs.length := by omega
              have hget : (xs.take k)[j] = xs[j] := List.getElem_take
              have HD := hid (Oct.items_drop (xs.take k) j hjl)
              rw [hget] at HD
              have hll : (Oct.items ((xs.take k).drop j)).length ≤ (Oct.items (xs.take k)).length := by
                conv => rhs; rw [← List.take_append_drop j (xs.take k)]
                rw [Oct.items, Oct.items, List.flatMap_append, List.length_append]
                omega
              rw [HD.out] at hin hll
              obtain ⟨b, o, rfl, hia⟩ := items_at hr j hjx
              obtain ⟨d0, d1, d2, d3, d4, d5⟩ := hia.no hfw
              have hlx := HLOW.out j hjx hjk
              have hfx := HFG'.out j hjx hjk
              have hbx := badItem_fit hlx
              rw [hfx] at hbx
              have HBK := hid (back_item b1 xs[j] (Oct.items ((xs.take k).drop (j + 1))) w wr (HG.out _ (List.getElem_mem hjx)) hfw (by omega) hin (by omega) hlx hbx)
              have hjc : (j : Int) < (xs.length : Int) := by omega
              clear hia hlx hfx hbx HD hin hget hll
              obtain ⟨rest, hrest⟩ : ∃ rest, Oct.items ((xs.take k).drop (j + 1)) = rest := ⟨_, rfl⟩
              rw [hrest] at HBK
              have HREST := hid hrest
              clear hrest
              generalize xs[j] = x at *
              obtain ⟨kk, n, bo, t, ns, zs, ts, ss⟩ := x
              simp only [itV] at *
              go_wp2_with (go_at_call 47; refine HBK.out.mono ?_; rintro e7 w7 ⟨rfl, hy, hg7⟩)
              exact ⟨⟨j + 1, by omega, by go_num, by rw [HREST.out]; exact hy, hfq.then_ hg7⟩, by simp [intOf]; omega⟩
            · obtain rfl : j = k := by omega
              have hnil : (xs.take j).drop j = [] := by rw [List.drop_eq_nil_iff, List.length_take]; omega
              rw [hnil] at hin
              have hin' : InAt wr b1 [] 0 := hin
              clear hin
              go_wp2_with (first | (go_at_call 29; refine (in_err b1 _ _ _ hin').mono ?_; rintro e8 w8 ⟨rfl, rfl⟩) | (go_at_call 40; refine (in_end b1 _ _ _ hin').mono ?_; rintro e9 w9 ⟨rfl, rfl⟩))
              go_ret
              exact ⟨rfl, hfw⟩

set_option maxRecDepth 100000 in
theorem lifted (os : Os) (started : os.Started) (H : Type) (enc : TypeId × Value → H) :
    ReturnsInHanded {} Try.checked os 10 .any (Rows.octetsBackSpec.pre6 enc Try.prog Try.f10 Rows.octetsBackRow.domain false) (Rows.octetsBackSpec.post enc Try.prog Try.f10 false true false false) := by
  refine returnsInHanded_of_change_sized (C := Try.checked) own started (by kernel_rfl) Try.func10
    (ChangeSpec.witness6 (enc := enc) (C := Try.checked) false ⟨#[], #[.slice none 0 0], []⟩ 8 (by kernel_rfl) (by kernel_rfl) (by kernel_rfl) (by kernel_rfl)) ?_
  intro W base args ds gs before hval0 hW _ hsz0 _
  have hsz : (DataW.weightsEach Try.prog (Try.f10.params.toList ++ Rows.octetsBackSpec.plain.varTypes Try.prog) (ds ++ gs)).all (· ≤ reachBytes) = true := hsz0
  clear hsz0
  have hval : ∀ (j : Nat) t v, Try.f10.params[j]? = some t → args[j]? = some v → Value.okWide Try.prog W .any base t v := hval0
  have hW' : DataW.Whole enc Try.prog Try.f10.params.toList Rows.octetsBackSpec.vars false W args.toList ds gs before := hW
  have hts : ∀ t ∈ Try.f10.params.toList, Try.prog.readableRec t = true ∧ t < Try.prog.types.size := by
    rw [Try.params10]
    intro t ht
    simp only [List.mem_cons, List.not_mem_nil, or_false] at ht
    subst ht; exact ⟨by kernel_rfl, of_decide_eq_true (by kernel_rfl)⟩
  obtain ⟨p, q, hA0, hV, hbef, hfz, hnd⟩ := hW
  have hA : DataW.TrodAll enc Try.prog W 0 (fun _ => true) true Try.f10.params.toList args.toList ds p := hA0
  rw [Try.params10] at hA hval hsz
  obtain ⟨v0, vs0, d0, ds0, p0, q0, hargs, rfl, rfl, h0, r0⟩ := trodAll_cons hA
  obtain ⟨rfl, rfl, rfl⟩ := trodAll_nil r0
  obtain rfl : args = #[v0] := by cases args; simp_all
  clear hA hA0 hval0
  obtain ⟨x0, hr0, hn0, hg0⟩ := open_items (enc := enc) h0 (okWide_slice Try.underlying87 (hval 0 87 v0 rfl rfl))
  refine (OctBack.walk v0 x0 W hr0 hn0 hg0).mono fun e W' ⟨he, hg⟩ => ?_
  subst he
  exact ⟨_, rfl, post_law hW' rfl Try.underlying4 rfl rfl rfl rfl laidOut hts hg.toBelow⟩

theorem over : Rows.octetsBackRow.holds Try.pinned (OpenSpec.ofChange Rows.octetsBackSpec) :=
  OpenClaim.holds_of_wide 10 Try.f10 rfl rfl rfl rfl rfl rfl rfl ⟨rfl, rfl, rfl, rfl, rfl⟩ rfl rfl rfl rfl rfl (by kernel_rfl) Try.func10 (by kernel_rfl)
    (of_decide_eq_true (by kernel_rfl)) (by unfold Func.isWrapper; first | (rw [if_pos (by decide +kernel)]; kernel_rfl) | (rw [if_neg (by decide +kernel)]; exact ⟨rfl, rfl⟩))
    (fun os started H enc _ => lifted os started H enc)

theorem proved : Rows.OctetsBackSaid :=
  over
#print axioms proved
end OctBack
end Go.Proofs.Ytlhcjoaeipgbeaa
