/- The scanner's literals. -/
import Derived.Test.YtebocnpbiiejmaaDoorTwD
import Derived.Test.YtebocnpbiiejmaaDoorOctAll
namespace Go.Proofs.YtebocnpbiiejmaaDoor
open Go.RowKit
/-- a literal, if it is one -/
def litOut (R : Option (List UInt8 × List UInt8)) : Option (List UInt8 × List UInt8) :=
  match R with
  | none => none
  | some (t, r) => if t = [] ∨ 16 < t.length then none else some (t, r)
/-- a token was read, or none -/
def Red (w : World) (b n : Nat) (s : List UInt8) (tl : List Tp) (k : Nat) (R : Option (List UInt8 × List UInt8)) (e : Ending) (w' : World) : Prop :=
  Frm (Ge b) w w' ∧ match R with
  | none => e = .returned (.bool false) ∧ Bad w' b
  | some (t, r) => e = .returned (.bool true) ∧ ∃ (m : Nat) (x y : Int), n < m ∧ m ≤ s.length ∧ s.drop m = r ∧ ScT w' b s m (tl ++ [(⟨k, t⟩, x, y)])
theorem red_bad {w w' : World} {b n k : Nat} {s : List UInt8} {tl : List Tp} {R : Option (List UInt8 × List UInt8)} (hR : R = none) (hB : Bad w' b) (hF : Frm (Ge b) w w') : Red w b n s tl k R (.returned (.bool false)) w' := by
  subst hR
  exact ⟨hF, rfl, hB⟩
set_option maxHeartbeats 4000000 in
theorem literal_any (b n : Nat) (s : List UInt8) (tl : List Tp) (q : UInt8) (w : World) (h : ScT w b s n tl) (hl : s.length ≤ 65536) (hlt : n < s.length) (hq : q = 39 ∨ q = 34) :
    Calls Tryd.prog 50 #[.pointer (some ⟨b, 0, none⟩), .int .u8 (q.toNat : Int)] w (Red w b n s tl 2 (litOut (Gr.litS q [] (s.drop (n + 1))))) := by
  obtain ⟨v, hS, hO, hne⟩ := h.ex
  have HLE := hid h.le
  have hb := hS.lt
  have hq92 : Hid (q ≠ 92) := hid (by rcases hq with rfl | rfl <;> decide)
  obtain ⟨R, hR⟩ : ∃ R, Gr.litS q [] (s.drop (n + 1)) = R := ⟨_, rfl⟩
  rw [hR]
  have HR := hid hR
  have HO := hid hO
  obtain ⟨i0, gi, gz0, gz1, gz2⟩ := info_parts info_u8
  have HH := hid (here_any b n s v 2 w hS)
  have HFT := hid h
  clear hR hO hq h
  go_enter Tryd.func50, Tryd.ntmps50
  go_wp2_with fail
  refine HH.out.mono ?_
  rintro e w1 ⟨x, y, rfl, hF1⟩
  have hS1 := hS.frm hF1 (fun h => h)
  have hb1 := hF1.size
  clear HH hS
  go_wp2_with fail
  refine (step_any b n s v _ (hS1.frm ((Frm.refl No w1).alloc _) (fun h => h)) hlt hl).mono ?_
  rintro e w2 ⟨rfl, hS2, hF2⟩
  obtain ⟨B, hB⟩ : ∃ B, w1.heap.size = B := ⟨_, rfl⟩
  have hsz2 := hF2.size
  rw [World.size_alloc, hB] at hsz2
  have hx : ∀ j, w2.cell? ⟨B, j, none⟩ = (#[.int .i64 2, .string ByteArray.empty, .int .i64 x, .int .i64 y] : Array Value)[j]? := fun j => by
    refine (hF2.cell (p := ⟨B, j, none⟩) (by rw [World.size_alloc]; show B < _; omega) (fun e => by have e : B = b := e; omega)).trans ?_
    rw [← hB]
    exact World.cell?_alloc_at _ _ _ _ rfl
  have HG2 := hid ((((Frm.refl (Ge b) w).thenNo hF1).alloc (.cells #[.int .i64 2, .string ByteArray.empty, .int .i64 x, .int .i64 y] 38)).then_ (hF2.weak fun _ _ h => h.ge))
  have HT2 := hid ((hF1.row HO.out (fun _ _ h => h)).alloc (.cells #[.int .i64 2, .string ByteArray.empty, .int .i64 x, .int .i64 y] 38))
  have HO2 := hid (hF2.row HT2.out (fun k hk e => hne (by have e : k = b := e; rw [hk, e])))
  have hbw2 := hS2.lt
  have hBb : ¬ One b B := fun e => by have e : B = b := e; omega
  simp only [hB]
  obtain ⟨p, hp⟩ : ∃ p, n + 1 = p := ⟨_, rfl⟩
  have HP := hid hp
  rw [hp] at hS2
  have HR2 := HR.out
  rw [hp] at HR2
  have HR3 := hid HR2
  clear hS1 HR HR2 hp hF1 hF2 HT2 hB HO HFT
  go_wp2_with fail
  go_loopw [6] (fun o wr => ∃ (m : Nat) (out : List UInt8), p ≤ m ∧ m ≤ s.length ∧ Gr.litS q out (s.drop m) = R ∧ wr.ownsRow w2.heap.size 5 1 o out.length (bytesV out) ∧ out.length ≤ m ∧ Scn wr b s m v ∧ Frm (One b) w2 wr) (fun _ wr => s.length - posOf b wr)
  case atStart => exact ⟨p, [], Nat.le_refl _, by have := HP.out; omega, HR3.out, World.ownsRow_nil _ _ _ _, Nat.zero_le _, hS2, Frm.refl _ _⟩
  case round =>
    obtain ⟨m, out, hm1, hm2, hlit, hown, hol, hS, hF⟩ := hrel
    have HOL := hid (show out.length ≤ 65536 by omega)
    have hp1 := hS.pos
    have hGw : Frm (Ge b) w wr := HG2.out.then_ (hF.weak fun _ _ h => h.ge)
    have hxr : ∀ j, wr.cell? ⟨B, j, none⟩ = (#[.int .i64 2, .string ByteArray.empty, .int .i64 x, .int .i64 y] : Array Value)[j]? := fun j => (hF.cell (p := ⟨B, j, none⟩) (by show B < _; omega) hBb).trans (hx j)
    have HTR := hid (hF.row HO2.out (fun k hk e => hne (by have e : k = b := e; rw [hk, e])))
    have hszr := hF.size
    clear hx hS2
    cases hd : s.drop m with
    | nil =>
      have HGE := hid (drop_nil hd)
      have HN : Hid (R = none) := hid (by rw [← hlit, hd, Gr.litS_nil])
      clear hd hlit hown
      go_wp2_with fail
      refine (more_no b m s v _ hS HGE.out).mono ?_
      rintro e w3 ⟨rfl, q1, rfl⟩
      go_wp2_with fail
      refine (here_any b _ s v 4 _ (hS.drewN _)).mono ?_
      rintro e w5 ⟨x5, y5, rfl, hF5⟩
      have hS5 := Scn.frm (hS.drewN _) hF5 (fun h => h)
      go_wp2_with fail
      refine (fail_bad b _ s v 4 ByteArray.empty x5 y5 2 _ hS5 (by decide)).mono ?_
      rintro e w6 ⟨rfl, hB6, hF6⟩
      go_wp2_with fail
      exact bodyPost_ret (results_tmp rfl _ _ _) rfl (red_bad (show litOut R = none by rw [HN.out]; rfl) hB6 (((hGw.drewN q1).thenNo hF5).then_ (hF6.weak fun _ _ h => h.ge)))
    | cons c l =>
      obtain ⟨hlm, hc, hd1⟩ := drop_get hd
      rw [hd] at hlit
      have h0 := hS.c0
      have h1 := hS.c1
      go_wp2_with fail
      refine (more_yes b m s v _ hS hlm).mono ?_
      rintro e w3 ⟨rfl, q1, rfl⟩
      go_wp2_with fail
      go_quiet (fail)
      by_cases hcq : c = q
      · have zq : (((c.toNat : Nat) : Int) == ((q.toNat : Nat) : Int)) = true := by rw [hcq]; exact beq_self_eq_true _
        have HRR : Hid (R = some (out, l)) := hid (by rw [← hlit, hcq, Gr.litS_end])
        clear hcq hlit hd h0 h1
        go_wp2_with fail
        refine (step_any b m s v _ (hS.drewN _) hlm hl).mono ?_
        rintro e w4 ⟨rfl, hS4, hF4⟩
        have hG4 := (hGw.drewN (q1 + nq)).then_ (hF4.weak fun _ _ h => h.ge)
        have hown4 := hF4.row (((Frm.refl No wr).drewN (q1 + nq)).row hown (fun _ _ h => h)) (fun k hk e => by have := (hown.lt k hk).1; have e : k = b := e; omega)
        have hT4 := hF4.row (((Frm.refl No wr).drewN (q1 + nq)).row HTR.out (fun _ _ h => h)) (fun k hk e => hne (by have e : k = b := e; rw [hk, e]))
        have hx4 : ∀ j, w4.cell? ⟨B, j, none⟩ = (#[.int .i64 2, .string ByteArray.empty, .int .i64 x, .int .i64 y] : Array Value)[j]? := fun j => (hF4.cell (p := ⟨B, j, none⟩) (by show B < wr.heap.size; omega) hBb).trans (hxr j)
        have HTT : Hid (ScT w4 b s (m + 1) tl) := hid ⟨⟨v, hS4, hT4, hne⟩, by have := HLE.out; have := HP.out; omega⟩
        have HTL : Hid (tl.length < m + 1) := hid (by have := HLE.out; have := HP.out; omega)
        have hcv := run_convert_own (P := Tryd.prog) Tryd.underlying54 Tryd.underlying5 Tryd.underlying9 hown4
        have k0 := hx4 0
        have k1 := hx4 1
        have k2 := hx4 2
        have k3 := hx4 3
        clear hS hF4 hxr HTR hT4 hx4 hown4 hown
        go_wp2_with fail
        match out, HRR, HOL with
        | [], HRR, HOL =>
          refine (ended_empty b (m + 1) s v _ x y _ hS4).mono ?_
          rintro e w5 ⟨rfl, hB5, hF5⟩
          go_wp2_with fail
          exact bodyPost_ret (results_tmp rfl _ _ _) rfl (red_bad (show litOut R = none by rw [HRR.out]; rfl) hB5 (hG4.then_ hF5))
        | a :: r, HRR, HOL =>
          by_cases h16 : 16 ≤ r.length
          · refine (ended_long b (m + 1) s v _ x y a r _ hS4 h16).mono ?_
            rintro e w5 ⟨rfl, hB5, hF5⟩
            go_wp2_with fail
            refine bodyPost_ret (results_tmp rfl _ _ _) rfl (red_bad (show litOut R = none by rw [HRR.out]; exact if_pos (Or.inr (by show 16 < r.length + 1; omega))) hB5 (hG4.then_ hF5))
          · refine (ended_ok b (m + 1) s tl _ x y a r _ HTT.out (by omega) HTL.out (by omega)).mono ?_
            rintro e w5 ⟨rfl, hT5, hF5⟩
            go_wp2_with fail
            refine bodyPost_ret (results_tmp rfl _ _ _) rfl ⟨hG4.then_ hF5, ?_⟩
            have hlo : litOut R = some (a :: r, l) := by rw [HRR.out]; exact if_neg (fun h => h.elim (fun h => by cases h) (fun h => by have h : 16 < r.length + 1 := h; omega))
            rw [hlo]
            exact ⟨rfl, m + 1, x, y, by have := HP.out; omega, by omega, hd1, hT5⟩
      · have zq : (((c.toNat : Nat) : Int) == ((q.toNat : Nat) : Int)) = false := byte_ne hcq
        by_cases h92 : c = 92
        · have z92 : (((c.toNat : Nat) : Int) == 92) = true := by rw [h92]; rfl
          have HRR : Hid ((match Gr.esc1 l with | none => none | some (x, r) => Gr.litS q (out ++ [x]) r) = R) := hid (by rw [← hlit, h92, Gr.litS_esc1 hq92.out]; cases Gr.esc1 l with | none => rfl | some p => rfl)
          clear h92 hcq hlit hd h0 h1
          go_wp2_with fail
          refine (step_any b m s v _ (hS.drewN _) hlm hl).mono ?_
          rintro e w4 ⟨rfl, hS4, hF4⟩
          have hG4 := (hGw.drewN (q1 + nq)).then_ (hF4.weak fun _ _ h => h.ge)
          have hD4 := (hF.drewN (q1 + nq)).then_ hF4
          have hown4 := hF4.row (((Frm.refl No wr).drewN (q1 + nq)).row hown (fun _ _ h => h)) (fun k hk e => by have := (hown.lt k hk).1; have e : k = b := e; omega)
          clear hS hF4 hxr HTR hown
          cases he : Gr.esc1 (s.drop (m + 1)) with
          | none =>
            have HN : Hid (R = none) := hid (by rw [← HRR.out, ← hd1, he])
            clear HRR
            go_wp2_with fail
            refine (escape_no b (m + 1) s v _ hS4 hl (by omega) he).mono ?_
            rintro e W5 ⟨rfl, ⟨m5, hm5, hS5'⟩, hF5'⟩
            have hG5 := hG4.then_ (hF5'.weak fun _ _ h => h.ge)
            clear he
            go_wp2_with fail
            refine (here_any b _ s v 4 _ hS5').mono ?_
            rintro e w5 ⟨x5, y5, rfl, hF5⟩
            have hS5 := Scn.frm hS5' hF5 (fun h => h)
            go_wp2_with fail
            refine (fail_bad b _ s v 4 ByteArray.empty x5 y5 2 _ hS5 (by decide)).mono ?_
            rintro e w6 ⟨rfl, hB6, hF6⟩
            go_wp2_with fail
            exact bodyPost_ret (results_tmp rfl _ _ _) rfl (red_bad (show litOut R = none by rw [HN.out]; rfl) hB6 ((hG5.thenNo hF5).then_ (hF6.weak fun _ _ h => h.ge)))
          | some er =>
            obtain ⟨xe, re⟩ := er
            have HN : Hid (Gr.litS q (out ++ [xe]) re = R) := hid (by rw [← HRR.out, ← hd1, he])
            clear HRR
            go_wp2_with fail
            refine (escape_yes b (m + 1) s v _ hS4 hl xe re he).mono ?_
            rintro e w5 ⟨rfl, ⟨m5, hm5, hm5', hd5, hS5⟩, hF5⟩
            have hD5 := hD4.then_ hF5
            have hown5 := hF5.row hown4 (fun k hk e => by have := (hown4.lt k hk).1; have e : k = b := e; omega)
            have HSZ : Hid (w2.heap.size ≤ w5.heap.size) := hid hD5.size
            have HNB : Hid (¬ Own u6 b) := hid (fun e => by have e : u6.ownBlock = some b := e; have := (hown4.lt b e).1; omega)
            clear hown4 he hS4
            go_wp2_with (at_builtin; refine wpList_push1 _ rfl _ _ 54 rfl w2.heap.size 5 i0 _ 1 Tryd.underlying54 gi gz0 gz1 gz2 rfl u6 out.length (bytesV out) rfl hown5 _ rfl rfl (by have := HOL.out; omega) (by have := HOL.out; omega) HSZ.out ?_; intro v4 w4 hown4 hf4 hv4 hs4)
            go_wp2_with fail
            refine ⟨⟨m5, out ++ [xe], by omega, hm5', by rw [hd5]; exact HN.out, ?_, ?_, hS5.frm hf4 HNB.out, ?_⟩, ?_⟩
            · rw [bytesV_append, List.length_append]; exact hown4
            · have := HOL.out; rw [List.length_append]; show out.length + 1 ≤ m5; omega
            · exact hD5.trans hf4 (fun _ _ h => h) (fun i hi e => by have e : u6.ownBlock = some i := e; have := (hown5.lt i e).1; omega)
            · rw [(hS5.frm hf4 HNB.out).pos, hp1]; omega
        · have z92 : (((c.toNat : Nat) : Int) == 92) = false := byte_ne (x := 92) h92
          have H32 : (c < 32) ↔ ((c.toNat : Int) < 32) := by rw [UInt8.lt_iff_toNat_lt]; show c.toNat < 32 ↔ _; omega
          have H126 : (126 < c) ↔ (126 < (c.toNat : Int)) := by rw [UInt8.lt_iff_toNat_lt]; show 126 < c.toNat ↔ _; omega
          by_cases hbad : c < 32 ∨ 126 < c
          · have HN : Hid (R = none) := hid (by rw [← hlit, Gr.litS_bad hcq h92 hbad])
            clear hcq h92 hlit hd h0 h1 hown
            by_cases h32 : (c.toNat : Int) < 32
            · clear hbad H32 H126
              go_wp2_with fail
              refine (here_any b _ s v 4 _ (hS.drewN _)).mono ?_
              rintro e w5 ⟨x5, y5, rfl, hF5⟩
              have hS5 := Scn.frm (hS.drewN _) hF5 (fun h => h)
              go_wp2_with fail
              refine (fail_bad b _ s v 4 ByteArray.empty x5 y5 2 _ hS5 (by decide)).mono ?_
              rintro e w6 ⟨rfl, hB6, hF6⟩
              go_wp2_with fail
              exact bodyPost_ret (results_tmp rfl _ _ _) rfl (red_bad (show litOut R = none by rw [HN.out]; rfl) hB6 (((hGw.drewN (q1 + nq)).thenNo hF5).then_ (hF6.weak fun _ _ h => h.ge)))
            · have h126 : (126 : Int) < (c.toNat : Int) := H126.mp (hbad.resolve_left (fun e => h32 (H32.mp e)))
              clear hbad H32 H126
              go_wp2_with fail
              refine (here_any b _ s v 4 _ (hS.drewN _)).mono ?_
              rintro e w5 ⟨x5, y5, rfl, hF5⟩
              have hS5 := Scn.frm (hS.drewN _) hF5 (fun h => h)
              go_wp2_with fail
              refine (fail_bad b _ s v 4 ByteArray.empty x5 y5 2 _ hS5 (by decide)).mono ?_
              rintro e w6 ⟨rfl, hB6, hF6⟩
              go_wp2_with fail
              exact bodyPost_ret (results_tmp rfl _ _ _) rfl (red_bad (show litOut R = none by rw [HN.out]; rfl) hB6 (((hGw.drewN (q1 + nq)).thenNo hF5).then_ (hF6.weak fun _ _ h => h.ge)))
          · have HN : Hid (Gr.litS q (out ++ [c]) l = R) := hid (by rw [← hlit, Gr.litS_one hcq h92 hbad])
            have h32 : ¬ ((c.toNat : Int) < 32) := fun e => hbad (Or.inl (H32.mpr e))
            have h126 : ¬ ((126 : Int) < (c.toNat : Int)) := fun e => hbad (Or.inr (H126.mpr e))
            have hownD := ((Frm.refl No wr).drewN (q1 + nq)).row hown (fun _ _ h => h)
            have hSD := hS.drewN (q1 + nq)
            have hD4 := hF.drewN (q1 + nq)
            have HSZ : Hid (w2.heap.size ≤ (wr.drewN (q1 + nq)).heap.size) := hid hD4.size
            have HNB : Hid (¬ Own u6 b) := hid (fun e => by have e : u6.ownBlock = some b := e; have := (hownD.lt b e).1; omega)
            clear hcq h92 hbad H32 H126 hlit hd h0 h1 hown
            go_wp2_with (at_builtin; refine wpList_push1 _ rfl _ _ 54 rfl w2.heap.size 5 i0 _ 1 Tryd.underlying54 gi gz0 gz1 gz2 rfl u6 out.length (bytesV out) rfl hownD _ rfl rfl (by have := HOL.out; omega) (by have := HOL.out; omega) HSZ.out ?_; intro v4 w4 hown4 hf4 hv4 hs4)
            have hS5 := hSD.frm hf4 HNB.out
            go_wp2_with fail
            refine (step_any b m s v _ hS5 hlm hl).mono ?_
            rintro e w6 ⟨rfl, hS6, hF6⟩
            go_wp2_with fail
            have hown6 := hF6.row hown4 (fun k hk e => by have := (hown4.lt k hk).1; have e : k = b := e; omega)
            refine ⟨⟨m + 1, out ++ [c], by omega, by omega, by rw [hd1]; exact HN.out, ?_, ?_, hS6, ?_⟩, ?_⟩
            · rw [bytesV_append, List.length_append]; exact hown6
            · rw [List.length_append]; show out.length + 1 ≤ m + 1; omega
            · exact (hD4.trans hf4 (fun _ _ h => h) (fun i hi e => by have e : u6.ownBlock = some i := e; have := (hownD.lt i e).1; omega)).then_ hF6
            · rw [hS6.pos, hp1]; omega
end Go.Proofs.YtebocnpbiiejmaaDoor
