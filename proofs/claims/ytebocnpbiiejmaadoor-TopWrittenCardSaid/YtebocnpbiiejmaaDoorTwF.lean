/- The scanner's names. -/
import Derived.Test.YtebocnpbiiejmaaDoorTwE
import Derived.Deep.RegionWith
import Derived.Deep.CutRange
import Derived.Deep.CutBlock
namespace Go.Proofs.YtebocnpbiiejmaaDoor
open Go.RowKit
/-- a name, if it is not too long -/
def nameOut (l : List UInt8) : Option (List UInt8 × List UInt8) :=
  if 32 < (l.takeWhile Gr.inName).length then none else some (l.takeWhile Gr.inName, l.dropWhile Gr.inName)
/-- a token's place, made beside a position -/
def Placed (w wc : World) (n : Nat) (p f : Value) : Prop :=
  ∃ (B : Nat) (x y : Int), p = .pointer (some ⟨B, 0, none⟩) ∧ f = .int .i64 (n : Int) ∧ w.heap.size ≤ B ∧ B < wc.heap.size ∧ Frm No w wc ∧ (∀ j, wc.frozen? ⟨B, j, none⟩ = false) ∧ ∀ j, wc.cell? ⟨B, j, none⟩ = (#[.int .i64 1, .string ByteArray.empty, .int .i64 x, .int .i64 y] : Array Value)[j]?
theorem placed_a {w w1 : World} {n : Nat} {x y : Int} (hF : Frm No w w1) : Placed w (w1.alloc (.cells #[.int .i64 1, .string ByteArray.empty, .int .i64 x, .int .i64 y] 38)) n (.pointer (some ⟨w1.heap.size, 0, none⟩)) (.int .i64 (n : Int)) :=
  ⟨w1.heap.size, x, y, rfl, rfl, hF.size, by rw [World.size_alloc]; exact Nat.lt_succ_self _, hF.alloc _, fun j => World.frozen?_alloc_at _ _ _ _ rfl, fun j => World.cell?_alloc_at _ _ _ _ rfl⟩
theorem placed_b {w w1 : World} {n : Nat} {x y : Int} (hF : Frm No w w1) (kz : ∀ j, w1.cell? ⟨w.heap.size, j, none⟩ = (#[.int .i64 0, .string ⟨#[]⟩, .int .i64 0, .int .i64 0] : Array Value)[j]?) (fz : ∀ j, w1.frozen? ⟨w.heap.size, j, none⟩ = false) :
    Placed w ((((w1.setCell ⟨w.heap.size, 0, none⟩ (.int .i64 1)).setCell ⟨w.heap.size, 1, none⟩ (.string ByteArray.empty)).setCell ⟨w.heap.size, 2, none⟩ (.int .i64 x)).setCell ⟨w.heap.size, 3, none⟩ (.int .i64 y)) n (.pointer (some ⟨w.heap.size, 0, none⟩)) (.int .i64 (n : Int)) := by
  have hlt : w.heap.size < w1.heap.size := World.block_lt_of_cell? w1 _ (kz 0)
  have hno : ∀ {a : World} {j : Nat} {u : Value}, Frm No w a → Frm No w (a.setCell ⟨w.heap.size, j, none⟩ u) := fun h => h.setCell (fun h => absurd h (Nat.lt_irrefl _)) _
  refine ⟨w.heap.size, x, y, rfl, rfl, Nat.le_refl _, by simpa [World.setCell] using hlt, hno (hno (hno (hno hF))), fun j => (World.frozen?_setCell _ _ _ _).trans ((World.frozen?_setCell _ _ _ _).trans ((World.frozen?_setCell _ _ _ _).trans ((World.frozen?_setCell _ _ _ _).trans (fz j)))), fun j => ?_⟩
  match j with
  | 0 => exact (World.cell?_setCell_other _ _ _ _ (by simp)).trans ((World.cell?_setCell_other _ _ _ _ (by simp)).trans ((World.cell?_setCell_other _ _ _ _ (by simp)).trans (World.cell?_setCell_same _ _ _ (kz 0))))
  | 1 => exact (World.cell?_setCell_other _ _ _ _ (by simp)).trans ((World.cell?_setCell_other _ _ _ _ (by simp)).trans (World.cell?_setCell_same _ _ _ ((World.cell?_setCell_other _ _ _ _ (by simp)).trans (kz 1))))
  | 2 => exact (World.cell?_setCell_other _ _ _ _ (by simp)).trans (World.cell?_setCell_same _ _ _ ((World.cell?_setCell_other _ _ _ _ (by simp)).trans ((World.cell?_setCell_other _ _ _ _ (by simp)).trans (kz 2))))
  | 3 => exact World.cell?_setCell_same _ _ _ ((World.cell?_setCell_other _ _ _ _ (by simp)).trans ((World.cell?_setCell_other _ _ _ _ (by simp)).trans ((World.cell?_setCell_other _ _ _ _ (by simp)).trans (kz 3))))
  | k + 4 =>
    refine (World.cell?_setCell_other _ _ _ _ (by simp)).trans ((World.cell?_setCell_other _ _ _ _ (by simp)).trans ((World.cell?_setCell_other _ _ _ _ (by simp)).trans ((World.cell?_setCell_other _ _ _ _ (by simp)).trans ((kz (k + 4)).trans ?_))))
    simp
set_option maxHeartbeats 4000000 in
theorem name_any (b n : Nat) (s : List UInt8) (tl : List Tp) (w : World) (h : ScT w b s n tl) (hl : s.length ≤ 65536) (hlt : n < s.length) (hlet : Gr.inName s[n] = true) :
    Calls Tryd.prog 49 #[.pointer (some ⟨b, 0, none⟩)] w (Red w b n s tl 1 (nameOut (s.drop n))) := by
  obtain ⟨v, hS, hO, hne⟩ := h.ex
  have HLE := hid h.le
  have hb := hS.lt
  have HO := hid hO
  have HS := hid hS
  have h1 := hS.c1
  have h1d : w.drew.cell? ⟨b, 1, none⟩ = some (.int .i64 (n : Int)) := hS.drew.c1
  have HLET := hid hlet
  have HVB : Hid (∀ k, v.ownBlock = some k → k < w.heap.size) := hid (fun k hk => (hO.lt k hk).2)
  have HH : Hid (∀ W, Frm No w W → Calls Tryd.prog 22 #[.pointer (some ⟨b, 0, none⟩), .int .i64 1] W fun e w' => ∃ x y : Int, e = .returned (.agg #[.int .i64 1, .string ByteArray.empty, .int .i64 x, .int .i64 y]) ∧ Frm No W w' ∧ Frm No w w' ∧ w'.cell? ⟨b, 1, none⟩ = some (.int .i64 (n : Int)) ∧ ∀ o, (w'.alloc o).cell? ⟨b, 1, none⟩ = some (.int .i64 (n : Int))) := hid fun W hW =>
    (here_any b n s v 1 W (hS.frm hW (fun h => h))).mono fun e w' ⟨x, y, he, hf⟩ => ⟨x, y, he, hf, hW.thenNo hf, ((hS.frm hW (fun h => h)).frm hf (fun h => h)).c1, fun o => (((hS.frm hW (fun h => h)).frm hf (fun h => h)).frm ((Frm.refl No w').alloc o) (fun h => h)).c1⟩
  have pab : ∀ o, (w.alloc o).cell? ⟨b, 1, none⟩ = some (.int .i64 (n : Int)) := fun o => (hS.frm ((Frm.refl No w).alloc o) (fun h => h)).c1
  clear hO h hlet hS
  go_enter Tryd.func49, Tryd.ntmps49
  go_wp2_with fail
  go_cut [3, 4] from 5 to 54 (fun p f wc => Placed w wc n p f)
  case first =>
    go_region_with (first | (go_at_call 22; refine (HH.out ((w.alloc (.cells #[.int .i64 0, .string ⟨#[]⟩, .int .i64 0, .int .i64 0] 38)).drew) (((Frm.refl No w).alloc _).drew)).mono ?_; rintro e w1 ⟨x, y, rfl, hF0, hF1, g1, g2⟩; have kz : ∀ j, w1.cell? ⟨w.heap.size, j, none⟩ = (#[.int .i64 0, .string ⟨#[]⟩, .int .i64 0, .int .i64 0] : Array Value)[j]? := (fun j => (hF0.cell (p := ⟨w.heap.size, j, none⟩) (by show _ < (w.alloc _).heap.size; rw [World.size_alloc]; exact Nat.lt_succ_self _) (fun h => h)).trans (World.cell?_alloc_at _ _ _ _ rfl)); have k0 := kz 0; have k1 := kz 1; have k2 := kz 2; have k3 := kz 3; have fz : ∀ j, w1.frozen? ⟨w.heap.size, j, none⟩ = false := (fun j => (hF0.frozen (p := ⟨w.heap.size, j, none⟩) (by show _ < (w.alloc _).heap.size; rw [World.size_alloc]; exact Nat.lt_succ_self _) (fun h => h)).trans (World.frozen?_alloc_at _ _ _ _ rfl))) | (go_at_call 22; refine (HH.out _ (by repeat (first | exact Frm.refl _ _ | refine Frm.drew ?_))).mono ?_; rintro e w1 ⟨x, y, rfl, hF0, hF1, g1, g2⟩))
    all_goals (dsimp only [Exit.then]; go_step; go_meet)
    all_goals first | with_reducible exact placed_a hF1 | exact placed_b hF1 kz fz
  case rest =>
    obtain ⟨B, x, y, rfl, rfl, hwB, hBc, hFc, hfc, hxc⟩ := hcut
    have hSc := HS.out.frm hFc (fun h => h)
    have HOc := hid (hFc.row HO.out (fun _ _ h => h))
    have HGc := hid (hFc.weak (U := Ge b) (fun _ _ h => h.elim))
    have hBb : ¬ One b B := fun e => by have e : B = b := e; omega
    clear h1 h1d HH pab HS HO
    go_wp2_with fail
    go_loopw [11] (fun _ wr => ∃ m, n ≤ m ∧ m ≤ s.length ∧ (s.drop n).takeWhile Gr.inName = (s.drop n).take (m - n) ++ (s.drop m).takeWhile Gr.inName ∧ (s.drop n).dropWhile Gr.inName = (s.drop m).dropWhile Gr.inName ∧ Scn wr b s m v ∧ Frm (One b) wc wr) (fun _ wr => s.length - posOf b wr)
    case atStart => exact ⟨n, Nat.le_refl _, by omega, by rw [Nat.sub_self]; rfl, rfl, hSc, Frm.refl _ _⟩
    case round =>
      obtain ⟨m, hm1, hm2, htw, hdw, hS, hF⟩ := hrel
      have hp1 := hS.pos
      clear hSc
      cases hd : s.drop m with
      | nil =>
        have HGE := hid (drop_nil hd)
        have HNM : Hid ((s.drop n).takeWhile Gr.inName = (s.drop n).take (m - n)) := hid (by rw [htw, hd]; exact List.append_nil _)
        have HDR : Hid ((s.drop n).dropWhile Gr.inName = s.drop m) := hid (by rw [hdw, hd]; rfl)
        clear htw hdw hd
        go_wp2_with fail
        go_quiet ((go_at_call 20; refine Calls.quiet_of (more_no b m s v _ (hS.drewN _) HGE.out)))
        have hSq := hS.drewN nq
        have hFq := hF.drewN nq
        have hxq : ∀ j, (wr.drewN nq).cell? ⟨B, j, none⟩ = (#[.int .i64 1, .string ByteArray.empty, .int .i64 x, .int .i64 y] : Array Value)[j]? := fun j => (hFq.cell (p := ⟨B, j, none⟩) hBc hBb).trans (hxc j)
        have hfq : ∀ j, (wr.drewN nq).frozen? ⟨B, j, none⟩ = false := fun j => (hFq.frozen (p := ⟨B, j, none⟩) hBc hBb).trans (hfc j)
        have HOq := hid (hFq.row HOc.out (fun k hk e => hne (by have e : k = b := e; rw [hk, e])))
        have HGq := hid (HGc.out.then_ (hFq.weak fun _ _ h => h.ge))
        clear hS hF hxc hfc HOc HGc
        have hlen : (s.drop n).length = s.length - n := List.length_drop
        obtain ⟨Wq, hWq⟩ : ∃ Wq, wr.drewN nq = Wq := ⟨_, rfl⟩
        rw [hWq] at hSq hFq hxq hfq HOq HGq
        have g0 := hSq.c0
        have g1 := hSq.c1
        have k0 := hxq 0
        have k1 := hxq 1
        have k2 := hxq 2
        have k3 := hxq 3
        have hnm' : n ≤ s.length := by omega
        have hB1 : (Wq.setCell ⟨B, 1, none⟩ (.string ⟨((s.drop n).take (m - n)).toArray⟩)).cell? ⟨B, 1, none⟩ = some (.string ⟨((s.drop n).take (m - n)).toArray⟩) := World.cell?_setCell_same _ _ _ k1
        obtain ⟨nm, hnm⟩ : ∃ nm, (s.drop n).take (m - n) = nm := ⟨_, rfl⟩
        have hnl : nm.length = m - n := by rw [← hnm, List.length_take, hlen]; omega
        by_cases h32 : 32 < m - n
        · have HNO : Hid (nameOut (s.drop n) = none) := hid (if_pos (by rw [HNM.out, hnm, hnl]; exact h32))
          have h32' : (32 : Int) < ((m - n : Nat) : Int) := by omega
          have hSW : Scn (Wq.setCell ⟨B, 1, none⟩ (.string ⟨((s.drop n).take (m - n)).toArray⟩)) b s m v := hSq.frm (S := One B) frmOne (fun e => by have e : b = B := e; omega)
          have HFX := hid ((HGq.out.then_ ((frmOne (b := B) (w := Wq) (j := 1) (v := .string ⟨((s.drop n).take (m - n)).toArray⟩)).weak (U := Ge b) (fun i _ e => by have e : i = B := e; show b ≤ i; omega))).drew)
          clear h32 hnm hnl
          go_wp2_with fail
          try simp only [hWq]
          go_region
          go_wp2_with fail
          refine (fail_bad b m s v 1 _ x y 6 _ hSW.drew (by decide)).mono ?_
          rintro e w6 ⟨rfl, hB6, hF6⟩
          go_wp2_with fail
          exact bodyPost_ret (results_tmp rfl _ _ _) rfl (red_bad HNO.out hB6 (HFX.out.then_ (hF6.weak fun _ _ h => h.ge)))
        · have HNO : Hid (nameOut (s.drop n) = some ((s.drop n).take (m - n), s.drop m)) := hid (by unfold nameOut; rw [if_neg (by rw [HNM.out, hnm, hnl]; exact h32), HNM.out, HDR.out])
          have h32' : ¬ (32 : Int) < ((m - n : Nat) : Int) := by omega
          have hS0 : Scn (Wq.setCell ⟨B, 1, none⟩ (.string ⟨((s.drop n).take (m - n)).toArray⟩)).drew b s m v := Scn.drew (hSq.frm (S := One B) frmOne (fun e => by have e : b = B := e; omega))
          have HF0 := hid ((HGq.out.then_ ((frmOne (b := B) (w := Wq) (j := 1) (v := .string ⟨((s.drop n).take (m - n)).toArray⟩)).weak (U := Ge b) (fun i _ e => by have e : i = B := e; show b ≤ i; omega))).drew)
          have HO0 := hid ((Frm.drew (frmOne (b := B) (w := Wq) (j := 1) (v := .string ⟨((s.drop n).take (m - n)).toArray⟩))).row HOq.out (fun k hk e => by have := HVB.out k hk; have e : k = B := e; omega))
          have hBW : B < (Wq.setCell ⟨B, 1, none⟩ (.string ⟨((s.drop n).take (m - n)).toArray⟩)).drew.heap.size := by show B < (Wq.setCell ⟨B, 1, none⟩ (.string ⟨((s.drop n).take (m - n)).toArray⟩)).heap.size; have := World.block_lt_of_cell? Wq _ k0; simpa [World.setCell] using this
          have hx : ∀ j, (Wq.setCell ⟨B, 1, none⟩ (.string ⟨((s.drop n).take (m - n)).toArray⟩)).drew.cell? ⟨B, j, none⟩ = (#[.int .i64 1, .string ⟨((s.drop n).take (m - n)).toArray⟩, .int .i64 x, .int .i64 y] : Array Value)[j]? := fun j => by
            show (Wq.setCell ⟨B, 1, none⟩ (.string ⟨((s.drop n).take (m - n)).toArray⟩)).cell? ⟨B, j, none⟩ = _
            by_cases hj : j = 1
            · subst hj; exact World.cell?_setCell_same _ _ _ k1
            · rw [World.cell?_setCell_other _ _ _ _ (by simp), hxq]
              match j, hj with
              | 0, _ => rfl
              | 2, _ => rfl
              | 3, _ => rfl
              | k + 4, _ => simp
          clear h32 hnm hnl
          go_wp2_with fail
          try simp only [hWq]
          go_region
          go_wp2_with fail
          obtain ⟨W0, hW0⟩ : ∃ W0, (Wq.setCell ⟨B, 1, none⟩ (.string ⟨((s.drop n).take (m - n)).toArray⟩)).drew = W0 := ⟨_, rfl⟩
          obtain ⟨nm, hnm⟩ : ∃ nm, (s.drop n).take (m - n) = nm := ⟨_, rfl⟩
          rw [hW0] at hS0 HF0 HO0 hBW hx
          simp only [hW0]
          rw [hnm] at hx HNO
          simp only [hnm]
          have HMN : Hid (n < m) := hid (by
            rcases Nat.lt_or_ge n m with h' | h'
            · exact h'
            · exfalso
              have h2 := HNM.out
              rw [List.drop_eq_getElem_cons hlt, List.takeWhile_cons_of_pos HLET.out, show m - n = 0 by omega] at h2
              cases h2)
          have HN : Hid (m ≤ 65536) := hid (by omega)
          have HLE2 : Hid (tl.length < m) := hid (by have := HLE.out; have := HMN.out; omega)
          have hbW := hS0.lt
          obtain ⟨ao, ec, rfl⟩ := ownsRow_shape HO0.out
          have h4 := hS0.c4
          have hf4 := hS0.f 4
          have k0 := hx 0
          have k1 := hx 1
          have k2 := hx 2
          have k3 := hx 3
          have kab : ∀ o j, (W0.alloc o).cell? ⟨B, j, none⟩ = (#[.int .i64 1, .string ⟨nm.toArray⟩, .int .i64 x, .int .i64 y] : Array Value)[j]? := fun o j => (((Frm.refl No W0).alloc o).cell (p := ⟨B, j, none⟩) hBW (fun h => h)).trans (hx j)
          have pab : ∀ o, (W0.alloc o).cell? ⟨b, 4, none⟩ = some (.slice ao tl.length ec) := fun o => (((Frm.refl No W0).alloc o).cell (p := ⟨b, 4, none⟩) hbW (fun h => h)).trans h4
          have HSRC : Hid (Src Tryd.prog 4 34 (.slice (some ⟨W0.heap.size, 0, none⟩) 1 1) 1 [.int .i64 1, .string ⟨nm.toArray⟩, .int .i64 x, .int .i64 y] (W0.alloc (.cells #[.int .i64 1, .string ⟨nm.toArray⟩, .int .i64 x, .int .i64 y] 38)).drew) := hid (Src.ofSlice _ Tryd.underlying34 ⟨W0.heap.size, 0, none⟩ 1 1 [.int .i64 1, .string ⟨nm.toArray⟩, .int .i64 x, .int .i64 y] rfl (fun j u hj => by
            have e : (⟨W0.heap.size, 0, none⟩ : Addr).add j = ⟨W0.heap.size, j, none⟩ := by rw [Addr.add_lit]; simp
            have e2 : (W0.alloc (.cells #[.int .i64 1, .string ⟨nm.toArray⟩, .int .i64 x, .int .i64 y] 38)).drew.cell? ⟨W0.heap.size, j, none⟩ = (#[.int .i64 1, .string ⟨nm.toArray⟩, .int .i64 x, .int .i64 y] : Array Value)[j]? := World.cell?_alloc_at _ _ _ _ rfl
            rw [e, e2, ← hj]
            simp) (by intro u hu; simp only [List.mem_cons, List.not_mem_nil, or_false] at hu; rcases hu with rfl | rfl | rfl | rfl <;> rfl))
          have HROW : Hid ((W0.alloc (.cells #[.int .i64 1, .string ⟨nm.toArray⟩, .int .i64 x, .int .i64 y] 38)).drew.ownsRow b 38 4 (.slice ao tl.length ec) tl.length (rows tokV tl)) := hid (HO0.out.alloc _).drew
          have HBS : Hid (b ≤ (W0.alloc (.cells #[.int .i64 1, .string ⟨nm.toArray⟩, .int .i64 x, .int .i64 y] 38)).drew.heap.size) := hid (by show _ ≤ (W0.alloc _).heap.size; rw [World.size_alloc]; omega)
          have H49 : Hid (Scn (W0.alloc (.cells #[.int .i64 1, .string ⟨nm.toArray⟩, .int .i64 x, .int .i64 y] 38)).drew b s m (.slice ao tl.length ec)) := hid (hS0.frm (((Frm.refl No W0).alloc _).drew) (fun h => h))
          have HF1 : Hid (Frm (Ge b) w (W0.alloc (.cells #[.int .i64 1, .string ⟨nm.toArray⟩, .int .i64 x, .int .i64 y] 38)).drew) := hid ((HF0.out.alloc _).drew)
          have hneO : ∀ k, (Value.slice ao tl.length ec).ownBlock = some k → k ≠ b := fun k hk e => hne (by rw [hk, e])
          obtain ⟨i0, gi, gz0, gz1, gz2⟩ := info_parts info_tok
          go_region_law (refine step_append_own rfl (.tmp 49) (.tmp 51) 34 34 rfl b 38 i0 _ 4 40 Tryd.underlying34 gi gz0 gz1 gz2 rfl (.slice ao tl.length ec) tl.length (rows tokV tl) (by simp [Act.eval]) HROW.out (.slice (some ⟨W0.heap.size, 0, none⟩) 1 1) 1 [.int .i64 1, .string ⟨nm.toArray⟩, .int .i64 x, .int .i64 y] (by simp [Act.eval]) HSRC.out (by have := HLE2.out; have := HN.out; unfold maxLen; omega) (by have := HLE2.out; have := HN.out; omega) HBS.out ?_; intro v3 w3 hown hd hv; obtain ⟨ao3, c3, rfl⟩ := ownsRow_shape hown; have s3 := H49.out.frm hd (fun e => hneO _ e rfl); have pz : w3.cell? ⟨b, 4, none⟩ = some (.slice ao tl.length ec) := s3.c4; have pzf : w3.frozen? ⟨b, 4, none⟩ = false := s3.f 4)
          all_goals
            go_wp2_with fail
            have HD := tok_done (tp := (⟨1, nm⟩, x, y)) HROW.out (by rw [World.size_drew, World.size_alloc]; omega) s3 hneO HF1.out hd hown hv HLE2.out
            refine bodyPost_ret (results_tmp rfl _ _ _) rfl ⟨HD.2, ?_⟩
            rw [HNO.out]
            exact ⟨rfl, m, x, y, HMN.out, hm2, rfl, HD.1⟩
      | cons c l =>
        obtain ⟨hlm, hc, hd1⟩ := drop_get hd
        have h0 := hS.c0
        have h1 := hS.c1
        have HIN := fun w => inName_any c w
        cases hin : Gr.inName c with
        | true =>
          rw [hin] at HIN
          have HTW : Hid ((s.drop n).takeWhile Gr.inName = (s.drop n).take (m + 1 - n) ++ (s.drop (m + 1)).takeWhile Gr.inName) := hid (by
            rw [htw, hd, List.takeWhile_cons_of_pos hin, hd1, show m + 1 - n = (m - n) + 1 by omega, List.take_add_one, List.append_assoc]
            congr 1
            rw [List.getElem?_drop, show n + (m - n) = m by omega, List.getElem?_eq_getElem hlm, hc]
            rfl)
          have HDW : Hid ((s.drop n).dropWhile Gr.inName = (s.drop (m + 1)).dropWhile Gr.inName) := hid (by rw [hdw, hd, List.dropWhile_cons_of_pos hin, hd1])
          clear htw hdw hd hin
          go_wp2_with fail
          go_quiet (first | (go_at_call 20; refine Calls.quiet_of (more_yes b m s v _ (hS.drewN _) hlm)) | (go_at_call 61; exact (HIN _).mono fun _ _ ⟨a, b⟩ => ⟨a, _, b⟩))
          go_wp2_with fail
          refine (step_any b m s v _ (hS.drewN _) hlm hl).mono ?_
          rintro e w2 ⟨rfl, hS3, hF3⟩
          go_wp2_with fail
          refine ⟨⟨m + 1, by omega, by omega, HTW.out, HDW.out, hS3, (hF.drewN _).then_ hF3⟩, ?_⟩
          rw [hS3.pos, hp1]
          omega
        | false =>
          rw [hin] at HIN
          have HNM : Hid ((s.drop n).takeWhile Gr.inName = (s.drop n).take (m - n)) := hid (by rw [htw, hd, List.takeWhile_cons_of_neg (by rw [hin]; decide)]; exact List.append_nil _)
          have HDR : Hid ((s.drop n).dropWhile Gr.inName = s.drop m) := hid (by rw [hdw, hd, List.dropWhile_cons_of_neg (by rw [hin]; decide)])
          clear htw hdw hd hin
          go_wp2_with fail
          go_quiet (first | (go_at_call 20; refine Calls.quiet_of (more_yes b m s v _ (hS.drewN _) hlm)) | (go_at_call 61; exact (HIN _).mono fun _ _ ⟨a, b⟩ => ⟨a, _, b⟩))
          clear h0 h1
          have hSq := hS.drewN nq
          have hFq := hF.drewN nq
          have hxq : ∀ j, (wr.drewN nq).cell? ⟨B, j, none⟩ = (#[.int .i64 1, .string ByteArray.empty, .int .i64 x, .int .i64 y] : Array Value)[j]? := fun j => (hFq.cell (p := ⟨B, j, none⟩) hBc hBb).trans (hxc j)
          have hfq : ∀ j, (wr.drewN nq).frozen? ⟨B, j, none⟩ = false := fun j => (hFq.frozen (p := ⟨B, j, none⟩) hBc hBb).trans (hfc j)
          have HOq := hid (hFq.row HOc.out (fun k hk e => hne (by have e : k = b := e; rw [hk, e])))
          have HGq := hid (HGc.out.then_ (hFq.weak fun _ _ h => h.ge))
          clear hS hF hxc hfc HOc HGc
          have hlen : (s.drop n).length = s.length - n := List.length_drop
          obtain ⟨Wq, hWq⟩ : ∃ Wq, wr.drewN nq = Wq := ⟨_, rfl⟩
          rw [hWq] at hSq hFq hxq hfq HOq HGq
          have g0 := hSq.c0
          have g1 := hSq.c1
          have k0 := hxq 0
          have k1 := hxq 1
          have k2 := hxq 2
          have k3 := hxq 3
          have hnm' : n ≤ s.length := by omega
          have hB1 : (Wq.setCell ⟨B, 1, none⟩ (.string ⟨((s.drop n).take (m - n)).toArray⟩)).cell? ⟨B, 1, none⟩ = some (.string ⟨((s.drop n).take (m - n)).toArray⟩) := World.cell?_setCell_same _ _ _ k1
          obtain ⟨nm, hnm⟩ : ∃ nm, (s.drop n).take (m - n) = nm := ⟨_, rfl⟩
          have hnl : nm.length = m - n := by rw [← hnm, List.length_take, hlen]; omega
          by_cases h32 : 32 < m - n
          · have HNO : Hid (nameOut (s.drop n) = none) := hid (if_pos (by rw [HNM.out, hnm, hnl]; exact h32))
            have h32' : (32 : Int) < ((m - n : Nat) : Int) := by omega
            have hSW : Scn (Wq.setCell ⟨B, 1, none⟩ (.string ⟨((s.drop n).take (m - n)).toArray⟩)) b s m v := hSq.frm (S := One B) frmOne (fun e => by have e : b = B := e; omega)
            have HFX := hid ((HGq.out.then_ ((frmOne (b := B) (w := Wq) (j := 1) (v := .string ⟨((s.drop n).take (m - n)).toArray⟩)).weak (U := Ge b) (fun i _ e => by have e : i = B := e; show b ≤ i; omega))).drew)
            clear h32 hnm hnl
            go_wp2_with fail
            try simp only [hWq]
            go_region
            go_wp2_with fail
            refine (fail_bad b m s v 1 _ x y 6 _ hSW.drew (by decide)).mono ?_
            rintro e w6 ⟨rfl, hB6, hF6⟩
            go_wp2_with fail
            exact bodyPost_ret (results_tmp rfl _ _ _) rfl (red_bad HNO.out hB6 (HFX.out.then_ (hF6.weak fun _ _ h => h.ge)))
          · have HNO : Hid (nameOut (s.drop n) = some ((s.drop n).take (m - n), s.drop m)) := hid (by unfold nameOut; rw [if_neg (by rw [HNM.out, hnm, hnl]; exact h32), HNM.out, HDR.out])
            have h32' : ¬ (32 : Int) < ((m - n : Nat) : Int) := by omega
            have hS0 : Scn (Wq.setCell ⟨B, 1, none⟩ (.string ⟨((s.drop n).take (m - n)).toArray⟩)).drew b s m v := Scn.drew (hSq.frm (S := One B) frmOne (fun e => by have e : b = B := e; omega))
            have HF0 := hid ((HGq.out.then_ ((frmOne (b := B) (w := Wq) (j := 1) (v := .string ⟨((s.drop n).take (m - n)).toArray⟩)).weak (U := Ge b) (fun i _ e => by have e : i = B := e; show b ≤ i; omega))).drew)
            have HO0 := hid ((Frm.drew (frmOne (b := B) (w := Wq) (j := 1) (v := .string ⟨((s.drop n).take (m - n)).toArray⟩))).row HOq.out (fun k hk e => by have := HVB.out k hk; have e : k = B := e; omega))
            have hBW : B < (Wq.setCell ⟨B, 1, none⟩ (.string ⟨((s.drop n).take (m - n)).toArray⟩)).drew.heap.size := by show B < (Wq.setCell ⟨B, 1, none⟩ (.string ⟨((s.drop n).take (m - n)).toArray⟩)).heap.size; have := World.block_lt_of_cell? Wq _ k0; simpa [World.setCell] using this
            have hx : ∀ j, (Wq.setCell ⟨B, 1, none⟩ (.string ⟨((s.drop n).take (m - n)).toArray⟩)).drew.cell? ⟨B, j, none⟩ = (#[.int .i64 1, .string ⟨((s.drop n).take (m - n)).toArray⟩, .int .i64 x, .int .i64 y] : Array Value)[j]? := fun j => by
              show (Wq.setCell ⟨B, 1, none⟩ (.string ⟨((s.drop n).take (m - n)).toArray⟩)).cell? ⟨B, j, none⟩ = _
              by_cases hj : j = 1
              · subst hj; exact World.cell?_setCell_same _ _ _ k1
              · rw [World.cell?_setCell_other _ _ _ _ (by simp), hxq]
                match j, hj with
                | 0, _ => rfl
                | 2, _ => rfl
                | 3, _ => rfl
                | k + 4, _ => simp
            clear h32 hnm hnl
            go_wp2_with fail
            try simp only [hWq]
            go_region
            go_wp2_with fail
            obtain ⟨W0, hW0⟩ : ∃ W0, (Wq.setCell ⟨B, 1, none⟩ (.string ⟨((s.drop n).take (m - n)).toArray⟩)).drew = W0 := ⟨_, rfl⟩
            obtain ⟨nm, hnm⟩ : ∃ nm, (s.drop n).take (m - n) = nm := ⟨_, rfl⟩
            rw [hW0] at hS0 HF0 HO0 hBW hx
            simp only [hW0]
            rw [hnm] at hx HNO
            simp only [hnm]
            have HMN : Hid (n < m) := hid (by
              rcases Nat.lt_or_ge n m with h' | h'
              · exact h'
              · exfalso
                have h2 := HNM.out
                rw [List.drop_eq_getElem_cons hlt, List.takeWhile_cons_of_pos HLET.out, show m - n = 0 by omega] at h2
                cases h2)
            have HN : Hid (m ≤ 65536) := hid (by omega)
            have HLE2 : Hid (tl.length < m) := hid (by have := HLE.out; have := HMN.out; omega)
            have hbW := hS0.lt
            obtain ⟨ao, ec, rfl⟩ := ownsRow_shape HO0.out
            have h4 := hS0.c4
            have hf4 := hS0.f 4
            have k0 := hx 0
            have k1 := hx 1
            have k2 := hx 2
            have k3 := hx 3
            have kab : ∀ o j, (W0.alloc o).cell? ⟨B, j, none⟩ = (#[.int .i64 1, .string ⟨nm.toArray⟩, .int .i64 x, .int .i64 y] : Array Value)[j]? := fun o j => (((Frm.refl No W0).alloc o).cell (p := ⟨B, j, none⟩) hBW (fun h => h)).trans (hx j)
            have pab : ∀ o, (W0.alloc o).cell? ⟨b, 4, none⟩ = some (.slice ao tl.length ec) := fun o => (((Frm.refl No W0).alloc o).cell (p := ⟨b, 4, none⟩) hbW (fun h => h)).trans h4
            have HSRC : Hid (Src Tryd.prog 4 34 (.slice (some ⟨W0.heap.size, 0, none⟩) 1 1) 1 [.int .i64 1, .string ⟨nm.toArray⟩, .int .i64 x, .int .i64 y] (W0.alloc (.cells #[.int .i64 1, .string ⟨nm.toArray⟩, .int .i64 x, .int .i64 y] 38)).drew) := hid (Src.ofSlice _ Tryd.underlying34 ⟨W0.heap.size, 0, none⟩ 1 1 [.int .i64 1, .string ⟨nm.toArray⟩, .int .i64 x, .int .i64 y] rfl (fun j u hj => by
              have e : (⟨W0.heap.size, 0, none⟩ : Addr).add j = ⟨W0.heap.size, j, none⟩ := by rw [Addr.add_lit]; simp
              have e2 : (W0.alloc (.cells #[.int .i64 1, .string ⟨nm.toArray⟩, .int .i64 x, .int .i64 y] 38)).drew.cell? ⟨W0.heap.size, j, none⟩ = (#[.int .i64 1, .string ⟨nm.toArray⟩, .int .i64 x, .int .i64 y] : Array Value)[j]? := World.cell?_alloc_at _ _ _ _ rfl
              rw [e, e2, ← hj]
              simp) (by intro u hu; simp only [List.mem_cons, List.not_mem_nil, or_false] at hu; rcases hu with rfl | rfl | rfl | rfl <;> rfl))
            have HROW : Hid ((W0.alloc (.cells #[.int .i64 1, .string ⟨nm.toArray⟩, .int .i64 x, .int .i64 y] 38)).drew.ownsRow b 38 4 (.slice ao tl.length ec) tl.length (rows tokV tl)) := hid (HO0.out.alloc _).drew
            have HBS : Hid (b ≤ (W0.alloc (.cells #[.int .i64 1, .string ⟨nm.toArray⟩, .int .i64 x, .int .i64 y] 38)).drew.heap.size) := hid (by show _ ≤ (W0.alloc _).heap.size; rw [World.size_alloc]; omega)
            have H49 : Hid (Scn (W0.alloc (.cells #[.int .i64 1, .string ⟨nm.toArray⟩, .int .i64 x, .int .i64 y] 38)).drew b s m (.slice ao tl.length ec)) := hid (hS0.frm (((Frm.refl No W0).alloc _).drew) (fun h => h))
            have HF1 : Hid (Frm (Ge b) w (W0.alloc (.cells #[.int .i64 1, .string ⟨nm.toArray⟩, .int .i64 x, .int .i64 y] 38)).drew) := hid ((HF0.out.alloc _).drew)
            have hneO : ∀ k, (Value.slice ao tl.length ec).ownBlock = some k → k ≠ b := fun k hk e => hne (by rw [hk, e])
            obtain ⟨i0, gi, gz0, gz1, gz2⟩ := info_parts info_tok
            go_region_law (refine step_append_own rfl (.tmp 49) (.tmp 51) 34 34 rfl b 38 i0 _ 4 40 Tryd.underlying34 gi gz0 gz1 gz2 rfl (.slice ao tl.length ec) tl.length (rows tokV tl) (by simp [Act.eval]) HROW.out (.slice (some ⟨W0.heap.size, 0, none⟩) 1 1) 1 [.int .i64 1, .string ⟨nm.toArray⟩, .int .i64 x, .int .i64 y] (by simp [Act.eval]) HSRC.out (by have := HLE2.out; have := HN.out; unfold maxLen; omega) (by have := HLE2.out; have := HN.out; omega) HBS.out ?_; intro v3 w3 hown hd hv; obtain ⟨ao3, c3, rfl⟩ := ownsRow_shape hown; have s3 := H49.out.frm hd (fun e => hneO _ e rfl); have pz : w3.cell? ⟨b, 4, none⟩ = some (.slice ao tl.length ec) := s3.c4; have pzf : w3.frozen? ⟨b, 4, none⟩ = false := s3.f 4)
            all_goals
              go_wp2_with fail
              have HD := tok_done (tp := (⟨1, nm⟩, x, y)) HROW.out (by rw [World.size_drew, World.size_alloc]; omega) s3 hneO HF1.out hd hown hv HLE2.out
              refine bodyPost_ret (results_tmp rfl _ _ _) rfl ⟨HD.2, ?_⟩
              rw [HNO.out]
              exact ⟨rfl, m, x, y, HMN.out, hm2, rfl, HD.1⟩
end Go.Proofs.YtebocnpbiiejmaaDoor
