/- RollTurned: members that are enrolled, classes that are opened, and students that join, in one order or the other one, make the same roll, for every list of pairs of numbers. Printed by a program (rollturn.py). -/
import Derived.Test.YtekailaoanpcgaaRollT1
import Derived.Deep.Cut
import Derived.Deep.CutRange
import Derived.Deep.CutBlock
import Derived.BigQuiet
namespace Go.Proofs.Ytekailaoanpcgaa
open Go.ChangeShapes Go.WideShapes Go.ChangeAt Go.RowKit Go.Deep
open Roll
namespace RollTurn

def pairV (x : Int × Int) : List Value := [.int .i64 x.1, .int .i64 x.2]
theorem cells_pair : Try.prog.cellsOf 32 = 2 := by kernel_rfl
theorem el_pair {H : Type} {enc : TypeId × Value → H} {W : World} {cs : List Value} {n : Nat} {x : DataW H × List MemPlace} (hl : cs.length = 2) (h : DataW.trod enc Try.prog W 0 (fun _ => true) true n 32 cs = some x) :
    ∃ y : Int × Int, cs = pairV y ∧ (Fits y.1 ∧ Fits y.2) := by
  obtain ⟨xs, m, -, -, -, hxl, hx⟩ := DataW.trod_array Try.underlying32 h
  obtain ⟨c0, c1, rfl⟩ := len2 hl
  rw [cells_int] at hx
  have h0 := hx 0 (by omega)
  have h1 := hx 1 (by omega)
  rw [List.getElem?_eq_getElem (by omega)] at h0 h1
  obtain ⟨a, e0, -, wa⟩ := DataW.trod_int Try.underlying3 h0
  obtain ⟨b, e1, -, wb⟩ := DataW.trod_int Try.underlying3 h1
  simp at e0 e1
  exact ⟨(a, b), by rw [e0, e1]; rfl, bounds_i64 wa, bounds_i64 wb⟩
theorem open_pairs {H : Type} {enc : TypeId × Value → H} {W : World} {v : Value} {d : DataW H} {ps : List MemPlace} (h : DataW.Trod enc Try.prog W 0 (fun _ => true) true 22 v d ps) (hv : ∃ a l c, v = .slice a l c) :
    ∃ xs : List (Int × Int), RdL W v 2 pairV xs ∧ xs.length ≤ maxLen ∧ ∀ y ∈ xs, Fits y.1 ∧ Fits y.2 :=
  open_list Try.underlying22 cells_pair (by omega) h hv (fun _ _ _ hl h => el_pair hl h)

def k9 (x : Int) : Nat := ((wrap64 (x.tmod 9 + 9)).tmod 9).toNat
def k4 (x : Int) : Nat := ((wrap64 (x.tmod 4 + 4)).tmod 4).toNat
theorem k9_is (x : Int) : (wrap64 (x.tmod 9 + 9)).tmod 9 = (k9 x : Int) ∧ k9 x < 9 := by
  have h1 := Int.lt_tmod_of_pos x (b := 9) (by omega)
  have h2 := Int.tmod_lt_of_pos x (b := 9) (by omega)
  unfold k9
  rw [IntWalk.wrap64_in _ (by omega), Int.tmod_eq_emod_of_nonneg (by omega)]
  omega
theorem k4_is (x : Int) : (wrap64 (x.tmod 4 + 4)).tmod 4 = (k4 x : Int) ∧ k4 x < 4 := by
  have h1 := Int.lt_tmod_of_pos x (b := 4) (by omega)
  have h2 := Int.tmod_lt_of_pos x (b := 4) (by omega)
  unfold k4
  rw [IntWalk.wrap64_in _ (by omega), Int.tmod_eq_emod_of_nonneg (by omega)]
  omega
def prs (asks : List (Int × Int)) : List (B × B) := (asks.take 20).map fun a => (nx (k9 a.1), nc (k4 a.2))
def seqT (asks : List (Int × Int)) (t : Nat) : List (B × B) := if t = 0 then prs asks else (prs asks).reverse
theorem prs_good (asks : List (Int × Int)) : GoodT (prs asks) := fun a ha => by
  obtain ⟨p, hp, rfl⟩ := List.mem_map.1 ha
  exact ⟨⟨k9 p.1, (k9_is p.1).2, rfl⟩, ⟨k4 p.2, (k4_is p.2).2, rfl⟩⟩
theorem seq_good (asks : List (Int × Int)) (t : Nat) : GoodT (seqT asks t) := by
  unfold seqT
  split
  · exact prs_good asks
  · exact fun a ha => prs_good asks a (List.mem_reverse.1 ha)
theorem seq_len (asks : List (Int × Int)) (t : Nat) : (seqT asks t).length = min asks.length 20 := by
  unfold seqT prs
  split <;> simp [Nat.min_comm]
/-- Which pair is taken. -/
def atT (n t i : Nat) : Nat := if t = 0 then i else n - 1 - i
theorem seq_at (asks : List (Int × Int)) (t i : Nat) (h : i < (seqT asks t).length) (h2 : atT (min asks.length 20) t i < asks.length) : (seqT asks t)[i] = (nx (k9 asks[atT (min asks.length 20) t i].1), nc (k4 asks[atT (min asks.length 20) t i].2)) := by
  have hl := seq_len asks t
  unfold seqT atT prs at *
  by_cases ht : t = 0
  · simp [ht]
  · simp only [ht, if_false, List.getElem_reverse, List.getElem_map, List.length_map, List.length_take, List.getElem_take, Nat.min_comm]
/-- A turn under way: the rolls' block D, the turn's roll in block E. -/
structure TurnI (w wr : World) (D E : Nat) (d0 d1 mv cv : Value) (R R3 : Rl) (t : Nat) : Prop where
  bD : Box w wr D [d0, d1, .slice none 0 0, .slice none 0 0]
  bE : Box w wr E [mv, cv]
  ne : D ≠ E
  sD : (∃ x n c, d0 = .slice x n c) ∧ ∃ x n c, d1 = .slice x n c
  pr : t = 1 → RlR wr d0 d1 R3
  rl : RlR wr mv cv R
theorem TurnI.no {w wr w2 : World} {D E : Nat} {d0 d1 mv cv : Value} {R R3 : Rl} {t : Nat} (h : TurnI w wr D E d0 d1 mv cv R R3 t) (hf : Frm No wr w2) : TurnI w w2 D E d0 d1 mv cv R R3 t :=
  ⟨h.bD.no hf, h.bE.no hf, h.ne, h.sD, fun e => (h.pr e).no hf, h.rl.no hf⟩
theorem TurnI.set {w wr : World} {D E : Nat} {d0 d1 mv cv mv2 cv2 : Value} {R R2 R3 : Rl} {t : Nat} (h : TurnI w wr D E d0 d1 mv cv R R3 t) (hr : RlR wr mv2 cv2 R2) : TurnI w ((wr.setCell ⟨E, 0, none⟩ mv2).setCell ⟨E, 1, none⟩ cv2) D E d0 d1 mv2 cv2 R2 R3 t := by
  have hF : Frm (One E) wr ((wr.setCell ⟨E, 0, none⟩ mv2).setCell ⟨E, 1, none⟩ cv2) := (setCell_own _).then_ (setCell_own _)
  obtain ⟨ma, mc, ca, cc, rfl, rfl⟩ := h.rl.shapes
  have hns : ∀ (j : Nat) s, wr.cell? ⟨E, j, none⟩ ≠ some (.string s) := fun j s e => noStr2 ⟨_, _, _, rfl⟩ ⟨_, _, _, rfl⟩ j s (by rw [← h.bE.cell j]; exact e)
  refine ⟨(h.bD.setOther h.bE.hC h.ne 0 mv2).setOther h.bE.hC h.ne 1 cv2, ?_, h.ne, h.sD, fun e => (h.pr e).box hns hF, hr.box hns hF⟩
  have := (h.bE.set 0 (by simp) mv2).set 1 (by simp) cv2
  simpa using this
/-- A block that holds two lists was written to. -/
theorem TurnI.other {w wr : World} {D E G : Nat} {d0 d1 mv cv a b a2 b2 : Value} {R R3 : Rl} {t : Nat} (h : TurnI w wr D E d0 d1 mv cv R R3 t) (hG : Box w wr G [a, b]) (ha : ∃ x n c, a = .slice x n c) (hb : ∃ x n c, b = .slice x n c) (h1 : D ≠ G) (h2 : E ≠ G) : TurnI w ((wr.setCell ⟨G, 0, none⟩ a2).setCell ⟨G, 1, none⟩ b2) D E d0 d1 mv cv R R3 t := by
  have hF : Frm (One G) wr ((wr.setCell ⟨G, 0, none⟩ a2).setCell ⟨G, 1, none⟩ b2) := (setCell_own _).then_ (setCell_own _)
  have hns : ∀ (j : Nat) s, wr.cell? ⟨G, j, none⟩ ≠ some (.string s) := fun j s e => noStr2 ha hb j s (by rw [← hG.cell j]; exact e)
  exact ⟨(h.bD.setOther hG.hC h1 0 a2).setOther hG.hC h1 1 b2, (h.bE.setOther hG.hC h2 0 a2).setOther hG.hC h2 1 b2, h.ne, h.sD, fun e => (h.pr e).box hns hF, h.rl.box hns hF⟩
theorem RlR.other {w wr : World} {G : Nat} {mv cv a b a2 b2 : Value} {R : Rl} (h : RlR wr mv cv R) (hG : Box w wr G [a, b]) (ha : ∃ x n c, a = .slice x n c) (hb : ∃ x n c, b = .slice x n c) : RlR ((wr.setCell ⟨G, 0, none⟩ a2).setCell ⟨G, 1, none⟩ b2) mv cv R :=
  h.box (fun j s e => noStr2 ha hb j s (by rw [← hG.cell j]; exact e)) ((setCell_own _).then_ (setCell_own _))
theorem stepT_inv {R : Rl} (h : Inv R) (p : Nat) (a : B × B) : Inv (doT p R a).1 := by
  unfold doT
  split
  · exact inv_enrol h _ _
  · split
    · exact inv_open h _ _
    · exact inv_join h _ _

set_option maxRecDepth 100000 in
set_option maxHeartbeats 8000000 in
theorem walk (v : Value) (asks : List (Int × Int)) (w : World) (hr : RdL w v 2 pairV asks) (hal : asks.length ≤ maxLen) (_hg : ∀ y ∈ asks, Fits y.1 ∧ Fits y.2) :
    Calls Try.prog 3 #[v] w fun e w' => e = .returned (.bool true) ∧ Frm No w w' := by
  unfold maxLen at hal
  obtain ⟨ao, cp, rfl⟩ := hr.shape
  obtain ⟨n, hn⟩ : ∃ n, min asks.length 20 = n := ⟨_, rfl⟩
  have HN := hid hn
  have hn20 : n ≤ 20 := by omega
  have hna : n ≤ asks.length := by omega
  have hmin : min (asks.length : Int) 20 = (n : Int) := by omega
  have HR := hid hr
  have HE := hid (fun w1 mv cv R x (hr : RlR w1 mv cv R) (hI : Inv R) (hx : IsX x) => renrol_any R mv cv x 1 w1 hr hI (by obtain ⟨k, -, rfl⟩ := hx; simp [nx]))
  have HO := hid (fun w1 mv cv R c (hr : RlR w1 mv cv R) (hI : Inv R) (hc : IsC c) => ropen_any R mv cv c tt w1 hr hI (by obtain ⟨k, -, rfl⟩ := hc; simp [nc]))
  have HJ := hid (fun w1 mv cv R c x (hr : RlR w1 mv cv R) (hI : Inv R) => rjoin_any R mv cv c x w1 hr hI)
  have H0 := hid (fun w1 => renrol_any Roll.nil (.slice none 0 0) (.slice none 0 0) [116] 2 w1 (nil_rd w1) inv_nil (by decide))
  have hc1 := fun (W : World) (x : Int) => conv_one (P := Try.prog) W Try.underlying33 Try.underlying5 Try.underlying9 x
  have hc2 := fun (W : World) (x y : Int) => conv_two (P := Try.prog) W Try.underlying33 Try.underlying5 Try.underlying9 x y
  have e0 : enrol Roll.nil [116] 2 = (R0, 0) := by kernel_rfl
  simp only [e0] at H0
  obtain ⟨al, hale⟩ : ∃ al, asks.length = al := ⟨_, rfl⟩
  have HAL := hid hale
  simp only [hale] at hal hna hmin ⊢
  clear hn hr e0 hale
  go_enter Try.func3, Try.ntmps3
  go_upto_region 4 with (go_at_call 7; refine (rollspeaks _).mono ?_; rintro e w1 ⟨rfl, hf1⟩)
  have BD := Box.new hf1 [.slice none 0 0, .slice none 0 0, .slice none 0 0, .slice none 0 0] 28
  obtain ⟨W, hW⟩ : ∃ W, W = w1.alloc (.cells #[.slice none 0 0, .slice none 0 0, .slice none 0 0, .slice none 0 0] 28) := ⟨_, rfl⟩
  rw [← hW] at BD ⊢
  clear hW
  obtain ⟨D, hD⟩ : ∃ D, w1.heap.size = D := ⟨_, rfl⟩
  rw [hD] at BD
  (try simp only [hD])
  clear hD hf1
  have HBD := hid BD
  clear BD
  go_wp2_with fail
  go_loopw [4, 5, 6, 7, 8, 9, 10, 11, 12, 13] (fun t _ _ _ _ _ _ _ _ _ wr => ∃ (k : Nat) (d0 d1 d2 d3 : Value), k ≤ 2 ∧ t = .int .i64 (k : Int) ∧ Box w wr D [d0, d1, d2, d3] ∧ (1 ≤ k → RlR wr d0 d1 (passT (seqT asks 0) 3)) ∧ (2 ≤ k → RlR wr d2 d3 (passT (seqT asks 1) 3)) ∧ (k ≤ 1 → d2 = .slice none 0 0 ∧ d3 = .slice none 0 0) ∧ (k = 0 → d0 = .slice none 0 0 ∧ d1 = .slice none 0 0))
    (fun t _ _ _ _ _ _ _ _ _ _ => 2 - (intOf t).toNat)
  case atStart => exact ⟨0, _, _, _, _, by omega, rfl, HBD.out, by omega, by omega, fun _ => ⟨rfl, rfl⟩, fun _ => ⟨rfl, rfl⟩⟩
  case round =>
    clear HBD
    obtain ⟨t, d0, d1, d2, d3, ht, rfl, hB, hp0, hp1, hz, hz0⟩ := hrel
    by_cases ht2 : t < 2
    · as_aux_lemma =>
      obtain ⟨rfl, rfl⟩ := hz (by omega)
      have hsD : (∃ x n c, d0 = .slice x n c) ∧ ∃ x n c, d1 = .slice x n c := by
        by_cases h0 : t = 0
        · obtain ⟨rfl, rfl⟩ := hz0 h0
          exact ⟨⟨_, _, _, rfl⟩, ⟨_, _, _, rfl⟩⟩
        · obtain ⟨a, b, c, d, e1, e2⟩ := (hp0 (by omega)).shapes
          exact ⟨⟨_, _, _, e1⟩, ⟨_, _, _, e2⟩⟩
      have htz : (t : Int) < 2 := by omega
      have HB := hid hB
      have HP0 := hid hp0
      have HSD := hid hsD
      clear hB hp0 hp1 hz hz0 hsD
      go_upto_region 11 with (go_at_call 8; refine (H0.out _).mono ?_; rintro e w1 ⟨mv, cv, rfl, hr, hf1⟩; obtain ⟨ma, ml, mc, ca, cl, cc, rfl, rfl⟩ := hr.any)
      have hTI : TurnI w (w1.alloc (.cells #[.slice ma ml mc, .slice ca cl cc] 27)) D w1.heap.size d0 d1 (.slice ma ml mc) (.slice ca cl cc) R0 (passT (seqT asks 0) 3) t := by
        have hF := (Frm.refl No w1).alloc (.cells #[.slice ma ml mc, .slice ca cl cc] 27)
        have hl := (HB.out.no hf1).lC
        exact ⟨(HB.out.no hf1).no hF, Box.new (HB.out.no hf1).frm _ _, by omega, HSD.out, fun e => (HP0.out (by omega)).no (hf1.thenNo hF), hr.no hF⟩
      have HTI := hid hTI
      clear hTI hr HB HP0 HSD H0 hf1
      generalize w1.alloc (.cells #[.slice ma ml mc, .slice ca cl cc] 27) = WT at *
      obtain ⟨E, hE⟩ : ∃ E, w1.heap.size = E := ⟨_, rfl⟩
      rw [hE] at HTI
      (try rw [hE])
      clear hE
      obtain ⟨sq, hsq⟩ : ∃ sq, seqT asks t = sq := ⟨_, rfl⟩
      have hgd := seq_good asks t
      have hsl := seq_len asks t
      rw [HN.out] at hsl
      rw [hsq] at hgd hsl
      have HSQ := hid hsq
      have HGD := hid hgd
      have HSL := hid hsl
      clear hsq hgd hsl
      go_wp2_with fail
      go_loopw [6, 8, 9, 10, 11, 12, 13] (fun _ p _ _ _ _ _ wr => ∃ (q : Nat) (mv cv : Value), q ≤ 3 ∧ p = .int .i64 (q : Int) ∧ TurnI w wr D E d0 d1 mv cv (passT sq q) (passT (seqT asks 0) 3) t)
        (fun _ p _ _ _ _ _ _ => 3 - (intOf p).toNat)
      case atStart => exact ⟨0, _, _, by omega, rfl, HTI.out⟩
      case round =>
        clear HTI
        obtain ⟨q, mv, cv, hq, rfl, hT⟩ := hrel
        by_cases hq3 : q < 3
        · as_aux_lemma =>
          have HT := hid hT
          have hqz : (q : Int) < 3 := by omega
          clear hT
          go_wp2_with fail
          go_loopw [6, 9, 10, 11, 12, 13] (fun _ i _ _ _ _ wr => ∃ (k : Nat) (mv cv : Value), k ≤ n ∧ i = .int .i64 (k : Int) ∧ TurnI w wr D E d0 d1 mv cv (rollT q (passT sq q) (sq.take k)) (passT (seqT asks 0) 3) t)
            (fun _ i _ _ _ _ _ => n - (intOf i).toNat)
          case atStart => exact ⟨0, _, _, by omega, rfl, HT.out⟩
          case round =>
            clear HT
            obtain ⟨k, mv, cv, hk, rfl, hT⟩ := hrel
            by_cases hkn : k < n
            · have hkl : k < sq.length := by rw [HSL.out]; exact hkn
              have hat : atT n t k < al := by unfold atT; split <;> omega
              obtain ⟨b, o, rfl, hc⟩ := HR.out.at_ (by rw [HAL.out]; omega)
              have hqa := hc (atT n t k) (by rw [HAL.out]; exact hat)
              have hsk : sq[k] = (nx (k9 (asks[atT n t k]'(by rw [HAL.out]; exact hat)).1), nc (k4 (asks[atT n t k]'(by rw [HAL.out]; exact hat)).2)) := by
                have hkl2 : k < (seqT asks t).length := by rw [HSQ.out]; exact hkl
                have := seq_at asks t k hkl2 (by rw [HN.out, HAL.out]; exact hat)
                simp only [HSQ.out, HN.out] at this
                exact this
              obtain ⟨pr, hpr⟩ : ∃ pr, asks[atT n t k]'(by rw [HAL.out]; exact hat) = pr := ⟨_, rfl⟩
              simp only [hpr] at hqa hsk
              have q0 : w.cell? ⟨b, o + atT n t k * 2, none⟩ = some (.int .i64 pr.1) := hqa 0 (by omega)
              have q1 : w.cell? ⟨b, o + (atT n t k * 2 + 1), none⟩ = some (.int .i64 pr.2) := hqa 1 (by omega)
              have hbl : b < w.heap.size := World.block_lt_of_cell? w _ q0
              have hok := pass_ok HGD.out q k hq3 hkl
              have hinv := pass_inv HGD.out q k hq3
              have hsnoc := rollT_snoc q (passT sq q) sq k hkl
              have hgk := HGD.out sq[k] (List.getElem_mem hkl)
              rw [hsk] at hok hsnoc hgk
              obtain ⟨px, py⟩ := pr
              dsimp only at hok hsnoc hgk q0 q1
              obtain ⟨h9, -⟩ := k9_is px
              obtain ⟨h4, -⟩ := k4_is py
              have h9l := (k9_is px).2
              have h4l := (k4_is py).2
              generalize k9 px = j9 at *
              generalize k4 py = j4 at *
              have HOK := hid hok
              have HINV := hid hinv
              have HSN := hid hsnoc
              have HGK := hid hgk
              have HT := hid hT
              have Hq0 := hid (fun w' (hf : Frm No w w') => (hf.cell (p := ⟨b, o + atT n t k * 2, none⟩) hbl (fun h => h)).trans q0)
              have Hq1 := hid (fun w' (hf : Frm No w w') => (hf.cell (p := ⟨b, o + (atT n t k * 2 + 1), none⟩) hbl (fun h => h)).trans q1)
              have hkz : (k : Int) < (n : Int) := by omega
              clear hok hinv hsnoc hgk hT hqa hc q0 q1 hsk hpr HSQ HGD HR
              obtain ⟨Rk, hRk⟩ : ∃ Rk, rollT q (passT sq q) (sq.take k) = Rk := ⟨_, rfl⟩
              simp only [hRk] at HOK HINV HSN HT
              clear hRk
              have q0 := Hq0.out wr HT.out.bE.frm
              have q1 := Hq1.out (wr.alloc (.cells #[.int .u8 (97 + (j9 : Int))] 5)) ((HT.out.bE.frm).alloc _)
              simp only [← Nat.add_assoc] at q1
              have hc2' := hc2 (wr.alloc (.cells #[.int .u8 (97 + (j9 : Int))] 5)) 99 (48 + (j4 : Int))
              rw [World.size_alloc] at hc2'
              have hw97 : IntKind.u8.wrap (97 + (j9 : Int)) = 97 + (j9 : Int) := by rw [IntKind.wrap_u8]; omega
              have hw48 : IntKind.u8.wrap (48 + (j4 : Int)) = 48 + (j4 : Int) := by rw [IntKind.wrap_u8]; omega
              have hatl : (atT n t k : Int) < (al : Int) := by omega
              rcases (show t = 0 ∨ t = 1 by omega) with ht0 | ht0
              · have ha : atT n t k = k := by rw [ht0]; rfl
                have htb : ((t : Int) == 1) = false := by rw [ht0]; rfl
                have HT0 := hid ht0
                clear ht0
                rw [ha] at q0 q1 hat hatl
                go_upto_region 22 with fail
                have hx9 : (⟨#[UInt8.ofNat (97 + j9)]⟩ : ByteArray) = ⟨(nx j9).toArray⟩ := rfl
                have hc4 : (⟨#[99, UInt8.ofNat (48 + j4)]⟩ : ByteArray) = ⟨(nc j4).toArray⟩ := rfl
                rw [hx9, hc4]
                clear hx9 hc4
                generalize nx j9 = X9 at *
                generalize nc j4 = C4 at *
                have hTQ := HT.out.no (((Frm.refl No wr).alloc (.cells #[.int .u8 (97 + (j9 : Int))] 5)).alloc (.cells #[.int .u8 99, .int .u8 (48 + (j4 : Int))] 5))
                generalize (wr.alloc (.cells #[.int .u8 (97 + (j9 : Int))] 5)).alloc (.cells #[.int .u8 99, .int .u8 (48 + (j4 : Int))] 5) = WQ at *
                clear q0 q1 hc2' hw97 hw48 hc1 hc2
                have hTZ := hTQ.no ((Frm.refl No WQ).alloc (.cells #[.slice none 0 0, .slice none 0 0] 27))
                have HBG := hid (Box.new hTQ.bE.frm [.slice none 0 0, .slice none 0 0] 27)
                have hDl := hTQ.bD.lC
                have hEl := hTQ.bE.lC
                have hDG : D ≠ WQ.heap.size := by omega
                have hEG : E ≠ WQ.heap.size := by omega
                have hGE : WQ.heap.size ≠ E := by omega
                clear hDl hEl hTQ
                obtain ⟨mva, mvl, mvc, cva, cvl, cvc, rfl, rfl⟩ := HT.out.rl.any
                clear HT Hq0 Hq1
                go_upto_region 23 with fail
                obtain ⟨WZ, hWZ⟩ : ∃ WZ, WZ = WQ.alloc (.cells #[.slice none 0 0, .slice none 0 0] 27) := ⟨_, rfl⟩
                have hWZ2 : WZ = WQ.alloc (.cells ([.slice none 0 0, .slice none 0 0] : List Value).toArray 27) := hWZ
                rw [← hWZ] at hTZ ⊢
                rw [← hWZ2] at HBG
                clear hWZ hWZ2
                obtain ⟨G, hG⟩ : ∃ G, WQ.heap.size = G := ⟨_, rfl⟩
                rw [hG] at HBG hDG hEG hGE
                (try simp only [hG])
                clear hG
                rcases (show q = 0 ∨ q = 1 ∨ q = 2 by omega) with hq0 | hq0 | hq0
                · rcases HOK.out with hcode | hcode
                  · as_aux_lemma =>
                    have hdo : doT q Rk (X9, C4) = enrol Rk X9 1 := by rw [hq0]; rfl
                    have hcd := hcode
                    rw [hdo] at hcd
                    have hb0 : ((q : Int) == 0) = true := by rw [hq0]; rfl
                    have HCALL : Hid (Calls Try.prog 8 #[.agg #[.slice mva mvl mvc, .slice cva cvl cvc], .string ⟨X9.toArray⟩, .int .i64 1] WZ fun e w' => ∃ mv' cv', e = .returned (.tuple #[.agg #[mv', cv'], .int .i64 0]) ∧ RlR w' mv' cv' (doT q Rk (X9, C4)).1 ∧ Frm No WZ w') := hid ((HE.out WZ _ _ Rk X9 hTZ.rl HINV.out HGK.out.1).mono fun e w' ⟨mv', cv', h1, h2, h3⟩ => ⟨mv', cv', h1.trans (congrArg (fun c => Ending.returned (.tuple #[.agg #[mv', cv'], .int .i64 c])) hcd), by rw [hdo]; exact h2, h3⟩)
                    have HNX : Hid (nextT q Rk (X9, C4) = (doT q Rk (X9, C4)).1) := hid (by unfold nextT; rw [if_pos hcode])
                    have HTZ := hid hTZ
                    have cE := hTZ.bE.cell
                    clear hTZ hcode hcd hdo hq0 HOK HGK HINV HE HO HJ
                    go_wp2_with (go_at_call 8; refine HCALL.out.mono ?_; rintro e w5 ⟨mv2, cv2, rfl, hr2, hf5⟩; obtain ⟨a2, l2, c2, a3, l3, c3, rfl, rfl⟩ := hr2.any; have bG5 := HBG.out.no hf5; have cG := bG5.cell; have fG := bG5.fr; have hT5 := HTZ.out.no hf5; have cE5 := hT5.bE.cell; have fE5 := hT5.bE.fr)
                    have hT6 := TurnI.other hT5 (a2 := .slice a2 l2 c2) (b2 := .slice a3 l3 c3) bG5 ⟨_, _, _, rfl⟩ ⟨_, _, _, rfl⟩ hDG hEG
                    have hr6 := RlR.other hr2 (a2 := .slice a2 l2 c2) (b2 := .slice a3 l3 c3) bG5 ⟨_, _, _, rfl⟩ ⟨_, _, _, rfl⟩
                    have hT7 := hT6.set hr6
                    exact ⟨⟨k + 1, _, _, by omega, by go_num, by rw [HSN.out, HNX.out]; exact hT7⟩, by simp only [intOf]; omega⟩
                  · as_aux_lemma =>
                    have hdo : doT q Rk (X9, C4) = enrol Rk X9 1 := by rw [hq0]; rfl
                    have hcd := hcode
                    rw [hdo] at hcd
                    have hb0 : ((q : Int) == 0) = true := by rw [hq0]; rfl
                    have HCALL : Hid (Calls Try.prog 8 #[.agg #[.slice mva mvl mvc, .slice cva cvl cvc], .string ⟨X9.toArray⟩, .int .i64 1] WZ fun e w' => ∃ mv' cv', e = .returned (.tuple #[.agg #[mv', cv'], .int .i64 9]) ∧ RlR w' mv' cv' (doT q Rk (X9, C4)).1 ∧ Frm No WZ w') := hid ((HE.out WZ _ _ Rk X9 hTZ.rl HINV.out HGK.out.1).mono fun e w' ⟨mv', cv', h1, h2, h3⟩ => ⟨mv', cv', h1.trans (congrArg (fun c => Ending.returned (.tuple #[.agg #[mv', cv'], .int .i64 c])) hcd), by rw [hdo]; exact h2, h3⟩)
                    have HNX : Hid (nextT q Rk (X9, C4) = Rk) := hid (by unfold nextT; rw [if_neg (by rw [hcode]; decide)])
                    have HTZ := hid hTZ
                    have cE := hTZ.bE.cell
                    clear hTZ hcode hcd hdo hq0 HOK HGK HINV HE HO HJ
                    go_wp2_with (go_at_call 8; refine HCALL.out.mono ?_; rintro e w5 ⟨mv2, cv2, rfl, hr2, hf5⟩; obtain ⟨a2, l2, c2, a3, l3, c3, rfl, rfl⟩ := hr2.any; have bG5 := HBG.out.no hf5; have cG := bG5.cell; have fG := bG5.fr; have hT5 := HTZ.out.no hf5; have cE5 := hT5.bE.cell; have fE5 := hT5.bE.fr)
                    have hT6 := TurnI.other hT5 (a2 := .slice a2 l2 c2) (b2 := .slice a3 l3 c3) bG5 ⟨_, _, _, rfl⟩ ⟨_, _, _, rfl⟩ hDG hEG
                    exact ⟨⟨k + 1, _, _, by omega, by go_num, by rw [HSN.out, HNX.out]; exact hT6⟩, by simp only [intOf]; omega⟩
                · rcases HOK.out with hcode | hcode
                  · as_aux_lemma =>
                    have hdo : doT q Rk (X9, C4) = open_ Rk C4 tt := by rw [hq0]; rfl
                    have hcd := hcode
                    rw [hdo] at hcd
                    have hb0 : ((q : Int) == 0) = false := by rw [hq0]; rfl
                    have hb1 : ((q : Int) == 1) = true := by rw [hq0]; rfl
                    have HCALL : Hid (Calls Try.prog 9 #[.agg #[.slice mva mvl mvc, .slice cva cvl cvc], .string ⟨C4.toArray⟩, .string ⟨tt.toArray⟩] WZ fun e w' => ∃ mv' cv', e = .returned (.tuple #[.agg #[mv', cv'], .int .i64 0]) ∧ RlR w' mv' cv' (doT q Rk (X9, C4)).1 ∧ Frm No WZ w') := hid ((HO.out WZ _ _ Rk C4 hTZ.rl HINV.out HGK.out.2).mono fun e w' ⟨mv', cv', h1, h2, h3⟩ => ⟨mv', cv', h1.trans (congrArg (fun c => Ending.returned (.tuple #[.agg #[mv', cv'], .int .i64 c])) hcd), by rw [hdo]; exact h2, h3⟩)
                    have HNX : Hid (nextT q Rk (X9, C4) = (doT q Rk (X9, C4)).1) := hid (by unfold nextT; rw [if_pos hcode])
                    have HTZ := hid hTZ
                    have cE := hTZ.bE.cell
                    clear hTZ hcode hcd hdo hq0 HOK HGK HINV HE HO HJ
                    go_wp2_with (go_at_call 9; refine HCALL.out.mono ?_; rintro e w5 ⟨mv2, cv2, rfl, hr2, hf5⟩; obtain ⟨a2, l2, c2, a3, l3, c3, rfl, rfl⟩ := hr2.any; have bG5 := HBG.out.no hf5; have cG := bG5.cell; have fG := bG5.fr; have hT5 := HTZ.out.no hf5; have cE5 := hT5.bE.cell; have fE5 := hT5.bE.fr)
                    have hT6 := TurnI.other hT5 (a2 := .slice a2 l2 c2) (b2 := .slice a3 l3 c3) bG5 ⟨_, _, _, rfl⟩ ⟨_, _, _, rfl⟩ hDG hEG
                    have hr6 := RlR.other hr2 (a2 := .slice a2 l2 c2) (b2 := .slice a3 l3 c3) bG5 ⟨_, _, _, rfl⟩ ⟨_, _, _, rfl⟩
                    have hT7 := hT6.set hr6
                    exact ⟨⟨k + 1, _, _, by omega, by go_num, by rw [HSN.out, HNX.out]; exact hT7⟩, by simp only [intOf]; omega⟩
                  · as_aux_lemma =>
                    have hdo : doT q Rk (X9, C4) = open_ Rk C4 tt := by rw [hq0]; rfl
                    have hcd := hcode
                    rw [hdo] at hcd
                    have hb0 : ((q : Int) == 0) = false := by rw [hq0]; rfl
                    have hb1 : ((q : Int) == 1) = true := by rw [hq0]; rfl
                    have HCALL : Hid (Calls Try.prog 9 #[.agg #[.slice mva mvl mvc, .slice cva cvl cvc], .string ⟨C4.toArray⟩, .string ⟨tt.toArray⟩] WZ fun e w' => ∃ mv' cv', e = .returned (.tuple #[.agg #[mv', cv'], .int .i64 9]) ∧ RlR w' mv' cv' (doT q Rk (X9, C4)).1 ∧ Frm No WZ w') := hid ((HO.out WZ _ _ Rk C4 hTZ.rl HINV.out HGK.out.2).mono fun e w' ⟨mv', cv', h1, h2, h3⟩ => ⟨mv', cv', h1.trans (congrArg (fun c => Ending.returned (.tuple #[.agg #[mv', cv'], .int .i64 c])) hcd), by rw [hdo]; exact h2, h3⟩)
                    have HNX : Hid (nextT q Rk (X9, C4) = Rk) := hid (by unfold nextT; rw [if_neg (by rw [hcode]; decide)])
                    have HTZ := hid hTZ
                    have cE := hTZ.bE.cell
                    clear hTZ hcode hcd hdo hq0 HOK HGK HINV HE HO HJ
                    go_wp2_with (go_at_call 9; refine HCALL.out.mono ?_; rintro e w5 ⟨mv2, cv2, rfl, hr2, hf5⟩; obtain ⟨a2, l2, c2, a3, l3, c3, rfl, rfl⟩ := hr2.any; have bG5 := HBG.out.no hf5; have cG := bG5.cell; have fG := bG5.fr; have hT5 := HTZ.out.no hf5; have cE5 := hT5.bE.cell; have fE5 := hT5.bE.fr)
                    have hT6 := TurnI.other hT5 (a2 := .slice a2 l2 c2) (b2 := .slice a3 l3 c3) bG5 ⟨_, _, _, rfl⟩ ⟨_, _, _, rfl⟩ hDG hEG
                    exact ⟨⟨k + 1, _, _, by omega, by go_num, by rw [HSN.out, HNX.out]; exact hT6⟩, by simp only [intOf]; omega⟩
                · rcases HOK.out with hcode | hcode
                  · as_aux_lemma =>
                    have hdo : doT q Rk (X9, C4) = join Rk C4 X9 := by rw [hq0]; rfl
                    have hcd := hcode
                    rw [hdo] at hcd
                    have hb0 : ((q : Int) == 0) = false := by rw [hq0]; rfl
                    have hb1 : ((q : Int) == 1) = false := by rw [hq0]; rfl
                    have HCALL : Hid (Calls Try.prog 10 #[.agg #[.slice mva mvl mvc, .slice cva cvl cvc], .string ⟨C4.toArray⟩, .string ⟨X9.toArray⟩] WZ fun e w' => ∃ mv' cv', e = .returned (.tuple #[.agg #[mv', cv'], .int .i64 0]) ∧ RlR w' mv' cv' (doT q Rk (X9, C4)).1 ∧ Frm No WZ w') := hid ((HJ.out WZ _ _ Rk C4 X9 hTZ.rl HINV.out).mono fun e w' ⟨mv', cv', h1, h2, h3⟩ => ⟨mv', cv', h1.trans (congrArg (fun c => Ending.returned (.tuple #[.agg #[mv', cv'], .int .i64 c])) hcd), by rw [hdo]; exact h2, h3⟩)
                    have HNX : Hid (nextT q Rk (X9, C4) = (doT q Rk (X9, C4)).1) := hid (by unfold nextT; rw [if_pos hcode])
                    have HTZ := hid hTZ
                    have cE := hTZ.bE.cell
                    clear hTZ hcode hcd hdo hq0 HOK HGK HINV HE HO HJ
                    go_wp2_with (go_at_call 10; refine HCALL.out.mono ?_; rintro e w5 ⟨mv2, cv2, rfl, hr2, hf5⟩; obtain ⟨a2, l2, c2, a3, l3, c3, rfl, rfl⟩ := hr2.any; have bG5 := HBG.out.no hf5; have cG := bG5.cell; have fG := bG5.fr; have hT5 := HTZ.out.no hf5; have cE5 := hT5.bE.cell; have fE5 := hT5.bE.fr)
                    have hT6 := TurnI.other hT5 (a2 := .slice a2 l2 c2) (b2 := .slice a3 l3 c3) bG5 ⟨_, _, _, rfl⟩ ⟨_, _, _, rfl⟩ hDG hEG
                    have hr6 := RlR.other hr2 (a2 := .slice a2 l2 c2) (b2 := .slice a3 l3 c3) bG5 ⟨_, _, _, rfl⟩ ⟨_, _, _, rfl⟩
                    have hT7 := hT6.set hr6
                    exact ⟨⟨k + 1, _, _, by omega, by go_num, by rw [HSN.out, HNX.out]; exact hT7⟩, by simp only [intOf]; omega⟩
                  · as_aux_lemma =>
                    have hdo : doT q Rk (X9, C4) = join Rk C4 X9 := by rw [hq0]; rfl
                    have hcd := hcode
                    rw [hdo] at hcd
                    have hb0 : ((q : Int) == 0) = false := by rw [hq0]; rfl
                    have hb1 : ((q : Int) == 1) = false := by rw [hq0]; rfl
                    have HCALL : Hid (Calls Try.prog 10 #[.agg #[.slice mva mvl mvc, .slice cva cvl cvc], .string ⟨C4.toArray⟩, .string ⟨X9.toArray⟩] WZ fun e w' => ∃ mv' cv', e = .returned (.tuple #[.agg #[mv', cv'], .int .i64 9]) ∧ RlR w' mv' cv' (doT q Rk (X9, C4)).1 ∧ Frm No WZ w') := hid ((HJ.out WZ _ _ Rk C4 X9 hTZ.rl HINV.out).mono fun e w' ⟨mv', cv', h1, h2, h3⟩ => ⟨mv', cv', h1.trans (congrArg (fun c => Ending.returned (.tuple #[.agg #[mv', cv'], .int .i64 c])) hcd), by rw [hdo]; exact h2, h3⟩)
                    have HNX : Hid (nextT q Rk (X9, C4) = Rk) := hid (by unfold nextT; rw [if_neg (by rw [hcode]; decide)])
                    have HTZ := hid hTZ
                    have cE := hTZ.bE.cell
                    clear hTZ hcode hcd hdo hq0 HOK HGK HINV HE HO HJ
                    go_wp2_with (go_at_call 10; refine HCALL.out.mono ?_; rintro e w5 ⟨mv2, cv2, rfl, hr2, hf5⟩; obtain ⟨a2, l2, c2, a3, l3, c3, rfl, rfl⟩ := hr2.any; have bG5 := HBG.out.no hf5; have cG := bG5.cell; have fG := bG5.fr; have hT5 := HTZ.out.no hf5; have cE5 := hT5.bE.cell; have fE5 := hT5.bE.fr)
                    have hT6 := TurnI.other hT5 (a2 := .slice a2 l2 c2) (b2 := .slice a3 l3 c3) bG5 ⟨_, _, _, rfl⟩ ⟨_, _, _, rfl⟩ hDG hEG
                    exact ⟨⟨k + 1, _, _, by omega, by go_num, by rw [HSN.out, HNX.out]; exact hT6⟩, by simp only [intOf]; omega⟩
              · have ha : atT n t k = n - 1 - k := by rw [ht0]; rfl
                have htb : ((t : Int) == 1) = true := by rw [ht0]; rfl
                have HT0 := hid ht0
                clear ht0
                have hz : (n : Int) - 1 - (k : Int) = ((n - 1 - k : Nat) : Int) := by omega
                rw [ha] at q0 q1 hat hatl
                go_upto_region 22 with fail
                clear hz
                have hx9 : (⟨#[UInt8.ofNat (97 + j9)]⟩ : ByteArray) = ⟨(nx j9).toArray⟩ := rfl
                have hc4 : (⟨#[99, UInt8.ofNat (48 + j4)]⟩ : ByteArray) = ⟨(nc j4).toArray⟩ := rfl
                rw [hx9, hc4]
                clear hx9 hc4
                generalize nx j9 = X9 at *
                generalize nc j4 = C4 at *
                have hTQ := HT.out.no (((Frm.refl No wr).alloc (.cells #[.int .u8 (97 + (j9 : Int))] 5)).alloc (.cells #[.int .u8 99, .int .u8 (48 + (j4 : Int))] 5))
                generalize (wr.alloc (.cells #[.int .u8 (97 + (j9 : Int))] 5)).alloc (.cells #[.int .u8 99, .int .u8 (48 + (j4 : Int))] 5) = WQ at *
                clear q0 q1 hc2' hw97 hw48 hc1 hc2
                have hTZ := hTQ.no ((Frm.refl No WQ).alloc (.cells #[.slice none 0 0, .slice none 0 0] 27))
                have HBG := hid (Box.new hTQ.bE.frm [.slice none 0 0, .slice none 0 0] 27)
                have hDl := hTQ.bD.lC
                have hEl := hTQ.bE.lC
                have hDG : D ≠ WQ.heap.size := by omega
                have hEG : E ≠ WQ.heap.size := by omega
                have hGE : WQ.heap.size ≠ E := by omega
                clear hDl hEl hTQ
                obtain ⟨mva, mvl, mvc, cva, cvl, cvc, rfl, rfl⟩ := HT.out.rl.any
                clear HT Hq0 Hq1
                go_upto_region 23 with fail
                obtain ⟨WZ, hWZ⟩ : ∃ WZ, WZ = WQ.alloc (.cells #[.slice none 0 0, .slice none 0 0] 27) := ⟨_, rfl⟩
                have hWZ2 : WZ = WQ.alloc (.cells ([.slice none 0 0, .slice none 0 0] : List Value).toArray 27) := hWZ
                rw [← hWZ] at hTZ ⊢
                rw [← hWZ2] at HBG
                clear hWZ hWZ2
                obtain ⟨G, hG⟩ : ∃ G, WQ.heap.size = G := ⟨_, rfl⟩
                rw [hG] at HBG hDG hEG hGE
                (try simp only [hG])
                clear hG
                rcases (show q = 0 ∨ q = 1 ∨ q = 2 by omega) with hq0 | hq0 | hq0
                · rcases HOK.out with hcode | hcode
                  · as_aux_lemma =>
                    have hdo : doT q Rk (X9, C4) = enrol Rk X9 1 := by rw [hq0]; rfl
                    have hcd := hcode
                    rw [hdo] at hcd
                    have hb0 : ((q : Int) == 0) = true := by rw [hq0]; rfl
                    have HCALL : Hid (Calls Try.prog 8 #[.agg #[.slice mva mvl mvc, .slice cva cvl cvc], .string ⟨X9.toArray⟩, .int .i64 1] WZ fun e w' => ∃ mv' cv', e = .returned (.tuple #[.agg #[mv', cv'], .int .i64 0]) ∧ RlR w' mv' cv' (doT q Rk (X9, C4)).1 ∧ Frm No WZ w') := hid ((HE.out WZ _ _ Rk X9 hTZ.rl HINV.out HGK.out.1).mono fun e w' ⟨mv', cv', h1, h2, h3⟩ => ⟨mv', cv', h1.trans (congrArg (fun c => Ending.returned (.tuple #[.agg #[mv', cv'], .int .i64 c])) hcd), by rw [hdo]; exact h2, h3⟩)
                    have HNX : Hid (nextT q Rk (X9, C4) = (doT q Rk (X9, C4)).1) := hid (by unfold nextT; rw [if_pos hcode])
                    have HTZ := hid hTZ
                    have cE := hTZ.bE.cell
                    clear hTZ hcode hcd hdo hq0 HOK HGK HINV HE HO HJ
                    go_wp2_with (go_at_call 8; refine HCALL.out.mono ?_; rintro e w5 ⟨mv2, cv2, rfl, hr2, hf5⟩; obtain ⟨a2, l2, c2, a3, l3, c3, rfl, rfl⟩ := hr2.any; have bG5 := HBG.out.no hf5; have cG := bG5.cell; have fG := bG5.fr; have hT5 := HTZ.out.no hf5; have cE5 := hT5.bE.cell; have fE5 := hT5.bE.fr)
                    have hT6 := TurnI.other hT5 (a2 := .slice a2 l2 c2) (b2 := .slice a3 l3 c3) bG5 ⟨_, _, _, rfl⟩ ⟨_, _, _, rfl⟩ hDG hEG
                    have hr6 := RlR.other hr2 (a2 := .slice a2 l2 c2) (b2 := .slice a3 l3 c3) bG5 ⟨_, _, _, rfl⟩ ⟨_, _, _, rfl⟩
                    have hT7 := hT6.set hr6
                    exact ⟨⟨k + 1, _, _, by omega, by go_num, by rw [HSN.out, HNX.out]; exact hT7⟩, by simp only [intOf]; omega⟩
                  · as_aux_lemma =>
                    have hdo : doT q Rk (X9, C4) = enrol Rk X9 1 := by rw [hq0]; rfl
                    have hcd := hcode
                    rw [hdo] at hcd
                    have hb0 : ((q : Int) == 0) = true := by rw [hq0]; rfl
                    have HCALL : Hid (Calls Try.prog 8 #[.agg #[.slice mva mvl mvc, .slice cva cvl cvc], .string ⟨X9.toArray⟩, .int .i64 1] WZ fun e w' => ∃ mv' cv', e = .returned (.tuple #[.agg #[mv', cv'], .int .i64 9]) ∧ RlR w' mv' cv' (doT q Rk (X9, C4)).1 ∧ Frm No WZ w') := hid ((HE.out WZ _ _ Rk X9 hTZ.rl HINV.out HGK.out.1).mono fun e w' ⟨mv', cv', h1, h2, h3⟩ => ⟨mv', cv', h1.trans (congrArg (fun c => Ending.returned (.tuple #[.agg #[mv', cv'], .int .i64 c])) hcd), by rw [hdo]; exact h2, h3⟩)
                    have HNX : Hid (nextT q Rk (X9, C4) = Rk) := hid (by unfold nextT; rw [if_neg (by rw [hcode]; decide)])
                    have HTZ := hid hTZ
                    have cE := hTZ.bE.cell
                    clear hTZ hcode hcd hdo hq0 HOK HGK HINV HE HO HJ
                    go_wp2_with (go_at_call 8; refine HCALL.out.mono ?_; rintro e w5 ⟨mv2, cv2, rfl, hr2, hf5⟩; obtain ⟨a2, l2, c2, a3, l3, c3, rfl, rfl⟩ := hr2.any; have bG5 := HBG.out.no hf5; have cG := bG5.cell; have fG := bG5.fr; have hT5 := HTZ.out.no hf5; have cE5 := hT5.bE.cell; have fE5 := hT5.bE.fr)
                    have hT6 := TurnI.other hT5 (a2 := .slice a2 l2 c2) (b2 := .slice a3 l3 c3) bG5 ⟨_, _, _, rfl⟩ ⟨_, _, _, rfl⟩ hDG hEG
                    exact ⟨⟨k + 1, _, _, by omega, by go_num, by rw [HSN.out, HNX.out]; exact hT6⟩, by simp only [intOf]; omega⟩
                · rcases HOK.out with hcode | hcode
                  · as_aux_lemma =>
                    have hdo : doT q Rk (X9, C4) = open_ Rk C4 tt := by rw [hq0]; rfl
                    have hcd := hcode
                    rw [hdo] at hcd
                    have hb0 : ((q : Int) == 0) = false := by rw [hq0]; rfl
                    have hb1 : ((q : Int) == 1) = true := by rw [hq0]; rfl
                    have HCALL : Hid (Calls Try.prog 9 #[.agg #[.slice mva mvl mvc, .slice cva cvl cvc], .string ⟨C4.toArray⟩, .string ⟨tt.toArray⟩] WZ fun e w' => ∃ mv' cv', e = .returned (.tuple #[.agg #[mv', cv'], .int .i64 0]) ∧ RlR w' mv' cv' (doT q Rk (X9, C4)).1 ∧ Frm No WZ w') := hid ((HO.out WZ _ _ Rk C4 hTZ.rl HINV.out HGK.out.2).mono fun e w' ⟨mv', cv', h1, h2, h3⟩ => ⟨mv', cv', h1.trans (congrArg (fun c => Ending.returned (.tuple #[.agg #[mv', cv'], .int .i64 c])) hcd), by rw [hdo]; exact h2, h3⟩)
                    have HNX : Hid (nextT q Rk (X9, C4) = (doT q Rk (X9, C4)).1) := hid (by unfold nextT; rw [if_pos hcode])
                    have HTZ := hid hTZ
                    have cE := hTZ.bE.cell
                    clear hTZ hcode hcd hdo hq0 HOK HGK HINV HE HO HJ
                    go_wp2_with (go_at_call 9; refine HCALL.out.mono ?_; rintro e w5 ⟨mv2, cv2, rfl, hr2, hf5⟩; obtain ⟨a2, l2, c2, a3, l3, c3, rfl, rfl⟩ := hr2.any; have bG5 := HBG.out.no hf5; have cG := bG5.cell; have fG := bG5.fr; have hT5 := HTZ.out.no hf5; have cE5 := hT5.bE.cell; have fE5 := hT5.bE.fr)
                    have hT6 := TurnI.other hT5 (a2 := .slice a2 l2 c2) (b2 := .slice a3 l3 c3) bG5 ⟨_, _, _, rfl⟩ ⟨_, _, _, rfl⟩ hDG hEG
                    have hr6 := RlR.other hr2 (a2 := .slice a2 l2 c2) (b2 := .slice a3 l3 c3) bG5 ⟨_, _, _, rfl⟩ ⟨_, _, _, rfl⟩
                    have hT7 := hT6.set hr6
                    exact ⟨⟨k + 1, _, _, by omega, by go_num, by rw [HSN.out, HNX.out]; exact hT7⟩, by simp only [intOf]; omega⟩
                  · as_aux_lemma =>
                    have hdo : doT q Rk (X9, C4) = open_ Rk C4 tt := by rw [hq0]; rfl
                    have hcd := hcode
                    rw [hdo] at hcd
                    have hb0 : ((q : Int) == 0) = false := by rw [hq0]; rfl
                    have hb1 : ((q : Int) == 1) = true := by rw [hq0]; rfl
                    have HCALL : Hid (Calls Try.prog 9 #[.agg #[.slice mva mvl mvc, .slice cva cvl cvc], .string ⟨C4.toArray⟩, .string ⟨tt.toArray⟩] WZ fun e w' => ∃ mv' cv', e = .returned (.tuple #[.agg #[mv', cv'], .int .i64 9]) ∧ RlR w' mv' cv' (doT q Rk (X9, C4)).1 ∧ Frm No WZ w') := hid ((HO.out WZ _ _ Rk C4 hTZ.rl HINV.out HGK.out.2).mono fun e w' ⟨mv', cv', h1, h2, h3⟩ => ⟨mv', cv', h1.trans (congrArg (fun c => Ending.returned (.tuple #[.agg #[mv', cv'], .int .i64 c])) hcd), by rw [hdo]; exact h2, h3⟩)
                    have HNX : Hid (nextT q Rk (X9, C4) = Rk) := hid (by unfold nextT; rw [if_neg (by rw [hcode]; decide)])
                    have HTZ := hid hTZ
                    have cE := hTZ.bE.cell
                    clear hTZ hcode hcd hdo hq0 HOK HGK HINV HE HO HJ
                    go_wp2_with (go_at_call 9; refine HCALL.out.mono ?_; rintro e w5 ⟨mv2, cv2, rfl, hr2, hf5⟩; obtain ⟨a2, l2, c2, a3, l3, c3, rfl, rfl⟩ := hr2.any; have bG5 := HBG.out.no hf5; have cG := bG5.cell; have fG := bG5.fr; have hT5 := HTZ.out.no hf5; have cE5 := hT5.bE.cell; have fE5 := hT5.bE.fr)
                    have hT6 := TurnI.other hT5 (a2 := .slice a2 l2 c2) (b2 := .slice a3 l3 c3) bG5 ⟨_, _, _, rfl⟩ ⟨_, _, _, rfl⟩ hDG hEG
                    exact ⟨⟨k + 1, _, _, by omega, by go_num, by rw [HSN.out, HNX.out]; exact hT6⟩, by simp only [intOf]; omega⟩
                · rcases HOK.out with hcode | hcode
                  · as_aux_lemma =>
                    have hdo : doT q Rk (X9, C4) = join Rk C4 X9 := by rw [hq0]; rfl
                    have hcd := hcode
                    rw [hdo] at hcd
                    have hb0 : ((q : Int) == 0) = false := by rw [hq0]; rfl
                    have hb1 : ((q : Int) == 1) = false := by rw [hq0]; rfl
                    have HCALL : Hid (Calls Try.prog 10 #[.agg #[.slice mva mvl mvc, .slice cva cvl cvc], .string ⟨C4.toArray⟩, .string ⟨X9.toArray⟩] WZ fun e w' => ∃ mv' cv', e = .returned (.tuple #[.agg #[mv', cv'], .int .i64 0]) ∧ RlR w' mv' cv' (doT q Rk (X9, C4)).1 ∧ Frm No WZ w') := hid ((HJ.out WZ _ _ Rk C4 X9 hTZ.rl HINV.out).mono fun e w' ⟨mv', cv', h1, h2, h3⟩ => ⟨mv', cv', h1.trans (congrArg (fun c => Ending.returned (.tuple #[.agg #[mv', cv'], .int .i64 c])) hcd), by rw [hdo]; exact h2, h3⟩)
                    have HNX : Hid (nextT q Rk (X9, C4) = (doT q Rk (X9, C4)).1) := hid (by unfold nextT; rw [if_pos hcode])
                    have HTZ := hid hTZ
                    have cE := hTZ.bE.cell
                    clear hTZ hcode hcd hdo hq0 HOK HGK HINV HE HO HJ
                    go_wp2_with (go_at_call 10; refine HCALL.out.mono ?_; rintro e w5 ⟨mv2, cv2, rfl, hr2, hf5⟩; obtain ⟨a2, l2, c2, a3, l3, c3, rfl, rfl⟩ := hr2.any; have bG5 := HBG.out.no hf5; have cG := bG5.cell; have fG := bG5.fr; have hT5 := HTZ.out.no hf5; have cE5 := hT5.bE.cell; have fE5 := hT5.bE.fr)
                    have hT6 := TurnI.other hT5 (a2 := .slice a2 l2 c2) (b2 := .slice a3 l3 c3) bG5 ⟨_, _, _, rfl⟩ ⟨_, _, _, rfl⟩ hDG hEG
                    have hr6 := RlR.other hr2 (a2 := .slice a2 l2 c2) (b2 := .slice a3 l3 c3) bG5 ⟨_, _, _, rfl⟩ ⟨_, _, _, rfl⟩
                    have hT7 := hT6.set hr6
                    exact ⟨⟨k + 1, _, _, by omega, by go_num, by rw [HSN.out, HNX.out]; exact hT7⟩, by simp only [intOf]; omega⟩
                  · as_aux_lemma =>
                    have hdo : doT q Rk (X9, C4) = join Rk C4 X9 := by rw [hq0]; rfl
                    have hcd := hcode
                    rw [hdo] at hcd
                    have hb0 : ((q : Int) == 0) = false := by rw [hq0]; rfl
                    have hb1 : ((q : Int) == 1) = false := by rw [hq0]; rfl
                    have HCALL : Hid (Calls Try.prog 10 #[.agg #[.slice mva mvl mvc, .slice cva cvl cvc], .string ⟨C4.toArray⟩, .string ⟨X9.toArray⟩] WZ fun e w' => ∃ mv' cv', e = .returned (.tuple #[.agg #[mv', cv'], .int .i64 9]) ∧ RlR w' mv' cv' (doT q Rk (X9, C4)).1 ∧ Frm No WZ w') := hid ((HJ.out WZ _ _ Rk C4 X9 hTZ.rl HINV.out).mono fun e w' ⟨mv', cv', h1, h2, h3⟩ => ⟨mv', cv', h1.trans (congrArg (fun c => Ending.returned (.tuple #[.agg #[mv', cv'], .int .i64 c])) hcd), by rw [hdo]; exact h2, h3⟩)
                    have HNX : Hid (nextT q Rk (X9, C4) = Rk) := hid (by unfold nextT; rw [if_neg (by rw [hcode]; decide)])
                    have HTZ := hid hTZ
                    have cE := hTZ.bE.cell
                    clear hTZ hcode hcd hdo hq0 HOK HGK HINV HE HO HJ
                    go_wp2_with (go_at_call 10; refine HCALL.out.mono ?_; rintro e w5 ⟨mv2, cv2, rfl, hr2, hf5⟩; obtain ⟨a2, l2, c2, a3, l3, c3, rfl, rfl⟩ := hr2.any; have bG5 := HBG.out.no hf5; have cG := bG5.cell; have fG := bG5.fr; have hT5 := HTZ.out.no hf5; have cE5 := hT5.bE.cell; have fE5 := hT5.bE.fr)
                    have hT6 := TurnI.other hT5 (a2 := .slice a2 l2 c2) (b2 := .slice a3 l3 c3) bG5 ⟨_, _, _, rfl⟩ ⟨_, _, _, rfl⟩ hDG hEG
                    exact ⟨⟨k + 1, _, _, by omega, by go_num, by rw [HSN.out, HNX.out]; exact hT6⟩, by simp only [intOf]; omega⟩
            · as_aux_lemma =>
              obtain rfl : n = k := by omega
              have htk : sq.take n = sq := by rw [← HSL.out, List.take_length]
              rw [htk] at hT
              have HT := hid hT
              clear hT
              go_wp2_with fail
              exact ⟨⟨q + 1, _, _, by omega, by go_num, HT.out⟩, by simp only [intOf]; omega⟩
        · as_aux_lemma =>
          obtain rfl : q = 3 := by omega
          have hTs := hT
          obtain ⟨mva, mvl, mvc, cva, cvl, cvc, rfl, rfl⟩ := hT.rl.any
          have cE := hT.bE.cell
          have cD := hT.bD.cell
          have fD := hT.bD.fr
          obtain ⟨⟨x0, n0, c0, rfl⟩, ⟨x1, n1, c1, rfl⟩⟩ := hT.sD
          have HT := hid hT
          clear hT hTs
          rcases (show t = 0 ∨ t = 1 by omega) with rfl | rfl
          · go_wp2_with fail
            have hF : Frm (One D) wr ((wr.setCell ⟨D, 0, none⟩ (.slice mva mvl mvc)).setCell ⟨D, 1, none⟩ (.slice cva cvl cvc)) := (setCell_own _).then_ (setCell_own _)
            have hns : ∀ (j : Nat) s, wr.cell? ⟨D, j, none⟩ ≠ some (.string s) := fun j s e => noStr4 ⟨_, _, _, rfl⟩ ⟨_, _, _, rfl⟩ ⟨_, _, _, rfl⟩ ⟨_, _, _, rfl⟩ j s (by rw [← HT.out.bD.cell j]; exact e)
            have hB2 := (HT.out.bD.set 0 (by simp) (.slice mva mvl mvc)).set 1 (by simp) (.slice cva cvl cvc)
            have hr2 := HT.out.rl.box hns hF
            rw [← HSQ.out] at hr2
            exact ⟨⟨1, _, _, _, _, by omega, by go_num, hB2, fun _ => hr2, fun h => by omega, fun _ => ⟨rfl, rfl⟩, fun h => by omega⟩, by simp only [intOf]; omega⟩
          · go_wp2_with fail
            have hF : Frm (One D) wr ((wr.setCell ⟨D, 2, none⟩ (.slice mva mvl mvc)).setCell ⟨D, 3, none⟩ (.slice cva cvl cvc)) := (setCell_own _).then_ (setCell_own _)
            have hns : ∀ (j : Nat) s, wr.cell? ⟨D, j, none⟩ ≠ some (.string s) := fun j s e => noStr4 ⟨_, _, _, rfl⟩ ⟨_, _, _, rfl⟩ ⟨_, _, _, rfl⟩ ⟨_, _, _, rfl⟩ j s (by rw [← HT.out.bD.cell j]; exact e)
            have hB2 := (HT.out.bD.set 2 (by simp) (.slice mva mvl mvc)).set 3 (by simp) (.slice cva cvl cvc)
            have hr2 := HT.out.rl.box hns hF
            have hr3 := (HT.out.pr rfl).box hns hF
            rw [← HSQ.out] at hr2
            exact ⟨⟨2, _, _, _, _, by omega, by go_num, hB2, fun _ => hr3, fun _ => hr2, fun h => by omega, fun h => by omega⟩, by simp only [intOf]; omega⟩
    · as_aux_lemma =>
      obtain rfl : t = 2 := by omega
      have hr0 := hp0 (by omega)
      have hr1 := hp1 (by omega)
      have hg0 := seq_good asks 0
      have hpt := pass_turned hg0
      have hinv := (pass3 hg0).inv
      have he : (seqT asks 0).reverse = seqT asks 1 := rfl
      rw [he] at hpt
      rw [← hpt] at hr1
      generalize passT (seqT asks 0) 3 = P at *
      obtain ⟨a0, l0, c0, a1, l1, c1, rfl, rfl⟩ := hr0.any
      obtain ⟨a2, l2, c2, a3, l3, c3, rfl, rfl⟩ := hr1.any
      have HP0 := hid (fun w' (hf : Frm No wr w') => rput_any P _ _ w' (hr0.no hf) hinv)
      have HP1 := hid (fun w' (hf : Frm No wr w') => rput_any P _ _ w' (hr1.no hf) hinv)
      have HBF := hid hB.frm
      have d0 := Wd.cell (hB.cell 0)
      have d1 := Wd.cell (hB.cell 1)
      have d2 := Wd.cell (hB.cell 2)
      have d3 := Wd.cell (hB.cell 3)
      clear hr0 hr1 hg0 hpt hinv he hB hp0 hp1 hz hz0 HE HO HJ H0 hc1 hc2 HR HN HAL
      generalize Roll.put P = pp at *
      go_upto_region 34 with fail
      refine wp_region_frm (by kernel_rfl) (by kernel_rfl) ?_
      iterate 3 (go_big_quiet_step (exact Calls.wd (HP0.out _ (Wd.frm _))))
      repeat (go_big_quiet_step (exact Calls.wd (HP1.out _ (Wd.frm _))))
      refine wpQuiet_nil ?_
      intro w9 hf9
      go_wp2_with fail
      go_ret
      exact ⟨by simp, HBF.out.thenNo hf9⟩
set_option maxRecDepth 100000 in
theorem lifted (os : Os) (started : os.Started) (H : Type) (enc : TypeId × Value → H) :
    ReturnsInHanded {} Try.checked os 3 .any (Rows.rollTurnedSpec.pre6 enc Try.prog Try.f3 Rows.rollTurnedRow.domain false) (Rows.rollTurnedSpec.post enc Try.prog Try.f3 false true false false) := by
  refine returnsInHanded_of_change_sized (C := Try.checked) own started (by kernel_rfl) Try.func3
    (ChangeSpec.witness6 (enc := enc) (C := Try.checked) false ⟨#[], #[.slice none 0 0], []⟩ 8 (by kernel_rfl) (by kernel_rfl) (by kernel_rfl) (by kernel_rfl)) ?_
  intro W base args ds gs before hval0 hW _ hsz0 _
  have hsz : (DataW.weightsEach Try.prog (Try.f3.params.toList ++ Rows.rollTurnedSpec.plain.varTypes Try.prog) (ds ++ gs)).all (· ≤ reachBytes) = true := hsz0
  clear hsz0
  have hval : ∀ (j : Nat) t v, Try.f3.params[j]? = some t → args[j]? = some v → Value.okWide Try.prog W .any base t v := hval0
  have hW' : DataW.Whole enc Try.prog Try.f3.params.toList Rows.rollTurnedSpec.vars false W args.toList ds gs before := hW
  have hts : ∀ t ∈ Try.f3.params.toList, Try.prog.readableRec t = true ∧ t < Try.prog.types.size := by
    rw [Try.params3]
    intro t ht
    simp only [List.mem_cons, List.not_mem_nil, or_false] at ht
    subst ht; exact ⟨by kernel_rfl, of_decide_eq_true (by kernel_rfl)⟩
  obtain ⟨p, q, hA0, hV, hbef, hfz, hnd⟩ := hW
  have hA : DataW.TrodAll enc Try.prog W 0 (fun _ => true) true Try.f3.params.toList args.toList ds p := hA0
  rw [Try.params3] at hA hval hsz
  obtain ⟨v0, vs0, d0, ds0, p0, q0, hargs, rfl, rfl, h0, r0⟩ := trodAll_cons hA
  obtain ⟨rfl, rfl, rfl⟩ := trodAll_nil r0
  obtain rfl : args = #[v0] := by cases args; simp_all
  clear hA hA0 hval0
  obtain ⟨x0, hr0, hn0, hg0⟩ := open_pairs (enc := enc) h0 (okWide_slice Try.underlying22 (hval 0 22 v0 rfl rfl))
  refine (walk v0 x0 W hr0 hn0 hg0).mono fun e W' ⟨he, hg⟩ => ?_
  subst he
  exact ⟨_, rfl, post_law hW' rfl Try.underlying4 rfl rfl rfl rfl laidOut hts hg.toBelow⟩

theorem over : Rows.rollTurnedRow.holds Try.pinned (OpenSpec.ofChange Rows.rollTurnedSpec) :=
  OpenClaim.holds_of_wide 3 Try.f3 rfl rfl rfl rfl rfl rfl rfl ⟨rfl, rfl, rfl, rfl, rfl⟩ rfl rfl rfl rfl rfl (by kernel_rfl) Try.func3 (by kernel_rfl)
    (of_decide_eq_true (by kernel_rfl)) (by unfold Func.isWrapper; first | (rw [if_pos (by decide +kernel)]; kernel_rfl) | (rw [if_neg (by decide +kernel)]; exact ⟨rfl, rfl⟩))
    (fun os started H enc _ => lifted os started H enc)

theorem proved : Rows.RollTurnedSaid :=
  over
#print axioms proved
end RollTurn
end Go.Proofs.Ytekailaoanpcgaa
