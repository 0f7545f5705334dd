/- For every sequence of operations, each result, and the frames in transit. -/
import Derived.Test.YthbacebkidggdaaNetTurn
import Derived.Test.YthbacebkidggdaaNetEq
import Derived.Deep.QuietTactic
import Derived.Test.YthbacebkidggdaaAct
import Derived.Deep.RegionHeld3
import Derived.Deep.LoopGhost
import Derived.Deep.Cut
import Derived.Deep.CutRange
import Derived.Deep.CutBlock
import Derived.BigQuiet
namespace Go.Proofs.Ythbacebkidggdaa
open Go.ChangeShapes Go.WideShapes Go.ChangeAt Go.RowKit
open Go.ChangeMaps (open_string shut_string)

namespace NetPlay
theorem mask15 (x : Int) : ∃ m : Nat, bits BinOp.and IntKind.i64 x 15 = (m : Int) ∧ m ≤ 15 := by
  have hb : (BitVec.ofInt 64 15).toNat = 15 := by decide
  have h : ((BitVec.ofInt 64 x) &&& (BitVec.ofInt 64 15)).toNat ≤ 15 := by
    rw [BitVec.toNat_and, ← hb]
    exact Nat.le_trans Nat.and_le_right (by rw [hb]; exact Nat.le_refl _)
  refine ⟨((BitVec.ofInt 64 x) &&& (BitVec.ofInt 64 15)).toNat, ?_, h⟩
  exact IntWalk.i64_in ((((BitVec.ofInt 64 x) &&& (BitVec.ofInt 64 15)).toNat : Nat) : Int) ⟨by omega, by omega⟩
theorem kind6 (x : Int) : ∃ m : Int, (wrap64 (x.tmod 6 + 6)).tmod 6 = m ∧ (m = 0 ∨ m = 1 ∨ m = 2 ∨ m = 3 ∨ m = 4 ∨ m = 5) := by
  refine ⟨_, rfl, ?_⟩
  have h1 := Int.lt_tmod_of_pos x (b := 6) (by omega)
  have h2 := Int.tmod_lt_of_pos x (b := 6) (by omega)
  rw [IntWalk.wrap64_in _ (by omega), Int.tmod_eq_emod_of_nonneg (by omega)]
  omega
def fills (k : Nat) : List Fr := (List.range k).map fun (i : Nat) => ⟨(i : Int), 0, [120], false⟩
theorem fills_length (k : Nat) : (fills k).length = k := by simp [fills]
theorem fills_succ (k : Nat) : fills (k + 1) = fills k ++ [⟨(k : Int), 0, [120], false⟩] := by simp [fills, List.range_succ]
def Sm (fs : List Fr) : Prop := fs.length ≤ 1024 ∧ ∀ f ∈ fs, f.bytes.length ≤ 60
theorem fills_sm (k : Nat) (h : k ≤ 1022) : Sm (fills k) := by
  refine ⟨by rw [fills_length]; omega, fun f hf => ?_⟩
  obtain ⟨i, -, rfl⟩ := List.mem_map.1 hf
  simp

theorem info_rframe : (Try.prog.info? 30).map (fun i => (i.zero, i.size, i.bytes)) = some (some (.agg #[.int .i64 0, .int .i64 0, .string ByteArray.empty, .bool false]), 4, 40) := by kernel_rfl

set_option maxRecDepth 100000 in
set_option maxHeartbeats 16000000 in
theorem walk (lv : Value) (xs : List Ac) (fill : Int) (_ : -9223372036854775808 ≤ fill ∧ fill ≤ 9223372036854775807) (w : World) (hr : RdL w lv 5 acV xs) (hxl : xs.length ≤ maxLen) (hg : ∀ x ∈ xs, AcOK x) :
    Calls Try.prog 3 #[lv, .int .i64 fill] w fun e w' => e = .returned (.bool true) ∧ Frm No w w' := by
  unfold maxLen at hxl
  obtain ⟨i0, gi, gz0, gz1, gz2⟩ := info_parts info_rframe
  obtain ⟨lao, lc, rfl⟩ := hr.shape
  have HG := hid hg
  clear hg
  obtain ⟨m15, hm15, hm15'⟩ := mask15 fill
  go_enter Try.func3, Try.ntmps3
  go_upto_if 26 with (first | (go_at_call 4; refine (netspeaks _).mono ?_; rintro e0 w0 ⟨rfl, hf0⟩))
  have hN0 := NetAt_new w0 26
  have hf1 : Frm No w (w0.alloc (.cells #[.slice none 0 0] 26)) := hf0.alloc _
  have hz0 := hf0.size
  obtain ⟨B, hB⟩ : ∃ B, w0.heap.size = B := ⟨_, rfl⟩
  rw [hB] at hN0 hz0
  simp only [hB]
  generalize w0.alloc (.cells #[.slice none 0 0] 26) = wn at *
  have hTw0 : Two w wn B (.slice none 0 0) [] (.slice none 0 0) [] := ⟨hN0, World.ownsRow_nil _ _ _ _, by simp [Value.ownBlock], by simp [Value.ownBlock], by simp [Value.ownBlock], hz0, hf1⟩
  clear hB hf0 hN0 hf1
  go_cut [6] from 27 (fun u wq => ∃ v fs, Sm fs ∧ Two w wq B v fs u fs)
  case first =>
    as_aux_lemma =>
    by_cases hfull : m15 = 15
    · subst hfull
      go_wp2_with fail
      go_loopg [6, 7] 1022 (fun gq u i wq => ∃ (k : Nat) (v : Value), k + gq = 1022 ∧ i = .int .i64 (k : Int) ∧ Two w wq B v (fills k) u (fills k))
      case atStart => exact ⟨0, .slice none 0 0, by omega, rfl, hTw0⟩
      case round =>
        obtain ⟨k, v, hk, rfl, hTw⟩ := hrel
        by_cases hkl : k < 1022
        · have hkz : (k : Int) < 1022 := by omega
          have hlen := fills_length k
          have HS : Hid (∀ wq, NetAt wq B v (fills k) → Calls Try.prog 5 #[.pointer (some ⟨B, 0, none⟩), .int .i64 (k : Int), .int .i64 0, .string ⟨#[120]⟩] wq fun e w' => e = .returned (.bool true) ∧ ∃ v', NetPost B wq v (fills (k + 1)) v' w') := by
            refine hid (fun wq h => (send_any B v (fills k) (k : Int) 0 [120] wq h (by omega)).mono fun e w' ⟨he, v', hp⟩ => ⟨by rw [he, decide_eq_true (by omega)], v', ?_⟩)
            rw [fills_succ]
            rw [sent, if_pos (by omega)] at hp
            exact hp
          go_wp2_with (first | (go_at_call 5; refine (HS.out _ hTw.net).mono ?_; rintro e1 w1 ⟨rfl, v1, hp1⟩; have t1 := hTw.post hp1) | (at_builtin; refine wpList_push _ rfl (.tmp 33) (.tmp 36) 27 rfl w.heap.size 30 i0 _ 4 40 Try.underlying27 gi gz0 gz1 gz2 rfl u6 (fills k).length (framesV (fills k)) rfl t1.row (frV ⟨(k : Int), 0, [120], false⟩) rfl rfl (framesV_one [⟨(k : Int), 0, [120], false⟩]) (by omega) (by omega) (t1.frm.size) ?_; intro u1 w2 hown hfu hu hz2))
          go_roundg (gk - 1)
          case measure => omega
          case rel => exact ⟨k + 1, v1, by omega, by go_num, t1.grow (by rw [fills_succ, List.length_append, framesV_append]; exact hown) hfu hu⟩
        · obtain rfl : k = 1022 := by omega
          go_wp2_with fail
          go_meet
          exact ⟨v, fills 1022, fills_sm 1022 (Nat.le_refl _), hTw⟩
    · have hm' : ((m15 : Int) == 15) = false := by simp; omega
      go_wp2_with fail
      go_meet
      exact ⟨_, [], ⟨by simp, by simp⟩, hTw0⟩
  case rest =>
    obtain ⟨v0, fs0, hsm0, hTw00⟩ := hcut
    clear hTw0 hm15 hm15'
    go_upto_block 2 with (first | fail)
    go_cut [6] from 38 to 220 (fun u wq => ∃ v fs, Sm fs ∧ Two w wq B v fs u fs)
    case rest =>
      obtain ⟨v1, fs1, hsm1, hTw1⟩ := hcut
      obtain ⟨uao1, uc1, rfl⟩ := ownsRow_shape hTw1.row
      have hl1 := hsm1.1
      clear hTw00 hsm0 hr HG hsm1
      as_aux_lemma =>
      go_wp2_with fail
      go_loopg [19] fs1.length (fun gq i wq => ∃ (k : Nat) (v : Value), k + gq = fs1.length ∧ i = .int .i64 (k : Int) ∧ Two w wq B v (fs1.drop k) (.slice uao1 fs1.length uc1) fs1)
      case atStart => exact ⟨0, v1, by omega, rfl, by simpa using hTw1⟩
      case round =>
        obtain ⟨k, v, hk, rfl, hTw⟩ := hrel
        clear hTw1
        as_aux_lemma =>
        by_cases hkl : k < fs1.length
        · have hkz : (k : Int) < (fs1.length : Int) := by omega
          have hdl : (fs1.drop k).length = fs1.length - k := List.length_drop
          obtain ⟨f, hfe⟩ : ∃ f, fs1[k] = f := ⟨_, rfl⟩
          have hlk : look (fs1.drop k) 0 = f := by
            rw [look_at (by omega)]
            simp [pl, hfe]
          have hpl : pl 0 (fs1.drop k).length = 0 := by simp [pl]
          have HTK : Hid (∀ w, NetAt w B v (fs1.drop k) → Calls Try.prog 7 #[.pointer (some ⟨B, 0, none⟩), .int .i64 0] w fun e w' => e = .returned (.tuple #[.agg #[.int .i64 f.from_, .int .i64 f.to_, .string ⟨f.bytes.toArray⟩, .bool f.bad], .bool true]) ∧ ∃ v', NetPost B w v (fs1.drop (k + 1)) v' w') := by
            refine hid fun w h => ?_
            have := take_some B v (fs1.drop k) 0 f hlk w h (by omega) (by omega)
            rw [hpl, List.eraseIdx_zero, List.tail_drop] at this
            exact this
          clear hlk hpl hdl
          go_wp2_with (go_at_call 7; refine (HTK.out _ hTw.net).mono ?_; rintro e1 w1 ⟨rfl, v2, n1⟩)
          have kf : ∀ j, (w1.alloc (.cells #[.int .i64 f.from_, .int .i64 f.to_, .string ⟨f.bytes.toArray⟩, .bool f.bad] 35)).cell? ⟨w1.heap.size, j, none⟩ = (#[.int .i64 f.from_, .int .i64 f.to_, .string ⟨f.bytes.toArray⟩, .bool f.bad] : Array Value)[j]? := fun j => World.cell?_alloc_at _ _ _ _ rfl
          have t1 := (hTw.post n1).no ((Frm.refl No w1).alloc (.cells #[.int .i64 f.from_, .int .i64 f.to_, .string ⟨f.bytes.toArray⟩, .bool f.bad] 35))
          generalize (w1.alloc (.cells #[.int .i64 f.from_, .int .i64 f.to_, .string ⟨f.bytes.toArray⟩, .bool f.bad] 35)) = W2 at *
          obtain ⟨g, rfl, hbg, hnc, c0, c1, c2, c3, -⟩ := row_at t1.row rfl k hkl
          rw [hfe] at c0 c1 c2 c3
          have q1 := frr_neq f.from_ f.to_ f.bytes f.bad
          have T1 := hid t1
          clear HTK t1 n1 hTw hfe
          generalize w1.heap.size = fb at *
          go_quiet (fail)
          dsimp only [Exit.then]
          go_wp2_with fail
          go_roundg (gk - 1)
          case measure => omega
          case rel => exact ⟨k + 1, v2, by omega, by go_num, T1.out.no ((Frm.refl No _).drewN _)⟩
        · obtain rfl : k = fs1.length := by omega
          rw [List.drop_length] at hTw
          go_wp2_with (go_at_call 12; refine (count_any B v [] _ hTw.net).mono ?_; rintro e1 w1 ⟨rfl, rfl⟩)
          go_ret
          exact ⟨rfl, hTw.frm⟩
    case first =>
    as_aux_lemma =>
    go_wp2_with fail
    go_loopg [6, 8] xs.length (fun gq u i wq => ∃ (k : Nat) (v : Value) (fs : List Fr), k + gq = xs.length ∧ k ≤ 40 ∧ i = .int .i64 (k : Int) ∧ Sm fs ∧ Two w wq B v fs u fs)
    case atStart => exact ⟨0, v0, fs0, by omega, by omega, rfl, hsm0, hTw00⟩
    case round =>
      obtain ⟨k, v, fs, hk, hk40, rfl, hsm, hTw⟩ := hrel
      clear hTw00 hsm0
      by_cases hlast : k < xs.length ∧ k < 40
      · obtain ⟨hka, hk2⟩ := hlast
        obtain ⟨lb, lo, rfl, hbw, d0, d1, d2, d3, d4⟩ := act_at hr hTw.frm k hka
        have hgx := HG.out _ (List.getElem_mem hka)
        have hkc : (k : Int) < (xs.length : Int) := by omega
        generalize xs[k] = x at *
        obtain ⟨xw, xi, xat, xby, xt⟩ := x
        simp only at d0 d1 d2 d3 d4
        obtain ⟨-, -, -, hby, htl⟩ := hgx
        simp only at hby htl
        unfold maxLen at htl
        obtain ⟨m, hm, hm6⟩ := kind6 xw
        obtain ⟨uao, uc, rfl⟩ := ownsRow_shape hTw.row
        have hul : (List.take (min (xt.length : Int) 60).toNat xt).length ≤ 60 := by rw [List.length_take]; omega
        obtain ⟨tx, htx⟩ : ∃ tx, List.take (min (xt.length : Int) 60).toNat xt = tx := ⟨_, rfl⟩
        rw [htx] at hul
        obtain ⟨atv, hatv⟩ : ∃ atv : Nat, atv = if 0 < fs.length then pl xi fs.length else 0 := ⟨_, rfl⟩
        have hfl := hsm.1
        as_aux_lemma =>
        go_upto_if 61 with (first | fail)
        have t0 := hTw.no ((Frm.refl No wr).alloc (.cells #[.int .i64 xw, .int .i64 xi, .int .i64 xat, .int .u32 xby, .string ⟨xt.toArray⟩] 33))
        have kb : ∀ j, (wr.alloc (.cells #[.int .i64 xw, .int .i64 xi, .int .i64 xat, .int .u32 xby, .string ⟨xt.toArray⟩] 33)).cell? ⟨wr.heap.size, j, none⟩ = (#[.int .i64 xw, .int .i64 xi, .int .i64 xat, .int .u32 xby, .string ⟨xt.toArray⟩] : Array Value)[j]? := fun j => World.cell?_alloc_at _ _ _ _ rfl
        obtain ⟨W1, hW1⟩ : ∃ W1, W1 = wr.alloc (.cells #[.int .i64 xw, .int .i64 xi, .int .i64 xat, .int .u32 xby, .string ⟨xt.toArray⟩] 33) := ⟨_, rfl⟩
        rw [← hW1] at t0 kb ⊢
        have hbx : wr.heap.size < W1.heap.size := by rw [hW1]; simp
        have hBx : B < wr.heap.size := World.block_lt_of_cell? wr _ hTw.net.c0
        have hvx : v.ownBlock ≠ some wr.heap.size := fun e => absurd (hTw.net.row.lt _ e).2 (Nat.lt_irrefl _)
        obtain ⟨bx, hbx'⟩ : ∃ bx, wr.heap.size = bx := ⟨_, rfl⟩
        rw [hbx'] at hbx hBx hvx kb
        simp only [hbx']
        clear d0 d1 d2 d3 d4 hW1 hTw hbx'
        go_cut [11] from 38 to 220 (fun a wq => a = .int .i64 (atv : Int) ∧ wq = W1)
        case first =>
          as_aux_lemma =>
          by_cases hne : 0 < fs.length
          · have hne' : (0 : Int) < (fs.length : Int) := by omega
            have hp : atv = pl xi fs.length := by rw [hatv, if_pos hne]
            go_wp2_with (first | (go_at_call 6; refine (place_any xi fs.length _ hne (by omega)).mono ?_; rintro e1 w1 ⟨rfl, rfl⟩))
            go_meet
            exact ⟨by rw [hp], rfl⟩
          · have hne' : ¬ (0 : Int) < (fs.length : Int) := by omega
            have hp : atv = 0 := by rw [hatv, if_neg hne]
            go_wp2_with fail
            go_meet
            exact ⟨by rw [hp]; rfl, rfl⟩
        case rest =>
          obtain ⟨hat, hwc⟩ := hcut
          subst hat hwc
          as_aux_lemma =>
          go_upto_block 4 with (first | fail)
          go_cut [6] from 38 to 220 (fun u wq => ∃ v' fs', Sm fs' ∧ Two w wq B v' fs' u fs')
          case first =>
            have Hat := hid hatv
            clear hatv
            have k0 : wc.cell? ⟨bx, 0, none⟩ = some (.int .i64 xw) := kb 0
            have k1 : wc.cell? ⟨bx, 1, none⟩ = some (.int .i64 xi) := kb 1
            have k2 : wc.cell? ⟨bx, 2, none⟩ = some (.int .i64 xat) := kb 2
            have k3 : wc.cell? ⟨bx, 3, none⟩ = some (.int .u32 xby) := kb 3
            clear kb
            rcases hm6 with rfl | rfl | rfl | rfl | rfl | rfl
            · as_aux_lemma =>
              by_cases hf4 : fs.length < 1024
              · have hfz : (fs.length : Int) < 1024 := by omega
                have HS : Hid (∀ wq, NetAt wq B v fs → Calls Try.prog 5 #[.pointer (some ⟨B, 0, none⟩), .int .i64 xat, .int .i64 xi, .string ⟨tx.toArray⟩] wq fun e w' => e = .returned (.bool true) ∧ ∃ v', NetPost B wq v (fs ++ [⟨xat, xi, tx, false⟩]) v' w') := by
                  refine hid (fun wq h => (send_any B v fs xat xi tx wq h (by omega)).mono fun e w' ⟨he, v', hp⟩ => ⟨by rw [he, decide_eq_true hf4], v', ?_⟩)
                  rw [sent, if_pos hf4] at hp
                  exact hp
                go_wp2_with (first | (go_at_call 5; refine (HS.out _ t0.net).mono ?_; rintro e1 w1 ⟨rfl, v1, n1⟩; have t1 := t0.post n1; have kk1 := (n1.frm.cell (p := ⟨bx, 1, none⟩) hbx (fun h => by rcases h with h | h; (have h : bx = B := h; omega); exact hvx h)).trans k1; have kk2 := (n1.frm.cell (p := ⟨bx, 2, none⟩) hbx (fun h => by rcases h with h | h; (have h : bx = B := h; omega); exact hvx h)).trans k2) | (at_builtin; refine wpList_push _ rfl (.tmp 109) (.tmp 116) 27 rfl w.heap.size 30 i0 _ 4 40 Try.underlying27 gi gz0 gz1 gz2 rfl (.slice uao fs.length uc) fs.length (framesV fs) rfl t1.row (frV ⟨xat, xi, tx, false⟩) rfl rfl (framesV_one [⟨xat, xi, tx, false⟩]) (by omega) (by omega) (t1.frm.size) ?_; intro u1 w2 hown hfu hu hz2))
                go_meet
                refine ⟨v1, fs ++ [⟨xat, xi, tx, false⟩], ⟨by rw [List.length_append]; simp; omega, fun f hf => ?_⟩, t1.grow (by rw [List.length_append, framesV_append]; exact hown) hfu hu⟩
                rcases List.mem_append.1 hf with hf | hf
                · exact hsm.2 f hf
                · rw [List.mem_singleton.1 hf]; exact hul
              · have hfz : ¬ (fs.length : Int) < 1024 := by omega
                have HS : Hid (∀ wq, NetAt wq B v fs → Calls Try.prog 5 #[.pointer (some ⟨B, 0, none⟩), .int .i64 xat, .int .i64 xi, .string ⟨tx.toArray⟩] wq fun e w' => e = .returned (.bool false) ∧ ∃ v', NetPost B wq v fs v' w') := by
                  refine hid (fun wq h => (send_any B v fs xat xi tx wq h (by omega)).mono fun e w' ⟨he, v', hp⟩ => ⟨by rw [he, decide_eq_false hf4], v', ?_⟩)
                  rw [sent, if_neg hf4] at hp
                  exact hp
                go_wp2_with (go_at_call 5; refine (HS.out _ t0.net).mono ?_; rintro e1 w1 ⟨rfl, v1, n1⟩)
                go_meet
                exact ⟨v1, fs, hsm, t0.post n1⟩
            · as_aux_lemma =>
              by_cases hf4 : fs.length < 1024
              · have hfz : (fs.length : Int) < 1024 := by omega
                have HS : Hid (∀ wq, NetAt wq B v fs → Calls Try.prog 5 #[.pointer (some ⟨B, 0, none⟩), .int .i64 xat, .int .i64 xi, .string ⟨tx.toArray⟩] wq fun e w' => e = .returned (.bool true) ∧ ∃ v', NetPost B wq v (fs ++ [⟨xat, xi, tx, false⟩]) v' w') := by
                  refine hid (fun wq h => (send_any B v fs xat xi tx wq h (by omega)).mono fun e w' ⟨he, v', hp⟩ => ⟨by rw [he, decide_eq_true hf4], v', ?_⟩)
                  rw [sent, if_pos hf4] at hp
                  exact hp
                go_wp2_with (first | (go_at_call 5; refine (HS.out _ t0.net).mono ?_; rintro e1 w1 ⟨rfl, v1, n1⟩; have t1 := t0.post n1; have kk1 := (n1.frm.cell (p := ⟨bx, 1, none⟩) hbx (fun h => by rcases h with h | h; (have h : bx = B := h; omega); exact hvx h)).trans k1; have kk2 := (n1.frm.cell (p := ⟨bx, 2, none⟩) hbx (fun h => by rcases h with h | h; (have h : bx = B := h; omega); exact hvx h)).trans k2) | (at_builtin; refine wpList_push _ rfl (.tmp 109) (.tmp 116) 27 rfl w.heap.size 30 i0 _ 4 40 Try.underlying27 gi gz0 gz1 gz2 rfl (.slice uao fs.length uc) fs.length (framesV fs) rfl t1.row (frV ⟨xat, xi, tx, false⟩) rfl rfl (framesV_one [⟨xat, xi, tx, false⟩]) (by omega) (by omega) (t1.frm.size) ?_; intro u1 w2 hown hfu hu hz2))
                go_meet
                refine ⟨v1, fs ++ [⟨xat, xi, tx, false⟩], ⟨by rw [List.length_append]; simp; omega, fun f hf => ?_⟩, t1.grow (by rw [List.length_append, framesV_append]; exact hown) hfu hu⟩
                rcases List.mem_append.1 hf with hf | hf
                · exact hsm.2 f hf
                · rw [List.mem_singleton.1 hf]; exact hul
              · have hfz : ¬ (fs.length : Int) < 1024 := by omega
                have HS : Hid (∀ wq, NetAt wq B v fs → Calls Try.prog 5 #[.pointer (some ⟨B, 0, none⟩), .int .i64 xat, .int .i64 xi, .string ⟨tx.toArray⟩] wq fun e w' => e = .returned (.bool false) ∧ ∃ v', NetPost B wq v fs v' w') := by
                  refine hid (fun wq h => (send_any B v fs xat xi tx wq h (by omega)).mono fun e w' ⟨he, v', hp⟩ => ⟨by rw [he, decide_eq_false hf4], v', ?_⟩)
                  rw [sent, if_neg hf4] at hp
                  exact hp
                go_wp2_with (go_at_call 5; refine (HS.out _ t0.net).mono ?_; rintro e1 w1 ⟨rfl, v1, n1⟩)
                go_meet
                exact ⟨v1, fs, hsm, t0.post n1⟩
            · as_aux_lemma =>
              by_cases hne : 0 < fs.length
              · have hne' : (0 : Int) < (fs.length : Int) := by omega
                have hat : atv = pl xi fs.length := by rw [Hat.out, if_pos hne]
                have hi : atv < fs.length := by rw [hat]; exact pl_lt xi _ hne
                have hlk : look fs xi = fs[atv] := by rw [look_at hne]; simp only [hat]
                obtain ⟨f, hfe⟩ : ∃ f, fs[atv] = f := ⟨_, rfl⟩
                rw [hfe] at hlk
                have hiz : (atv : Int) < (fs.length : Int) := by omega
                have HTK : Hid (∀ w, NetAt w B v fs → Calls Try.prog 7 #[.pointer (some ⟨B, 0, none⟩), .int .i64 xi] w fun e w' => e = .returned (.tuple #[.agg #[.int .i64 f.from_, .int .i64 f.to_, .string ⟨f.bytes.toArray⟩, .bool f.bad], .bool true]) ∧ ∃ v', NetPost B w v (fs.eraseIdx atv) v' w') := by
                  refine hid fun w h => ?_
                  have := take_some B v fs xi f hlk w h hne (by omega)
                  rw [← hat] at this
                  exact this
                clear hlk hat Hat
                go_wp2_with (go_at_call 7; refine (HTK.out _ t0.net).mono ?_; rintro e1 w1 ⟨rfl, v1, n1⟩)
                have kf : ∀ j, (w1.alloc (.cells #[.int .i64 f.from_, .int .i64 f.to_, .string ⟨f.bytes.toArray⟩, .bool f.bad] 35)).cell? ⟨w1.heap.size, j, none⟩ = (#[.int .i64 f.from_, .int .i64 f.to_, .string ⟨f.bytes.toArray⟩, .bool f.bad] : Array Value)[j]? := fun j => World.cell?_alloc_at _ _ _ _ rfl
                have t1 := (t0.post n1).no ((Frm.refl No w1).alloc (.cells #[.int .i64 f.from_, .int .i64 f.to_, .string ⟨f.bytes.toArray⟩, .bool f.bad] 35))
                generalize (w1.alloc (.cells #[.int .i64 f.from_, .int .i64 f.to_, .string ⟨f.bytes.toArray⟩, .bool f.bad] 35)) = W2 at *
                obtain ⟨g, rfl, hbg, hnc, c0, c1, c2, c3, -⟩ := row_at t1.row rfl atv hi
                rw [hfe] at c0 c1 c2 c3
                have q1 := frr_neq f.from_ f.to_ f.bytes f.bad
                have T1 := hid t1
                have HGB := hid (World.block_lt_of_cell? W2 _ c0)
                clear HTK k0 k1 k2 k3 hm t0 hr t1 n1 hbx hvx
                generalize w1.heap.size = fb at *
                go_quiet (fail)
                dsimp only [Exit.then]
                clear c0 c1 c2 c3 kf q1
                go_upto_region 35 with (first | fail)
                have T2 := hid (T1.out.no ((Frm.refl No W2).drewN nq))
                clear T1 HGB
                generalize W2.drewN nq = W3 at *
                have HW3 := hid T2.out.frm.size
                have HS1 : Hid (∀ W, Frm No W3 W → Src Try.prog 4 27 (.slice (some ⟨g, 0, none⟩) atv uc) atv (framesV (fs.take atv)) W) := by
                  refine hid fun W hf => ?_
                  have := src_frames (hf.row T2.out.row (fun _ _ h => h)) 0 atv (by omega) uc rfl
                  simpa using this
                obtain ⟨A0, hA0, HS2'⟩ := src_rest fs g uc atv hi hnc
                have HS2 : Hid (∀ W, Frm No W3 W → Src Try.prog 4 27 (.slice (some A0) (fs.length - (atv + 1)) (uc - (atv + 1))) (fs.length - (atv + 1)) (framesV ((fs.drop (atv + 1)).take (fs.length - (atv + 1)))) W) := hid fun W hf => HS2' W _ (hf.row T2.out.row (fun _ _ h => h))
                clear HS2'
                have hs1 : (0 : Int) ≤ (atv : Int) := by omega
                have hs2 : (atv : Int) ≤ (uc : Int) := by omega
                have hs3 : (atv : Int) + 1 ≤ (fs.length : Int) := by omega
                have hs4 : (fs.length : Int) ≤ (uc : Int) := by omega
                have hs6 : (0 : Int) ≤ (atv : Int) + 1 := by omega
                have hs5 : IntKind.i64.wrap ((atv : Int) + 1) = (atv : Int) + 1 := IntWalk.i64_in _ (by omega)
                go_region_law (first | (refine step_append_own rfl (.tmp 152) (.tmp 155) 27 27 rfl w.heap.size 30 i0 _ 4 40 Try.underlying27 gi gz0 gz1 gz2 rfl (.slice (some ⟨W3.heap.size, 0, none⟩) 0 0) 0 [] (by simp [Act.eval]) ((own_empty _ HW3.out).drew) (.slice (some ⟨g, 0, none⟩) atv uc) atv _ (by simp [Act.eval]) (HS1.out _ ((Frm.refl No W3).alloc _).drew) (by unfold maxLen; omega) (by omega) (by simp; have := HW3.out; omega) ?_; intro v4 w4 hown4 hf4 hv4; obtain ⟨ao4, c4, rfl⟩ := ownsRow_shape hown4) | (refine step_append_own rfl (.tmp 156) (.tmp 160) 27 27 rfl w.heap.size 30 i0 _ 4 40 Try.underlying27 gi gz0 gz1 gz2 rfl (.slice ao4 (0 + atv) c4) (0 + atv) _ (by simp [Act.eval]) hown4 (.slice (some A0) (fs.length - (atv + 1)) (uc - (atv + 1))) (fs.length - (atv + 1)) _ (by simp [Act.eval]) (HS2.out _ (own_aD hf4)) (by unfold maxLen; omega) (by omega) (by have := HW3.out; have := (own_aD hf4).size; omega) ?_; intro v5 w5 hown5 hf5 hv5))
                have e4 := own_aD hf4
                have hge4 : ∀ q, Value.ownBlock (.slice ao4 (0 + atv) c4) = some q → W3.heap.size ≤ q := fun q hq => by
                  rcases hv4 with h | ⟨k', h, h'⟩
                  · rw [h] at hq; simp only [Value.ownBlock, Option.some.injEq] at hq; omega
                  · rw [h] at hq; simp only [Option.some.injEq] at hq; simp at h'; omega
                have e5 : Frm No W3 w5 := e4.trans hf5 (fun _ _ h => h) (fun i hi e => by have := hge4 i e; omega)
                have hge5 : ∀ q, v5.ownBlock = some q → W3.heap.size ≤ q := fun q hq => by
                  rcases hv5 with h | ⟨k', h, h'⟩
                  · rw [h] at hq; exact hge4 q hq
                  · rw [h] at hq; simp only [Option.some.injEq] at hq; have := e4.size; omega
                go_wp2_with fail
                go_meet
                have hlen : (fs.eraseIdx atv).length = 0 + atv + (fs.length - (atv + 1)) := by rw [List.length_eraseIdx, if_pos hi]; omega
                have hxs : framesV (fs.eraseIdx atv) = [] ++ framesV (fs.take atv) ++ framesV ((fs.drop (atv + 1)).take (fs.length - (atv + 1))) := by
                  rw [List.nil_append, ← framesV_append, List.eraseIdx_eq_take_drop_succ, List.take_of_length_le (l := fs.drop (atv + 1)) (by rw [List.length_drop]; omega)]
                have t5 := T2.out.anew e5 (gs' := fs.eraseIdx atv) (u' := v5) (by rw [hlen, hxs]; exact hown5) hge5
                exact ⟨v1, fs.eraseIdx atv, ⟨by rw [hlen]; omega, fun q hq => hsm.2 q (List.mem_of_mem_eraseIdx hq)⟩, t5⟩
              · have hne' : ¬ (0 : Int) < (fs.length : Int) := by omega
                obtain rfl : fs = [] := List.eq_nil_of_length_eq_zero (by omega)
                have HTK := hid (fun w h => take_none B v xi w h)
                have q2 : ∀ w, (binOp .neq 35 (.agg #[.int .i64 0, .int .i64 0, .string ⟨#[]⟩, .bool false]) (.agg #[.int .i64 0, .int .i64 0, .string ⟨#[]⟩, .bool false])).run Try.prog w = .ok (.bool false) w := fun w => frn_neq 0 0 [] false w
                go_wp2_with (go_at_call 7; refine (HTK.out _ t0.net).mono ?_; rintro e1 w1 ⟨rfl, hf1⟩)
                have kf : ∀ j, (w1.alloc (.cells #[.int .i64 0, .int .i64 0, .string ⟨#[]⟩, .bool false] 35)).cell? ⟨w1.heap.size, j, none⟩ = (#[.int .i64 0, .int .i64 0, .string ⟨#[]⟩, .bool false] : Array Value)[j]? := fun j => World.cell?_alloc_at _ _ _ _ rfl
                have t1 := t0.no (hf1.alloc (.cells #[.int .i64 0, .int .i64 0, .string ⟨#[]⟩, .bool false] 35))
                generalize (w1.alloc (.cells #[.int .i64 0, .int .i64 0, .string ⟨#[]⟩, .bool false] 35)) = W2 at *
                have T1 := hid t1
                clear HTK k0 k1 k2 k3 hm t0 hr t1 hf1 hbx hvx
                generalize w1.heap.size = fb at *
                go_quiet (fail)
                dsimp only [Exit.then]
                go_wp2_with fail
                go_meet
                exact ⟨v, [], hsm, T1.out.no ((Frm.refl No _).drewN _)⟩
            · as_aux_lemma =>
              by_cases hne : 0 < fs.length
              · have hne' : (0 : Int) < (fs.length : Int) := by omega
                have hat : atv = pl xi fs.length := by rw [Hat.out, if_pos hne]
                have hi : atv < fs.length := by rw [hat]; exact pl_lt xi _ hne
                have hlk : look fs xi = fs[atv] := by rw [look_at hne]; simp only [hat]
                obtain ⟨f, hfe⟩ : ∃ f, fs[atv] = f := ⟨_, rfl⟩
                rw [hfe] at hlk
                have hiz : (atv : Int) < (fs.length : Int) := by omega
                by_cases hf4 : fs.length < 1024
                · have hfz : (fs.length : Int) < 1024 := by omega
                  have HD := hid (fun w h => double_some B v fs xi f hlk w h hne hf4)
                  clear hlk hat Hat
                  go_wp2_with (first | (go_at_call 8; refine (HD.out _ t0.net).mono ?_; rintro e1 w1 ⟨rfl, v1, n1⟩; have t1 := t0.post n1; obtain ⟨g, rfl, hbg, hnc, c0, c1, c2, c3, -⟩ := row_at t1.row rfl atv hi; rw [hfe] at c0 c1 c2 c3) | (at_builtin; refine wpList_push _ rfl (.tmp 178) (.tmp 183) 27 rfl w.heap.size 30 i0 _ 4 40 Try.underlying27 gi gz0 gz1 gz2 rfl (.slice (some ⟨g, 0, none⟩) fs.length uc) fs.length (framesV fs) rfl t1.row (frV f) rfl rfl (framesV_one [f]) (by omega) (by omega) (t1.frm.size) ?_; intro u1 w2 hown hfu hu hz2))
                  go_meet
                  refine ⟨v1, fs ++ [f], ⟨by rw [List.length_append]; simp; omega, fun q hq => ?_⟩, t1.grow (by rw [List.length_append, framesV_append]; exact hown) hfu hu⟩
                  rcases List.mem_append.1 hq with hq | hq
                  · exact hsm.2 q hq
                  · rw [List.mem_singleton.1 hq, ← hfe]; exact hsm.2 _ (List.getElem_mem hi)
                · have hfz : ¬ (fs.length : Int) < 1024 := by omega
                  have HD := hid (fun w h => double_many B v fs xi w h hne hf4 (by omega))
                  clear hlk hat Hat
                  go_wp2_with (go_at_call 8; refine (HD.out _ t0.net).mono ?_; rintro e1 w1 ⟨rfl, hf1⟩)
                  go_meet
                  exact ⟨v, fs, hsm, t0.no hf1⟩
              · have hne' : ¬ (0 : Int) < (fs.length : Int) := by omega
                obtain rfl : fs = [] := List.eq_nil_of_length_eq_zero (by omega)
                have HD := hid (fun w h => double_none B v xi w h)
                go_wp2_with (go_at_call 8; refine (HD.out _ t0.net).mono ?_; rintro e1 w1 ⟨rfl, hf1⟩)
                go_meet
                exact ⟨v, [], hsm, t0.no hf1⟩
            · as_aux_lemma =>
              by_cases hne : 0 < fs.length
              · have hne' : (0 : Int) < (fs.length : Int) := by omega
                have hat : atv = pl xi fs.length := by rw [Hat.out, if_pos hne]
                have hi : atv < fs.length := by rw [hat]; exact pl_lt xi _ hne
                have hlk : look fs xi = fs[atv] := by rw [look_at hne]; simp only [hat]
                obtain ⟨f, hfe⟩ : ∃ f, fs[atv] = f := ⟨_, rfl⟩
                rw [hfe] at hlk
                have hiz : (atv : Int) < (fs.length : Int) := by omega
                obtain ⟨g, rfl, hbg, hnc, -⟩ := row_at t0.row rfl atv hi
                obtain ⟨nby, rfl⟩ := Int.eq_ofNat_of_zero_le hby.1
                obtain ⟨gn, ch, hgl, HTU, HSP⟩ := spoil_turned fs xi xat nby (by omega) f hlk hne (by omega) (by have := hsm.2 _ (List.getElem_mem hi); rw [hfe] at this; omega)
                rw [← hat] at HSP
                have HTU := hid HTU
                have HSP := hid (HSP B v)
                clear hlk hat Hat
                have HS1 : Hid (Src Try.prog 4 27 (.slice (some ⟨g, 0, none⟩) fs.length uc) fs.length (framesV fs) (wc.alloc (.cells #[] 30))) := by
                  have := src_frames (((Frm.refl No wc).alloc (.cells #[] 30)).row t0.row (fun _ _ h => h)) 0 fs.length (by omega) uc rfl
                  exact hid (by simpa using this)
                have hcz := t0.frm.size
                have F0 := hid t0
                clear t0
                go_upto_region 46 with (at_builtin; refine wpList_append_src _ rfl (.tmp 190) (.tmp 191) 27 27 rfl w.heap.size 30 i0 _ 4 40 Try.underlying27 gi gz0 gz1 gz2 rfl (.slice (some ⟨wc.heap.size, 0, none⟩) 0 0) 0 [] rfl (own_empty _ hcz) (.slice (some ⟨g, 0, none⟩) fs.length uc) fs.length (framesV fs) rfl HS1.out (by unfold maxLen; omega) (by omega) (by simp; omega) ?_; intro u1 w2 hown hfu hu)
                have hfu' := own_a' hfu
                have t1 : Two w w2 B v fs u1 fs := F0.out.anew hfu' (by rw [Nat.zero_add, List.nil_append] at hown; exact hown) (fun q hq => by
                  rcases hu with h | h
                  · rw [h] at hq; simp only [Value.ownBlock, Option.some.injEq] at hq; omega
                  · rw [h] at hq; simp only [Option.some.injEq] at hq; simp at hq; omega)
                obtain ⟨u1o, u1c, rfl⟩ := ownsRow_shape t1.row
                obtain ⟨g2, rfl, hbg2, hnc2, c0, c1, c2, c3, hz2⟩ := row_at t1.row rfl atv hi
                rw [hfe] at c0 c1 c2 c3
                have kk1 := (hfu'.cell (p := ⟨bx, 1, none⟩) hbx (fun h => h)).trans k1
                have kk2 := (hfu'.cell (p := ⟨bx, 2, none⟩) hbx (fun h => h)).trans k2
                have kk3 := (hfu'.cell (p := ⟨bx, 3, none⟩) hbx (fun h => h)).trans k3
                have hgx : bx ≠ g2 := fun e => by
                  subst e
                  rcases hu with h | h
                  · simp only [Value.ownBlock, Option.some.injEq] at h; omega
                  · simp only [Value.ownBlock, Option.some.injEq] at h; simp at h; omega
                have hgl2 : g2 < w2.heap.size := World.block_lt_of_cell? w2 _ c0
                have hxl2 : bx < w2.heap.size := World.block_lt_of_cell? w2 _ kk1
                clear hown hfu hu k0 k1 k2 k3 HS1 hr
                have HKK : Hid (∀ w', Frm (One g2) w2 w' → w'.cell? ⟨bx, 2, none⟩ = some (.int .i64 xat) ∧ w'.cell? ⟨bx, 3, none⟩ = some (.int .u32 (nby : Int))) := hid fun w' hf => ⟨(hf.cell (p := ⟨bx, 2, none⟩) hxl2 (fun e => hgx e)).trans kk2, (hf.cell (p := ⟨bx, 3, none⟩) hxl2 (fun e => hgx e)).trans kk3⟩
                have hz0' := hz2 (atv * 4) (by omega)
                have hz1' := hz2 (atv * 4 + 1) (by omega)
                have hz2' := hz2 (atv * 4 + 2) (by omega)
                have hz3' := hz2 (atv * 4 + 3) (by omega)
                have T1 := hid t1
                have HO : One g2 g2 := rfl
                clear t1 hz2 F0
                refine wp_region_held_drew (S := fun w' => w'.cell? ⟨bx, 2, none⟩ = some (.int .i64 xat) ∧ w'.cell? ⟨bx, 3, none⟩ = some (.int .u32 (nby : Int))) (by kernel_rfl) (HKK.out _ (Frm.refl _ _).drew) (fun hHeld => ?_)
                refine wpAnyH_take (i := 0) (oi := _) (v := _) rfl (by kernel_rfl) (by kernel_rfl) (by kernel_rfl) (fun _ _ _ h => h) (Or.inl ⟨by rfl, by intro w hSw; (try dsimp only at hSw); go_simp; all_goals with_reducible rfl⟩) (by assumption) ?_
                simp only [Act.put, List.getElem_toArray, List.getElem_cons_zero, List.setIfInBounds_toArray, List.set_cons_zero, List.set_cons_succ]
                refine wpAnyH_take (i := 1) (oi := _) (v := _) rfl (by kernel_rfl) (by kernel_rfl) (by kernel_rfl) (fun _ _ _ h => h) (Or.inl ⟨by rfl, by intro w hSw; (try dsimp only at hSw); go_simp; all_goals with_reducible rfl⟩) (by assumption) ?_
                simp only [Act.put, List.getElem_toArray, List.getElem_cons_succ, List.getElem_cons_zero, List.setIfInBounds_toArray, List.set_cons_zero, List.set_cons_succ]
                refine wpAnyH_take (i := 2) (oi := _) (v := _) rfl (by kernel_rfl) (by kernel_rfl) (by kernel_rfl) (fun _ _ _ h => h) (Or.inl ⟨by rfl, by intro w hSw; (try dsimp only at hSw); go_simp; all_goals with_reducible rfl⟩) (by assumption) ?_
                simp only [Act.put, List.getElem_toArray, List.getElem_cons_succ, List.getElem_cons_zero, List.setIfInBounds_toArray, List.set_cons_zero, List.set_cons_succ]
                refine wpAnyH_take (i := 3) (oi := _) (v := _) rfl (by kernel_rfl) (by kernel_rfl) (by kernel_rfl) (fun _ _ _ h => h) (Or.inl ⟨by rfl, by intro w hSw; (try dsimp only at hSw); go_simp; all_goals with_reducible rfl⟩) (by assumption) ?_
                simp only [Act.put, List.getElem_toArray, List.getElem_cons_succ, List.getElem_cons_zero, List.setIfInBounds_toArray, List.set_cons_zero, List.set_cons_succ]
                refine wpAnyH_take (i := 4) (oi := _) (v := _) rfl (by kernel_rfl) (by kernel_rfl) (by kernel_rfl) (fun _ _ _ h => h) (Or.inl ⟨by rfl, by intro w hSw; (try dsimp only at hSw); go_simp; all_goals with_reducible rfl⟩) (by assumption) ?_
                simp only [Act.put, List.getElem_toArray, List.getElem_cons_succ, List.getElem_cons_zero, List.setIfInBounds_toArray, List.set_cons_zero, List.set_cons_succ]
                refine wpAnyH_take (i := 6) (oi := _) (v := _) rfl (by kernel_rfl) (by kernel_rfl) (by kernel_rfl) (fun _ _ _ h => h) (Or.inl ⟨by rfl, by intro w hSw; (try dsimp only at hSw); go_simp; all_goals with_reducible rfl⟩) (by assumption) ?_
                simp only [Act.put, List.getElem_toArray, List.getElem_cons_succ, List.getElem_cons_zero, List.setIfInBounds_toArray, List.set_cons_zero, List.set_cons_succ]
                refine wpAnyH_take (i := 7) (oi := _) (v := _) rfl (by kernel_rfl) (by kernel_rfl) (by kernel_rfl) (fun _ _ _ h => h) (Or.inl ⟨by rfl, by intro w hSw; (try dsimp only at hSw); go_simp; all_goals with_reducible rfl⟩) (by assumption) ?_
                simp only [Act.put, List.getElem_toArray, List.getElem_cons_succ, List.getElem_cons_zero, List.setIfInBounds_toArray, List.set_cons_zero, List.set_cons_succ]
                refine wpAnyH_take (i := 8) (oi := _) (v := _) rfl (by kernel_rfl) (by kernel_rfl) (by kernel_rfl) (fun _ _ _ h => h) (Or.inl ⟨by rfl, by intro w hSw; (try dsimp only at hSw); go_simp; all_goals with_reducible rfl⟩) (by assumption) ?_
                simp only [Act.put, List.getElem_toArray, List.getElem_cons_succ, List.getElem_cons_zero, List.setIfInBounds_toArray, List.set_cons_zero, List.set_cons_succ]
                refine wpAnyH_take (i := 9) (oi := _) (v := _) rfl (by kernel_rfl) (by kernel_rfl) (by kernel_rfl) (fun _ _ _ h => h) (Or.inl ⟨by rfl, by intro w hSw; (try dsimp only at hSw); go_simp; all_goals with_reducible rfl⟩) (by assumption) ?_
                simp only [Act.put, List.getElem_toArray, List.getElem_cons_succ, List.getElem_cons_zero, List.setIfInBounds_toArray, List.set_cons_zero, List.set_cons_succ]
                refine wpAnyH_ready (rs := [5]) (by kernel_rfl) (by simp) ?_
                refine AllReadyH.cons rfl (fun K hK => ?_) AllReadyH.nil
                simp only [List.getElem_toArray, List.getElem_cons_succ, List.getElem_cons_zero]
                go_simp
                refine hK.out _ _ (HKK.out _ (by repeat (first | with_reducible exact Frm.refl _ _ | with_reducible exact F4 | with_reducible refine Frm.drew ?_ | with_reducible refine Frm.setCell ?_ (fun _ => HO) _))) (fun hHeld => ?_)
                clear hK K
                (try simp only [Act.put, List.getElem_toArray, List.getElem_cons_succ, List.getElem_cons_zero, List.setIfInBounds_toArray, List.set_cons_zero, List.set_cons_succ])
                refine wpAnyH_ready (rs := [10]) (by kernel_rfl) (by simp) ?_
                refine AllReadyH.cons rfl (fun K hK => ?_) AllReadyH.nil
                simp only [List.getElem_toArray, List.getElem_cons_succ, List.getElem_cons_zero]
                go_simp
                refine (HTU.out _).mono ?_
                rintro q1 w3 ⟨rfl, hf3⟩
                have F4 : Frm (One g2) w2 w3 := ((Frm.refl (One g2) w2).drew).thenNo hf3
                have m0 : w3.cell? ⟨g2, atv * 4, none⟩ = _ := (hf3.cell (p := ⟨g2, atv * 4, none⟩) hgl2 (fun h => h)).trans c0
                have y0 : w3.frozen? ⟨g2, atv * 4, none⟩ = _ := (hf3.frozen (p := ⟨g2, atv * 4, none⟩) hgl2 (fun h => h)).trans hz0'
                have m1 : w3.cell? ⟨g2, atv * 4 + 1, none⟩ = _ := (hf3.cell (p := ⟨g2, atv * 4 + 1, none⟩) hgl2 (fun h => h)).trans c1
                have y1 : w3.frozen? ⟨g2, atv * 4 + 1, none⟩ = _ := (hf3.frozen (p := ⟨g2, atv * 4 + 1, none⟩) hgl2 (fun h => h)).trans hz1'
                have m2 : w3.cell? ⟨g2, atv * 4 + 2, none⟩ = _ := (hf3.cell (p := ⟨g2, atv * 4 + 2, none⟩) hgl2 (fun h => h)).trans c2
                have y2 : w3.frozen? ⟨g2, atv * 4 + 2, none⟩ = _ := (hf3.frozen (p := ⟨g2, atv * 4 + 2, none⟩) hgl2 (fun h => h)).trans hz2'
                have m3 : w3.cell? ⟨g2, atv * 4 + 3, none⟩ = _ := (hf3.cell (p := ⟨g2, atv * 4 + 3, none⟩) hgl2 (fun h => h)).trans c3
                have y3 : w3.frozen? ⟨g2, atv * 4 + 3, none⟩ = _ := (hf3.frozen (p := ⟨g2, atv * 4 + 3, none⟩) hgl2 (fun h => h)).trans hz3'
                try simp only
                refine hK.out _ _ (HKK.out _ (by repeat (first | with_reducible exact Frm.refl _ _ | with_reducible exact F4 | with_reducible refine Frm.drew ?_ | with_reducible refine Frm.setCell ?_ (fun _ => HO) _))) (fun hHeld => ?_)
                clear hK K
                (try simp only [Act.put, List.getElem_toArray, List.getElem_cons_succ, List.getElem_cons_zero, List.setIfInBounds_toArray, List.set_cons_zero, List.set_cons_succ])
                refine wpAnyH_take (i := 11) (oi := _) (v := _) rfl (by kernel_rfl) (by kernel_rfl) (by kernel_rfl) (fun _ _ _ h => h) (Or.inl ⟨by rfl, by intro w hSw; (try dsimp only at hSw); go_simp; all_goals with_reducible rfl⟩) (by assumption) ?_
                simp only [Act.put, List.getElem_toArray, List.getElem_cons_succ, List.getElem_cons_zero, List.setIfInBounds_toArray, List.set_cons_zero, List.set_cons_succ]
                refine wpAnyH_take (i := 12) (oi := _) (v := _) rfl (by kernel_rfl) (by kernel_rfl) (by kernel_rfl) (fun _ _ _ h => h) (Or.inl ⟨by rfl, by intro w hSw; (try dsimp only at hSw); go_simp; all_goals with_reducible rfl⟩) (by assumption) ?_
                simp only [Act.put, List.getElem_toArray, List.getElem_cons_succ, List.getElem_cons_zero, List.setIfInBounds_toArray, List.set_cons_zero, List.set_cons_succ]
                refine wpAnyH_take (i := 13) (oi := _) (v := _) rfl (by kernel_rfl) (by kernel_rfl) (by kernel_rfl) (fun _ _ _ h => h) (Or.inl ⟨by rfl, by intro w hSw; (try dsimp only at hSw); go_simp; all_goals with_reducible rfl⟩) (by assumption) ?_
                simp only [Act.put, List.getElem_toArray, List.getElem_cons_succ, List.getElem_cons_zero, List.setIfInBounds_toArray, List.set_cons_zero, List.set_cons_succ]
                refine wpAnyH_take (i := 14) (oi := _) (v := _) rfl (by kernel_rfl) (by kernel_rfl) (by kernel_rfl) (fun _ _ _ h => h) (Or.inl ⟨by rfl, by intro w hSw; (try dsimp only at hSw); go_simp; all_goals with_reducible rfl⟩) (by assumption) ?_
                simp only [Act.put, List.getElem_toArray, List.getElem_cons_succ, List.getElem_cons_zero, List.setIfInBounds_toArray, List.set_cons_zero, List.set_cons_succ]
                refine wpAnyH_ready (rs := [15]) (by kernel_rfl) (by simp) ?_
                refine AllReadyH.cons rfl (fun K hK => ?_) AllReadyH.nil
                simp only [List.getElem_toArray, List.getElem_cons_succ, List.getElem_cons_zero]
                go_simp
                refine hK.out _ _ (HKK.out _ (by repeat (first | with_reducible exact Frm.refl _ _ | with_reducible exact F4 | with_reducible refine Frm.drew ?_ | with_reducible refine Frm.setCell ?_ (fun _ => HO) _))) (fun hHeld => ?_)
                clear hK K
                (try simp only [Act.put, List.getElem_toArray, List.getElem_cons_succ, List.getElem_cons_zero, List.setIfInBounds_toArray, List.set_cons_zero, List.set_cons_succ])
                refine wpAnyH_take (i := 16) (oi := _) (v := _) rfl (by kernel_rfl) (by kernel_rfl) (by kernel_rfl) (fun _ _ _ h => h) (Or.inl ⟨by rfl, by intro w hSw; (try dsimp only at hSw); go_simp; all_goals with_reducible rfl⟩) (by assumption) ?_
                simp only [Act.put, List.getElem_toArray, List.getElem_cons_succ, List.getElem_cons_zero, List.setIfInBounds_toArray, List.set_cons_zero, List.set_cons_succ]
                refine wpAnyH_done (by kernel_rfl) ?_ _
                have t3 := ((T1.out.no ((Frm.refl No w2).drew)).no hf3).put atv hi gn
                have l1 := ((put_frm (wr := w3) (g := g2) (i := atv) gn).cell (p := ⟨bx, 1, none⟩) (Nat.lt_of_lt_of_le hxl2 hf3.size) (fun e => hgx e)).trans ((hf3.cell (p := ⟨bx, 1, none⟩) hxl2 (fun h => h)).trans kk1)
                have l2 := ((put_frm (wr := w3) (g := g2) (i := atv) gn).cell (p := ⟨bx, 2, none⟩) (Nat.lt_of_lt_of_le hxl2 hf3.size) (fun e => hgx e)).trans ((hf3.cell (p := ⟨bx, 2, none⟩) hxl2 (fun h => h)).trans kk2)
                have l3 := ((put_frm (wr := w3) (g := g2) (i := atv) gn).cell (p := ⟨bx, 3, none⟩) (Nat.lt_of_lt_of_le hxl2 hf3.size) (fun e => hgx e)).trans ((hf3.cell (p := ⟨bx, 3, none⟩) hxl2 (fun h => h)).trans kk3)
                generalize ((((w3.setCell ⟨g2, atv * 4, none⟩ (.int .i64 gn.from_)).setCell ⟨g2, atv * 4 + 1, none⟩ (.int .i64 gn.to_)).setCell ⟨g2, atv * 4 + 2, none⟩ (.string ⟨gn.bytes.toArray⟩)).setCell ⟨g2, atv * 4 + 3, none⟩ (.bool gn.bad)) = W4 at *
                clear c0 c1 c2 c3 m0 m1 m2 m3 y0 y1 y2 y3 hz0' hz1' hz2' hz3' kk1 kk2 kk3 F4 hf3 HKK HTU
                dsimp only [Exit.then]
                go_wp2_with (go_at_call 10; refine (HSP.out _ t3.net).mono ?_; rintro e4 w4 ⟨rfl, v4, n4⟩)
                go_meet
                refine ⟨v4, fs.set atv gn, ⟨by rw [List.length_set]; omega, fun q hq => ?_⟩, t3.post n4⟩
                rcases List.mem_or_eq_of_mem_set hq with hq | rfl
                · exact hsm.2 q hq
                · rw [hgl, ← hfe]; exact hsm.2 _ (List.getElem_mem hi)
              · have hne' : ¬ (0 : Int) < (fs.length : Int) := by omega
                obtain rfl : fs = [] := List.eq_nil_of_length_eq_zero (by omega)
                have HSP := hid (fun w h => spoil_none B v xi xat xby w h)
                go_wp2_with (go_at_call 10; refine (HSP.out _ t0.net).mono ?_; rintro e1 w1 ⟨rfl, hf1⟩)
                go_meet
                exact ⟨v, [], hsm, t0.no hf1⟩
            · as_aux_lemma =>
              by_cases hne : 0 < fs.length
              · have hne' : (0 : Int) < (fs.length : Int) := by omega
                have hat : atv = pl xi fs.length := by rw [Hat.out, if_pos hne]
                have hi : atv < fs.length := by rw [hat]; exact pl_lt xi _ hne
                have hlk : look fs xi = fs[atv] := by rw [look_at hne]; simp only [hat]
                obtain ⟨f, hfe⟩ : ∃ f, fs[atv] = f := ⟨_, rfl⟩
                rw [hfe] at hlk
                have hiz : (atv : Int) < (fs.length : Int) := by omega
                have HL := hid (look_any' B v fs xi f hlk true (decide_eq_true hne) _ t0.net (by omega))
                clear hlk hat Hat
                go_wp2_with (go_at_call 11; refine HL.out.mono ?_; rintro e1 w1 ⟨rfl, hf1⟩)
                have hfa : Frm No wc (w1.alloc (.cells #[.int .i64 f.from_, .int .i64 f.to_, .string ⟨f.bytes.toArray⟩, .bool f.bad] 35)) := hf1.alloc _
                have kf : ∀ j, (w1.alloc (.cells #[.int .i64 f.from_, .int .i64 f.to_, .string ⟨f.bytes.toArray⟩, .bool f.bad] 35)).cell? ⟨w1.heap.size, j, none⟩ = (#[.int .i64 f.from_, .int .i64 f.to_, .string ⟨f.bytes.toArray⟩, .bool f.bad] : Array Value)[j]? := fun j => World.cell?_alloc_at _ _ _ _ rfl
                have t1 := t0.no hfa
                generalize (w1.alloc (.cells #[.int .i64 f.from_, .int .i64 f.to_, .string ⟨f.bytes.toArray⟩, .bool f.bad] 35)) = W2 at *
                obtain ⟨g, rfl, hbg, hnc, c0, c1, c2, c3, -⟩ := row_at t1.row rfl atv hi
                rw [hfe] at c0 c1 c2 c3
                have q1 := frr_neq f.from_ f.to_ f.bytes f.bad
                have T1 := hid t1
                clear hf1 HL k0 k1 k2 k3 hm t0 hr t1 hfa hfe
                generalize w1.heap.size = fb at *
                go_quiet (fail)
                dsimp only [Exit.then]
                go_wp2_with fail
                go_meet
                exact ⟨v, fs, hsm, T1.out.no ((Frm.refl No _).drewN _)⟩
              · have hne' : ¬ (0 : Int) < (fs.length : Int) := by omega
                obtain ⟨f, hlk⟩ : ∃ f, look fs xi = f := ⟨_, rfl⟩
                have HL := hid (look_any' B v fs xi f hlk false (decide_eq_false hne) _ t0.net (by omega))
                clear hlk Hat
                go_wp2_with (go_at_call 11; refine HL.out.mono ?_; rintro e1 w1 ⟨rfl, hf1⟩)
                have t1 := t0.no (hf1.alloc (.cells #[.int .i64 f.from_, .int .i64 f.to_, .string ⟨f.bytes.toArray⟩, .bool f.bad] 35))
                generalize (w1.alloc (.cells #[.int .i64 f.from_, .int .i64 f.to_, .string ⟨f.bytes.toArray⟩, .bool f.bad] 35)) = W2 at *
                have T1 := hid t1
                clear HL k0 k1 k2 k3 hm t0 hr t1 hf1
                generalize w1.heap.size = fb at *
                go_quiet (fail)
                dsimp only [Exit.then]
                go_wp2_with fail
                go_meet
                exact ⟨v, fs, hsm, T1.out.no ((Frm.refl No _).drewN _)⟩
          case rest =>
            as_aux_lemma =>
            obtain ⟨v2, fs2, hsm2, hTw2⟩ := hcut
            obtain ⟨uao2, uc2, rfl⟩ := ownsRow_shape hTw2.row
            clear t0 hatv hm kb
            go_wp2_with (go_at_call 12; refine (count_any B v2 fs2 _ hTw2.net).mono ?_; rintro e1 w1 ⟨rfl, rfl⟩)
            go_roundg (gk - 1)
            case measure => omega
            case rel => exact ⟨k + 1, v2, fs2, by omega, by omega, by go_num, hsm2, hTw2⟩
      · have HX := hid hTw
        clear hTw
        by_cases hka : k < xs.length
        · have hk2 : ¬ (k : Int) < 40 := fun h => hlast ⟨hka, by omega⟩
          have hkc : (k : Int) < (xs.length : Int) := by omega
          go_wp2_with fail
          go_meet
          exact ⟨v, fs, hsm, HX.out⟩
        · have hkc : ¬ (k : Int) < (xs.length : Int) := by omega
          go_wp2_with fail
          go_meet
          exact ⟨v, fs, hsm, HX.out⟩
end NetPlay
end Go.Proofs.Ythbacebkidggdaa
