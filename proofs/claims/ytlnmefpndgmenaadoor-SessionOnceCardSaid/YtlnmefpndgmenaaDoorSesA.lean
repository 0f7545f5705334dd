/- A client's session: New, Busy, request. A client's session: Receive. A client's session: Ask. A client's session: Tick. A request that is sent again. -/
import Derived.Test.YtlnmefpndgmenaaDoorMsgG10
import Derived.Test.YtlnmefpndgmenaaDoorMsgG11
import Derived.Deep.QuietTactic
import Derived.BigQuiet
import Derived.BigRegion
import Derived.Deep.RegionHeld3
namespace Go.Proofs.YtlnmefpndgmenaaDoor
open Go.RowKit
open Msg

/-- A session's cells: whose, among how many, its last request, the view, the text, whether it waits, how long. -/
def sesL (c r n v : Int) (t : List UInt8) (busy : Bool) (k : Int) : List Value := [.int .i64 c, .int .i64 r, .int .i64 n, .int .i64 v, .string ⟨t.toArray⟩, .bool busy, .int .i64 k]
def reqM (c n : Int) (t : List UInt8) : Ms := ⟨1, 0, 0, [], 0, 0, 0, 0, c, n, 0, t, false, 0, [], []⟩
theorem reqM_sml (c n : Int) (t : List UInt8) (ht : t.length ≤ 8192) : Sml (reqM c n t) := ⟨by simp [reqM], by simp [reqM], by simp [reqM]; omega, by simp [reqM], by simp [reqM]⟩
theorem reqM_rd (c n : Int) (t : List UInt8) (w : World) : MsR w (reqM c n t) (.slice none 0 0) (.slice none 0 0) := ⟨Rd.nil _ _ _ _, ⟨.inl ⟨rfl, none, 0, rfl⟩⟩⟩
theorem new_any (c : Int) (most : Int) (hc : 0 ≤ c ∧ c ≤ 2) (hm : 1 ≤ most ∧ most ≤ 3) (w : World) :
    Calls Tryd.prog 18 #[.int .i64 c, .int .i64 most] w fun e w' => ∃ b, e = .returned (.pointer (some ⟨b, 0, none⟩)) ∧ w.heap.size ≤ b ∧ BC w' b (sesL c (2 * most + 1) 0 0 [] false 0) ∧ Frm No w w' := by
  have h1 : ¬ c < 0 := by omega
  have h2 : ¬ (3 : Int) ≤ c := by omega
  have h3 : ¬ most < 1 := by omega
  have h4 : ¬ (3 : Int) < most := by omega
  have hbc := BC.new w (sesL c (2 * most + 1) 0 0 [] false 0) 92
  go_enter Tryd.func18, Tryd.ntmps18
  go_wp2_with fail
  go_ret
  exact ⟨_, rfl, Nat.le_refl _, hbc, (Frm.refl No w).alloc _⟩
theorem busy_any (b : Nat) (c r n v : Int) (t : List UInt8) (busy : Bool) (k : Int) (w : World) (h : BC w b (sesL c r n v t busy k)) :
    Calls Tryd.prog 45 #[.pointer (some ⟨b, 0, none⟩)] w fun e w' => e = .returned (.tuple #[.int .i64 n, .bool busy]) ∧ Frm No w w' := by
  have h2 : w.cell? ⟨b, 2, none⟩ = some (.int .i64 n) := h.cell 2
  have h5 : w.cell? ⟨b, 5, none⟩ = some (.bool busy) := h.cell 5
  go_enter Tryd.func45, Tryd.ntmps45
  go_wp2_with fail
  go_quiet (fail)
  go_wp2_with fail
  go_ret2
  exact ⟨rfl, (Frm.refl No w).drewN _⟩
set_option maxRecDepth 100000 in
set_option maxHeartbeats 1000000 in
theorem request_any (b : Nat) (c r n v : Int) (t : List UInt8) (busy : Bool) (k : Int) (w : World) (h : BC w b (sesL c r n v t busy k)) (ht : t.length ≤ 8192) (hT : Tab w) :
    Calls Tryd.prog 46 #[.pointer (some ⟨b, 0, none⟩)] w fun e w' => e = .returned (.string ⟨(Msg.put (reqM c n t) r).toArray⟩) ∧ Frm No w w' := by
  have h0 : w.cell? ⟨b, 0, none⟩ = some (.int .i64 c) := h.cell 0
  have h1 : w.cell? ⟨b, 1, none⟩ = some (.int .i64 r) := h.cell 1
  have h2 : w.cell? ⟨b, 2, none⟩ = some (.int .i64 n) := h.cell 2
  have h4 : w.cell? ⟨b, 4, none⟩ = some (.string ⟨t.toArray⟩) := h.cell 4
  have HP := hid (mput_any (reqM c n t) (.slice none 0 0) (.slice none 0 0) r w.drew (reqM_sml c n t ht) (reqM_rd c n t _) (hT.no (Frm.refl No w).drew))
  generalize Msg.put (reqM c n t) r = F at *
  clear h hT
  go_enter Tryd.func46, Tryd.ntmps46
  go_wp2_with fail
  go_still_tail 17, (by kernel_rfl)
  change wpList _ _ _ _ _ w.drew
  go_wp2_with (go_at_call 11; refine HP.out.mono ?_; rintro e1 w1 ⟨rfl, hf1⟩)
  go_ret
  exact ⟨rfl, (Frm.refl No w).drew.thenNo hf1⟩
end Go.Proofs.YtlnmefpndgmenaaDoor

namespace Go.Proofs.YtlnmefpndgmenaaDoor
open Go.RowKit
open Msg

/-- A reply among five replicas. -/
def repM (c n : Int) (t : List UInt8) : Ms := ⟨4, 0, 0, [0, 0, 0, 0, 0], 0, 0, 0, 0, c, n, 0, t, false, 0, [], []⟩
theorem repM_good (c n : Int) (t : List UInt8) (hc : 0 ≤ c ∧ c ≤ 2) (hn : 1 ≤ n ∧ n ≤ 9007199254740992) (ht : t.length ≤ 8192) : good (repM c n t) 5 = true := by
  unfold repM
  simp [good, Msg.shape, amt, kindG, headG, nums, Msg.num, lens, fits, proj, has, lets]
  omega
theorem repM_put (c n : Int) (t : List UInt8) (hc : 0 ≤ c ∧ c ≤ 2) (hn : 1 ≤ n ∧ n ≤ 9007199254740992) (ht : t.length ≤ 8192) : Msg.put (repM c n t) 5 = Frl.wrap (body (repM c n t)) := if_pos (repM_good c n t hc hn ht)

set_option maxRecDepth 100000 in
set_option maxHeartbeats 1000000 in
theorem recv_idle (b : Nat) (c r n v : Int) (t : List UInt8) (k : Int) (f : List UInt8) (w : World) (h : BC w b (sesL c r n v t false k)) :
    Calls Tryd.prog 20 #[.pointer (some ⟨b, 0, none⟩), .string ⟨f.toArray⟩] w fun e w' => e = .returned (.tuple #[.string ⟨([] : List UInt8).toArray⟩, .bool false]) ∧ Frm No w w' := by
  have h5 : w.cell? ⟨b, 5, none⟩ = some (.bool false) := h.cell 5
  clear h
  go_enter Tryd.func20, Tryd.ntmps20
  go_wp2_with fail
  go_ret2
  exact ⟨rfl, Frm.refl _ _⟩

set_option maxRecDepth 100000 in
set_option maxHeartbeats 2000000 in
theorem recv_other (b : Nat) (c n v : Int) (t : List UInt8) (k : Int) (c' n' : Int) (t' : List UInt8) (w : World) (h : BC w b (sesL c 5 n v t true k)) (hc : 0 ≤ c' ∧ c' ≤ 2) (hn : 1 ≤ n' ∧ n' ≤ 9007199254740992) (ht : t'.length ≤ 8192)
    (hne : ¬ (c' = c ∧ n' = n)) (hT : Tab w) :
    Calls Tryd.prog 20 #[.pointer (some ⟨b, 0, none⟩), .string ⟨(Msg.put (repM c' n' t') 5).toArray⟩] w fun e w' => e = .returned (.tuple #[.string ⟨([] : List UInt8).toArray⟩, .bool false]) ∧ Frm No w w' := by
  have HG := hid (mget_good (repM c' n' t') 5 w (repM_good c' n' t' hc hn ht) hT)
  rw [← repM_put c' n' t' hc hn ht] at HG
  generalize Msg.put (repM c' n' t') 5 = F at *
  have hbl : b < w.heap.size := World.block_lt_of_cell? w ⟨b, 0, none⟩ (h.cell 0)
  have h0 : w.cell? ⟨b, 0, none⟩ = some (.int .i64 c) := h.cell 0
  have h1 : w.cell? ⟨b, 1, none⟩ = some (.int .i64 5) := h.cell 1
  have h2 : w.cell? ⟨b, 2, none⟩ = some (.int .i64 n) := h.cell 2
  have h5 : w.cell? ⟨b, 5, none⟩ = some (.bool true) := h.cell 5
  have hne' : c' ≠ c ∨ (c' = c ∧ n' ≠ n) := by omega
  clear h hT hne
  unfold msV msC repM at HG
  go_enter Tryd.func20, Tryd.ntmps20
  go_wp2_with (go_at_call 14; refine HG.out.mono ?_; rintro e1 w1 ⟨kv, ev, rfl, hms, hf1⟩; obtain ⟨ka, kc, rfl⟩ := hms.kr.shape; obtain ⟨ea, ec, rfl⟩ := hms.er.shape; have g0 := (hf1.cell (p := ⟨b, 0, none⟩) hbl (fun h => h)).trans h0; have g2 := (hf1.cell (p := ⟨b, 2, none⟩) hbl (fun h => h)).trans h2)
  obtain ⟨W, hWe⟩ : ∃ W, w1.alloc (.cells #[.int .i64 4, .int .i64 0, .int .i64 0, .slice ka 5 kc, .int .i64 0, .int .i64 0, .int .i64 0, .int .i64 0, .int .i64 c', .int .i64 n', .int .i64 0, .string ⟨t'.toArray⟩, .bool false, .int .i64 0, .string ⟨#[]⟩, .slice ea 0 ec] 31) = W := ⟨_, rfl⟩
  have hFW : Frm No w1 W := by rw [← hWe]; exact (Frm.refl No w1).alloc _
  have bx : ∀ j, W.cell? ⟨w1.heap.size, j, none⟩ = (#[.int .i64 4, .int .i64 0, .int .i64 0, .slice ka 5 kc, .int .i64 0, .int .i64 0, .int .i64 0, .int .i64 0, .int .i64 c', .int .i64 n', .int .i64 0, .string ⟨t'.toArray⟩, .bool false, .int .i64 0, .string ⟨#[]⟩, .slice ea 0 ec] : Array Value)[j]? := fun j => by rw [← hWe]; exact World.cell?_alloc_at _ _ _ _ rfl
  have hb1 : b < w1.heap.size := Nat.lt_of_lt_of_le hbl hf1.size
  have q0 := (hFW.cell (p := ⟨b, 0, none⟩) hb1 (fun h => h)).trans g0
  have q2 := (hFW.cell (p := ⟨b, 2, none⟩) hb1 (fun h => h)).trans g2
  have HFT := hid (hf1.thenNo hFW)
  simp only [hWe]
  clear hms HG g0 g2 h0 h1 h2 h5 hWe hFW hf1
  generalize w1.heap.size = mb at *
  rcases hne' with h | ⟨rfl, h⟩
  · have e1 : (c' != c) = true := by simpa using h
    clear h
    go_quiet (fail)
    go_wp2_with fail
    go_ret2
    exact ⟨rfl, HFT.out.drewN _⟩
  · have e2 : (n' != n) = true := by simpa using h
    clear h
    go_quiet (fail)
    go_wp2_with fail
    go_ret2
    exact ⟨rfl, HFT.out.drewN _⟩

set_option maxRecDepth 100000 in
set_option maxHeartbeats 2000000 in
theorem recv_mine (b : Nat) (c n v : Int) (t : List UInt8) (k : Int) (t' : List UInt8) (w : World) (h : BC w b (sesL c 5 n v t true k)) (hc : 0 ≤ c ∧ c ≤ 2) (hn : 1 ≤ n ∧ n ≤ 9007199254740992) (ht : t'.length ≤ 8192) (hT : Tab w) :
    Calls Tryd.prog 20 #[.pointer (some ⟨b, 0, none⟩), .string ⟨(Msg.put (repM c n t') 5).toArray⟩] w fun e w' => e = .returned (.tuple #[.string ⟨t'.toArray⟩, .bool true]) ∧ BC w' b (sesL c 5 n (max v 0) t false k) ∧ Frm (One b) w w' := by
  have HG := hid (mget_good (repM c n t') 5 w (repM_good c n t' hc hn ht) hT)
  rw [← repM_put c n t' hc hn ht] at HG
  generalize Msg.put (repM c n t') 5 = F at *
  have hbl : b < w.heap.size := World.block_lt_of_cell? w ⟨b, 0, none⟩ (h.cell 0)
  have h0 : w.cell? ⟨b, 0, none⟩ = some (.int .i64 c) := h.cell 0
  have h1 : w.cell? ⟨b, 1, none⟩ = some (.int .i64 5) := h.cell 1
  have h2 : w.cell? ⟨b, 2, none⟩ = some (.int .i64 n) := h.cell 2
  have h5 : w.cell? ⟨b, 5, none⟩ = some (.bool true) := h.cell 5
  have HB := hid h
  clear h hT
  unfold msV msC repM at HG
  go_enter Tryd.func20, Tryd.ntmps20
  go_wp2_with (go_at_call 14; refine HG.out.mono ?_; rintro e1 w1 ⟨kv, ev, rfl, hms, hf1⟩; obtain ⟨ka, kc, rfl⟩ := hms.kr.shape; obtain ⟨ea, ec, rfl⟩ := hms.er.shape; have g0 := (hf1.cell (p := ⟨b, 0, none⟩) hbl (fun h => h)).trans h0; have g2 := (hf1.cell (p := ⟨b, 2, none⟩) hbl (fun h => h)).trans h2)
  obtain ⟨W, hWe⟩ : ∃ W, w1.alloc (.cells #[.int .i64 4, .int .i64 0, .int .i64 0, .slice ka 5 kc, .int .i64 0, .int .i64 0, .int .i64 0, .int .i64 0, .int .i64 c, .int .i64 n, .int .i64 0, .string ⟨t'.toArray⟩, .bool false, .int .i64 0, .string ⟨#[]⟩, .slice ea 0 ec] 31) = W := ⟨_, rfl⟩
  have hFW : Frm No w1 W := by rw [← hWe]; exact (Frm.refl No w1).alloc _
  have bx : ∀ j, W.cell? ⟨w1.heap.size, j, none⟩ = (#[.int .i64 4, .int .i64 0, .int .i64 0, .slice ka 5 kc, .int .i64 0, .int .i64 0, .int .i64 0, .int .i64 0, .int .i64 c, .int .i64 n, .int .i64 0, .string ⟨t'.toArray⟩, .bool false, .int .i64 0, .string ⟨#[]⟩, .slice ea 0 ec] : Array Value)[j]? := fun j => by rw [← hWe]; exact World.cell?_alloc_at _ _ _ _ rfl
  have hb1 : b < w1.heap.size := Nat.lt_of_lt_of_le hbl hf1.size
  have q0 := (hFW.cell (p := ⟨b, 0, none⟩) hb1 (fun h => h)).trans g0
  have q2 := (hFW.cell (p := ⟨b, 2, none⟩) hb1 (fun h => h)).trans g2
  have HFT := hid (hf1.thenNo hFW)
  simp only [hWe]
  clear hms HG g0 g2 h0 h1 h2 h5 hWe hFW hf1
  have hne : w1.heap.size ≠ b := by omega
  generalize w1.heap.size = mb at *
  have HBx := hid bx
  go_quiet (fail)
  go_wp2_with fail
  obtain ⟨X, hX⟩ : ∃ X : World, W.drewN nq = X := ⟨_, rfl⟩
  have HBX := hid (show BC X b (sesL c 5 n v t true k) by rw [← hX]; exact HB.out.frm hbl (HFT.out.drewN nq) (fun h => h))
  have x3 : X.cell? ⟨b, 3, none⟩ = some (.int .i64 v) := HBX.out.cell 3
  have x5 : X.cell? ⟨b, 5, none⟩ = some (.bool true) := HBX.out.cell 5
  have y3 : X.frozen? ⟨b, 3, none⟩ = false := HBX.out.fr 3
  have y5 : X.frozen? ⟨b, 5, none⟩ = false := HBX.out.fr 5
  have m4 : X.cell? ⟨mb, 4, none⟩ = some (.int .i64 0) := by rw [← hX]; exact HBx.out 4
  have m11 : X.cell? ⟨mb, 11, none⟩ = some (.string ⟨t'.toArray⟩) := by rw [← hX]; exact HBx.out 11
  have HFX := hid (show Frm No w X by rw [← hX]; exact HFT.out.drewN nq)
  simp only [hX]
  clear bx hX q0 q2
  go_region
  all_goals
    go_wp2_with fail
    go_ret2
    refine ⟨rfl, ((show BC X.drew b (sesL c 5 n v t true k) from ⟨HBX.out.cell, HBX.out.fr⟩).set 5 (by simp [sesL]) (.bool false)).set 3 (by simp [sesL]) (.int .i64 (max v 0)), ?_⟩
    exact ((HFX.out.drew.any (U := One b)).setCell (p := ⟨b, 5, none⟩) (fun _ => rfl) _).setCell (p := ⟨b, 3, none⟩) (fun _ => rfl) _
end Go.Proofs.YtlnmefpndgmenaaDoor

namespace Go.Proofs.YtlnmefpndgmenaaDoor
open Go.RowKit
open Msg

set_option maxRecDepth 100000 in
set_option maxHeartbeats 2000000 in
theorem ask_any (b : Nat) (c r n : Int) (t : List UInt8) (k : Int) (t' : List UInt8) (w : World) (h : BC w b (sesL c r n 0 t false k)) (hr : r = 3 ∨ r = 5) (hn : 0 ≤ n ∧ n ≤ 1000) (ht : t'.length ≤ 8192) (hT : Tab w) (hb0 : b ≠ 0) :
    Calls Tryd.prog 19 #[.pointer (some ⟨b, 0, none⟩), .string ⟨t'.toArray⟩] w fun e w' => ∃ g, e = .returned (.tuple #[.slice (some ⟨g, 0, none⟩) 1 1, .int .i64 0]) ∧ w.heap.size ≤ g ∧ w'.cell? ⟨g, 1, none⟩ = some (.string ⟨(Msg.put (reqM c (n + 1) t') r).toArray⟩) ∧ BC w' b (sesL c r (n + 1) 0 t' true 0) ∧ Frm (One b) w w' := by
  have hbl : b < w.heap.size := World.block_lt_of_cell? w ⟨b, 0, none⟩ (h.cell 0)
  have hc := h.cell
  have hfz := h.fr
  have h2 : w.cell? ⟨b, 2, none⟩ = some (.int .i64 n) := hc 2
  have h4 : w.cell? ⟨b, 4, none⟩ = some (.string ⟨t.toArray⟩) := hc 4
  have h5 : w.cell? ⟨b, 5, none⟩ = some (.bool false) := hc 5
  have h6 : w.cell? ⟨b, 6, none⟩ = some (.int .i64 k) := hc 6
  have hl : ¬ (8192 : Int) < (t'.length : Int) := by omega
  obtain ⟨X, hX⟩ : ∃ X, (((w.setCell ⟨b, 2, none⟩ (.int .i64 (n + 1))).setCell ⟨b, 4, none⟩ (.string ⟨t'.toArray⟩)).setCell ⟨b, 5, none⟩ (.bool true)).setCell ⟨b, 6, none⟩ (.int .i64 0) = X := ⟨_, rfl⟩
  have bX : BC X b (sesL c r (n + 1) 0 t' true 0) := by
    rw [← hX]
    exact (((h.set 2 (by simp [sesL]) (.int .i64 (n + 1))).set 4 (by simp [sesL]) (.string ⟨t'.toArray⟩)).set 5 (by simp [sesL]) (.bool true)).set 6 (by simp [sesL]) (.int .i64 0)
  have hFX : Frm (One b) w X := by
    rw [← hX]
    exact ((((Frm.refl (One b) w).setCell (p := ⟨b, 2, none⟩) (fun _ => rfl) _).setCell (p := ⟨b, 4, none⟩) (fun _ => rfl) _).setCell (p := ⟨b, 5, none⟩) (fun _ => rfl) _).setCell (p := ⟨b, 6, none⟩) (fun _ => rfl) _
  have HRq := hid (fun w1 (hf : Frm No X w1) => request_any b c r (n + 1) 0 t' true 0 w1 (bX.frm (by have := hFX.size; omega) hf (fun h => h)) ht ((hT.frm hFX (fun e => hb0 (by have e : 0 = b := e; exact e.symm))).no hf))
  have HK : Hid (∀ w', Frm No X w' → w'.cell? ⟨b, 3, none⟩ = some (.int .i64 0) ∧ w'.cell? ⟨b, 1, none⟩ = some (.int .i64 r)) := hid (fun w' hf => ⟨(hf.cell (p := ⟨b, 3, none⟩) (by have := hFX.size; show b < _; omega) (fun h => h)).trans (bX.cell 3), (hf.cell (p := ⟨b, 1, none⟩) (by have := hFX.size; show b < _; omega) (fun h => h)).trans (bX.cell 1)⟩)
  have HFX := hid hFX
  have HBX := hid bX
  generalize Msg.put (reqM c (n + 1) t') r = F at *
  clear h hc bX hFX hT hb0
  rcases hr with rfl | rfl
  · go_enter Tryd.func19, Tryd.ntmps19
    go_wp2_with fail
    clear h2 h4 h5 h6 hfz hX
    go_region_held3 (fun w' => w'.cell? ⟨b, 3, none⟩ = some (.int .i64 0) ∧ w'.cell? ⟨b, 1, none⟩ = some (.int .i64 3)) (exact HK.out _ (by repeat (first | with_reducible exact Frm.refl _ _ | with_reducible exact F4 | with_reducible refine Frm.drew ?_ | with_reducible refine Frm.alloc ?_ _))) (first | (go_at_call 46; refine (HRq.out _ (Frm.refl No X).drew).mono ?_; rintro e1 w4 ⟨rfl, hf4⟩; have F4 : Frm No X w4 := ((Frm.refl No X).drew).thenNo hf4))
    all_goals
      go_wp2_with fail
      go_ret2
      refine ⟨_, rfl, Nat.le_trans HFX.out.size F4.size, ?_, HBX.out.frm (by have := HFX.out.size; omega) (F4.alloc _) (fun h => h), HFX.out.thenNo (F4.alloc _)⟩
      rw [World.cell?_alloc_at _ _ _ _ rfl]
      rfl
  · go_enter Tryd.func19, Tryd.ntmps19
    go_wp2_with fail
    clear h2 h4 h5 h6 hfz hX
    go_region_held3 (fun w' => w'.cell? ⟨b, 3, none⟩ = some (.int .i64 0) ∧ w'.cell? ⟨b, 1, none⟩ = some (.int .i64 5)) (exact HK.out _ (by repeat (first | with_reducible exact Frm.refl _ _ | with_reducible exact F4 | with_reducible refine Frm.drew ?_ | with_reducible refine Frm.alloc ?_ _))) (first | (go_at_call 46; refine (HRq.out _ (Frm.refl No X).drew).mono ?_; rintro e1 w4 ⟨rfl, hf4⟩; have F4 : Frm No X w4 := ((Frm.refl No X).drew).thenNo hf4))
    all_goals
      go_wp2_with fail
      go_ret2
      refine ⟨_, rfl, Nat.le_trans HFX.out.size F4.size, ?_, HBX.out.frm (by have := HFX.out.size; omega) (F4.alloc _) (fun h => h), HFX.out.thenNo (F4.alloc _)⟩
      rw [World.cell?_alloc_at _ _ _ _ rfl]
      rfl
end Go.Proofs.YtlnmefpndgmenaaDoor

namespace Go.Proofs.YtlnmefpndgmenaaDoor
open Go.RowKit
open Msg

theorem info_out : (Tryd.prog.info? 90).map (fun i => (i.zero, i.size, i.bytes)) = some (some (.agg #[.int .i64 0, .string ByteArray.empty]), 2, 24) := by kernel_rfl
def outsV (F : List UInt8) (j : Nat) : List Value := (List.range j).flatMap fun (i : Nat) => [Value.int .i64 (i : Int), .string ⟨F.toArray⟩]
theorem outsV_succ (F : List UInt8) (j : Nat) : outsV F (j + 1) = outsV F j ++ [.int .i64 (j : Int), .string ⟨F.toArray⟩] := by simp [outsV, List.range_succ]
set_option maxRecDepth 100000 in
set_option maxHeartbeats 2000000 in
theorem tick_low (b : Nat) (c r n v : Int) (t : List UInt8) (k : Int) (w : World) (h : BC w b (sesL c r n v t true k)) (hk : k = 0 ∨ k = 1 ∨ k = 2) :
    Calls Tryd.prog 44 #[.pointer (some ⟨b, 0, none⟩)] w fun e w' => e = .returned (.slice none 0 0) ∧ BC w' b (sesL c r n v t true (k + 1)) ∧ Frm (One b) w w' := by
  have h5 : w.cell? ⟨b, 5, none⟩ = some (.bool true) := h.cell 5
  have h6 : w.cell? ⟨b, 6, none⟩ = some (.int .i64 k) := h.cell 6
  have hfz := h.fr
  have HX := hid (h.set 6 (by simp [sesL]) (.int .i64 (k + 1)))
  have HF := hid (Frm.setCell (p := ⟨b, 6, none⟩) (Frm.refl (One b) w) (fun _ => rfl) (.int .i64 (k + 1)))
  clear h
  rcases hk with rfl | rfl | rfl
  all_goals
    go_enter Tryd.func44, Tryd.ntmps44
    go_wp2_with fail
    go_ret
    exact ⟨rfl, HX.out, HF.out⟩
set_option maxRecDepth 100000 in
set_option maxHeartbeats 2000000 in
theorem tick_due (b : Nat) (c n v : Int) (t : List UInt8) (w : World) (h : BC w b (sesL c 3 n v t true 3)) (ht : t.length ≤ 8192) (hT : Tab w) (hb0 : b ≠ 0) :
    Calls Tryd.prog 44 #[.pointer (some ⟨b, 0, none⟩)] w fun e w' => ∃ s, e = .returned s ∧ w'.ownsRow w.heap.size 90 2 s 3 (outsV (Msg.put (reqM c n t) 3) 3) ∧ BC w' b (sesL c 3 n v t true 4) ∧ Frm (One b) w w' := by
  obtain ⟨i0, gi, gz0, gz1, gz2⟩ := info_parts info_out
  have hbl : b < w.heap.size := World.block_lt_of_cell? w ⟨b, 0, none⟩ (h.cell 0)
  have h5 : w.cell? ⟨b, 5, none⟩ = some (.bool true) := h.cell 5
  have h6 : w.cell? ⟨b, 6, none⟩ = some (.int .i64 3) := h.cell 6
  have h1 : w.cell? ⟨b, 1, none⟩ = some (.int .i64 3) := h.cell 1
  have hfz := h.fr
  have hX := h.set 6 (by simp [sesL]) (.int .i64 4)
  have hF := Frm.setCell (p := ⟨b, 6, none⟩) (Frm.refl (One b) w) (fun _ => rfl) (.int .i64 4)
  have HT := hid hT
  have HR := hid (fun (w1 : World) (hb : BC w1 b (sesL c 3 n v t true 4)) (hf : Frm (One b) w w1) => request_any b c 3 n v t true 4 w1 hb ht (hT.frm hf (fun e => hb0 (by have e : 0 = b := e; exact e.symm))))
  generalize Msg.put (reqM c n t) 3 = F at *
  have HX := hid hX
  have HF := hid hF
  clear h hX hF hT hb0
  go_enter Tryd.func44, Tryd.ntmps44
  go_wp2_with fail
  go_loopw [3, 4, 31] (fun s _ i wr => ∃ j : Nat, j ≤ 3 ∧ i = .int .i64 (j : Int) ∧ wr.ownsRow w.heap.size 90 2 s j (outsV F j) ∧ BC wr b (sesL c 3 n v t true 4) ∧ Frm (One b) w wr)
    (fun _ _ i _ => 3 - (intOf i).toNat)
  case atStart => exact ⟨0, by omega, rfl, World.ownsRow_nil _ _ _ _, HX.out, HF.out⟩
  case round =>
    obtain ⟨j, hj, rfl, ho, hb, hf⟩ := hrel
    by_cases hj3 : j < 3
    · have hjz : (j : Int) < 3 := by omega
      have HO := hid ho
      have HB := hid hb
      have HFr := hid hf
      obtain ⟨ao, cp, rfl⟩ := ownsRow_shape ho
      clear ho hb hf
      go_wp2_with (first | (go_at_call 46; refine (HR.out _ HB.out HFr.out).mono ?_; rintro e1 w4 ⟨rfl, hf4⟩) | (at_builtin; refine wpList_push _ rfl (.tmp 34) (.tmp 39) 53 rfl w.heap.size 90 i0 _ 2 24 Tryd.underlying53 gi gz0 gz1 gz2 rfl (.slice ao j cp) j (outsV F j) rfl (hf4.row HO.out (fun _ _ h => h)) [.int .i64 (j : Int), .string ⟨F.toArray⟩] rfl rfl (by intro u hu; simp only [List.mem_cons, List.not_mem_nil, or_false] at hu; rcases hu with rfl | rfl <;> rfl) (by omega) (by omega) (Nat.le_trans HFr.out.size hf4.size) ?_; intro u1 w5 hown hfu hu hz5))
      have hlt : ∀ g, (Value.slice ao j cp).ownBlock = some g → w.heap.size ≤ g := fun g hg => (HO.out.lt g hg).1
      refine ⟨⟨j + 1, by omega, by go_num, by rw [outsV_succ]; exact hown, (HB.out.frm (by have := HFr.out.size; omega) hf4 (fun h => h)).frm (by have := HFr.out.size; have := hf4.size; omega) hfu (fun e => by have := hlt b e; omega), (HFr.out.thenNo hf4).trans hfu (fun _ _ h => h) (fun i hi e => by have := hlt i e; omega)⟩, by simp [intOf]; omega⟩
    · obtain rfl : j = 3 := by omega
      go_wp2_with fail
      go_ret
      exact ⟨_, rfl, ho, hb, hf⟩
end Go.Proofs.YtlnmefpndgmenaaDoor

namespace Go.Proofs.YtlnmefpndgmenaaDoor
open Go.RowKit
open Msg

set_option maxRecDepth 100000 in
set_option maxHeartbeats 4000000 in
theorem sesspeaks (w : World) (hT : Tab w) : Calls Tryd.prog 17 #[] w fun e w' => e = .returned (.bool true) ∧ Frm No w w' := by
  have HT := hid hT
  have HN := hid (new_any 1 1 (by omega) (by omega) w)
  obtain ⟨F, hF⟩ : ∃ F, Msg.put (reqM 1 1 [120]) 3 = F := ⟨_, rfl⟩
  have HAsk := hid (fun b w1 (hb : BC w1 b (sesL 1 3 0 0 [] false 0)) (hT1 : Tab w1) (h0 : b ≠ 0) => ask_any b 1 3 0 [] 0 [120] w1 hb (.inl rfl) (by omega) (by simp) hT1 h0)
  have HTd := hid (fun b w1 (hb : BC w1 b (sesL 1 3 1 0 [120] true 3)) (hT1 : Tab w1) (h0 : b ≠ 0) => tick_due b 1 1 0 [120] w1 hb (by simp) hT1 h0)
  have HTl := hid (fun b w1 k (hb : BC w1 b (sesL 1 3 1 0 [120] true k)) (hk : k = 0 ∨ k = 1 ∨ k = 2) => tick_low b 1 3 1 0 [120] k w1 hb hk)
  have HBu := hid (fun b w1 (hb : BC w1 b (sesL 1 3 1 0 [120] true 4)) => busy_any b 1 3 1 0 [120] true 4 w1 hb)
  have hw0 := hT.lt
  simp only [show (0 : Int) + 1 = 1 from rfl, hF] at HAsk HTd
  clear hT hF
  go_enter Tryd.func17, Tryd.ntmps17
  go_wp2_with (first | (go_at_call 18; refine HN.out.mono ?_; rintro e1 w1 ⟨b, rfl, hb, bc1, hf1⟩) | (go_at_call 19; refine (HAsk.out b w1 bc1 (HT.out.no hf1) (by omega)).mono ?_; rintro e2 w2 ⟨g, rfl, hg, hg1, bc2, hf2⟩))
  have h2 : Frm No w w2 := hf1.trans hf2 (fun _ _ h => h) (fun i hi e => by have e : i = b := e; omega)
  have hgb : g ≠ b := fun e => by
    have : b < w1.heap.size := World.block_lt_of_cell? w1 ⟨b, 0, none⟩ (bc1.cell 0)
    omega
  have H2 := hid h2
  have Hg1 := hid hg1
  have hgl := World.block_lt_of_cell? w2 _ hg1
  have hgl : g < w2.heap.size := hgl
  clear hf1 hf2 h2 hg1 bc1 HN HAsk
  go_loopw [4] (fun i wr => ∃ k : Nat, k ≤ 3 ∧ i = .int .i64 (k : Int) ∧ BC wr b (sesL 1 3 1 0 [120] true (k : Int)) ∧ Frm (One b) w2 wr)
    (fun i _ => 3 - (intOf i).toNat)
  case atStart => exact ⟨0, by omega, rfl, bc2, Frm.refl _ _⟩
  case round =>
    obtain ⟨k, hk, rfl, bk, hfk⟩ := hrel
    clear bc2
    by_cases hk3 : k < 3
    · have hkz : (k : Int) < 3 := by omega
      have HBk := hid bk
      have HFk := hid hfk
      clear bk hfk
      go_wp2_with (go_at_call 44; refine (HTl.out b wr (k : Int) HBk.out (by omega)).mono ?_; rintro e3 w3 ⟨rfl, bc3, hf3⟩)
      refine ⟨⟨k + 1, by omega, by go_num, ?_, HFk.out.then_ hf3⟩, by simp [intOf]; omega⟩
      have : ((k + 1 : Nat) : Int) = (k : Int) + 1 := by omega
      rw [this]
      exact bc3
    · obtain rfl : k = 3 := by omega
      have HBk := hid bk
      have HFk := hid hfk
      have hT3 := hid ((HT.out.no H2.out).frm hfk (fun e => by have e : 0 = b := e; omega))
      clear bk hfk
      go_wp2_with (first | (go_at_call 44; refine (HTd.out b wr HBk.out hT3.out (by omega)).mono ?_; rintro e4 w4 ⟨s, rfl, ho, bc4, hf4⟩; obtain ⟨sa, sc, rfl⟩ := ownsRow_shape ho) | (go_at_call 45; refine (HBu.out b w4 bc4).mono ?_; rintro e5 w5 ⟨rfl, hf5⟩))
      have ho5 := hf5.row ho (fun _ _ h => h)
      obtain ⟨sb, so, rfl, hsc⟩ := (Rd.ofOwn ho5).at_ (by omega)
      have hs5 := hsc 5 (by omega)
      simp only [outsV] at hs5
      have k5 : w5.cell? ⟨sb, so + 4 + 1, none⟩ = some (.string ⟨F.toArray⟩) := hs5
      have kg : w5.cell? ⟨g, 1, none⟩ = some (.string ⟨F.toArray⟩) := by
        rw [hf5.cell (p := ⟨g, 1, none⟩) (by have := HFk.out.size; have := hf4.size; show g < _; omega) (fun h => h), hf4.cell (p := ⟨g, 1, none⟩) (by have := HFk.out.size; show g < _; omega) (fun e => hgb e), HFk.out.cell (p := ⟨g, 1, none⟩) hgl (fun e => hgb e)]
        exact Hg1.out
      have HFin := hid ((((H2.out.trans HFk.out (fun _ _ h => h) (fun i hi e => by have e : i = b := e; omega)).trans hf4 (fun _ _ h => h) (fun i hi e => by have e : i = b := e; omega))).thenNo hf5)
      clear ho ho5 hsc hs5 bc4 hf4 hf5
      go_quiet (fail)
      go_wp2_with fail
      go_ret
      exact ⟨rfl, HFin.out.drewN _⟩
end Go.Proofs.YtlnmefpndgmenaaDoor
