/- The scanner's faults, names and literals. -/
import Derived.Test.YtebocnpbiiejmaaDoorTwAB
import Derived.Test.YtebocnpbiiejmaaDoorShelf
import Derived.Deep.Cut
namespace Go.Proofs.YtebocnpbiiejmaaDoor
open Go.RowKit
theorem inName_any (c : UInt8) (w : World) :
    Calls Tryd.prog 61 #[.int .u8 (c.toNat : Int)] w fun e w' => e = .returned (.bool (Gr.inName c)) ∧ w' = w := by
  have E : Hid (Gr.inName c = (Gr.isLetter c || (decide (48 ≤ (c.toNat : Int)) && decide ((c.toNat : Int) ≤ 57)) || ((c.toNat : Int) == 95) || ((c.toNat : Int) == 45))) := hid (by
    unfold Gr.inName
    have h1 : (48 ≤ c) ↔ (48 ≤ (c.toNat : Int)) := by rw [UInt8.le_iff_toNat_le]; show (48 ≤ c.toNat) ↔ _; omega
    have h2 : (c ≤ 57) ↔ ((c.toNat : Int) ≤ 57) := by rw [UInt8.le_iff_toNat_le]; show (c.toNat ≤ 57) ↔ _; omega
    have h3 : (c == 95) = ((c.toNat : Int) == 95) := by
      rw [Bool.eq_iff_iff, beq_iff_eq, beq_iff_eq, ← UInt8.toNat_inj]
      show c.toNat = 95 ↔ _
      omega
    have h4 : (c == 45) = ((c.toNat : Int) == 45) := by
      rw [Bool.eq_iff_iff, beq_iff_eq, beq_iff_eq, ← UInt8.toNat_inj]
      show c.toNat = 45 ↔ _
      omega
    simp only [h1, h2, h3, h4])
  obtain ⟨l, hl⟩ : ∃ l, Gr.isLetter c = l := ⟨_, rfl⟩
  have HL := fun w => letter_any c w
  rw [hl] at HL
  have E2 := E.out
  rw [hl] at E2
  have HE := hid E2
  clear hl E E2
  cases l
  all_goals
    go_enter Tryd.func61, Tryd.ntmps61
    go_wp2_with (go_at_call 48; refine (HL _).mono ?_; rintro e w1 ⟨rfl, rfl⟩)
    all_goals
      go_ret
      refine ⟨?_, rfl⟩
      rw [HE.out]
      simp_all
      try (rw [decide_eq_false (by omega)]; simp_all)
      try omega
theorem fail_any (b n : Nat) (s : List UInt8) (v : Value) (k : Int) (t : ByteArray) (x y e0 : Int) (w : World) (h : Scn w b s n v) :
    Calls Tryd.prog 52 #[.pointer (some ⟨b, 0, none⟩), .agg #[.int .i64 k, .string t, .int .i64 x, .int .i64 y], .int .i64 e0] w fun e w' => e = .returned (.bool false) ∧ Frm (One b) w w' ∧ w'.cell? ⟨b, 7, none⟩ = some (.int .i64 e0) ∧ (∃ z : Int, w'.cell? ⟨b, 5, none⟩ = some (.int .i64 z)) ∧ ∃ z : Int, w'.cell? ⟨b, 6, none⟩ = some (.int .i64 z) := by
  obtain ⟨x5, h5⟩ := h.c5
  obtain ⟨x6, h6⟩ := h.c6
  obtain ⟨x7, h7⟩ := h.c7
  have hf := h.f
  have hb := h.lt
  go_enter Tryd.func52, Tryd.ntmps52
  go_wp2_with fail
  refine bodyPost_ret (results_tmp rfl _ _ _) rfl ⟨rfl, (((frmOne (b := b)).then_ frmOne).then_ frmOne).alloc _, ?_, ⟨x, ?_⟩, ⟨y, ?_⟩⟩
  · have e : ∀ (W : World) o (q : Addr), q.block < W.heap.size → (W.alloc o).cell? q = W.cell? q := fun W o q hq => ((Frm.refl No W).alloc o).cell hq (fun h => h)
    rw [e _ _ _ (by simpa [World.setCell] using hb)]
    exact World.cell?_setCell_same _ _ _ ((World.cell?_setCell_other _ _ _ _ (by simp)).trans ((World.cell?_setCell_other _ _ _ _ (by simp)).trans h7))
  · have e : ∀ (W : World) o (q : Addr), q.block < W.heap.size → (W.alloc o).cell? q = W.cell? q := fun W o q hq => ((Frm.refl No W).alloc o).cell hq (fun h => h)
    rw [e _ _ _ (by simpa [World.setCell] using hb)]
    exact (World.cell?_setCell_other _ _ _ _ (by simp)).trans ((World.cell?_setCell_other _ _ _ _ (by simp)).trans (World.cell?_setCell_same _ _ _ h5))
  · have e : ∀ (W : World) o (q : Addr), q.block < W.heap.size → (W.alloc o).cell? q = W.cell? q := fun W o q hq => ((Frm.refl No W).alloc o).cell hq (fun h => h)
    rw [e _ _ _ (by simpa [World.setCell] using hb)]
    exact (World.cell?_setCell_other _ _ _ _ (by simp)).trans (World.cell?_setCell_same _ _ _ ((World.cell?_setCell_other _ _ _ _ (by simp)).trans h6))
/-- a scanner that has failed -/
structure Bad (w : World) (b : Nat) : Prop where
  c5 : ∃ z : Int, w.cell? ⟨b, 5, none⟩ = some (.int .i64 z)
  c6 : ∃ z : Int, w.cell? ⟨b, 6, none⟩ = some (.int .i64 z)
  c7 : ∃ e : Int, e ≠ 0 ∧ w.cell? ⟨b, 7, none⟩ = some (.int .i64 e)
theorem fail_bad (b n : Nat) (s : List UInt8) (v : Value) (k : Int) (t : ByteArray) (x y e0 : Int) (w : World) (h : Scn w b s n v) (he : e0 ≠ 0) :
    Calls Tryd.prog 52 #[.pointer (some ⟨b, 0, none⟩), .agg #[.int .i64 k, .string t, .int .i64 x, .int .i64 y], .int .i64 e0] w fun e w' => e = .returned (.bool false) ∧ Bad w' b ∧ Frm (One b) w w' :=
  (fail_any b n s v k t x y e0 w h).mono fun _ _ ⟨h1, h2, h3, h4, h5⟩ => ⟨h1, ⟨h4, h5, ⟨e0, he, h3⟩⟩, h2⟩
/-- the scanner, its tokens, and all that was made since -/
def Ge (b k : Nat) : Prop := b ≤ k
structure ScT (w : World) (b : Nat) (s : List UInt8) (n : Nat) (tl : List Tp) : Prop where
  ex : ∃ v, Scn w b s n v ∧ w.ownsRow b 38 4 v tl.length (rows tokV tl) ∧ v.ownBlock ≠ some b
  le : tl.length ≤ n
theorem One.ge {b k : Nat} (h : One b k) : Ge b k := by
  have h : k = b := h
  exact Nat.le_of_eq h.symm
theorem ScT.lt {w : World} {b n : Nat} {s : List UInt8} {tl : List Tp} (h : ScT w b s n tl) : b < w.heap.size := by
  obtain ⟨_, h, _⟩ := h.ex
  exact h.lt
theorem ScT.frm {w w1 : World} {b n : Nat} {s : List UInt8} {tl : List Tp} (h : ScT w b s n tl) (hf : Frm No w w1) : ScT w1 b s n tl := by
  obtain ⟨v, h1, h2, h3⟩ := h.ex
  exact ⟨⟨v, h1.frm hf (fun h => h), hf.row h2 (fun _ _ h => h), h3⟩, h.le⟩
/-- only the scanner itself has changed -/
theorem ScT.moved {w w1 : World} {b m : Nat} {s : List UInt8} {tl : List Tp} {v : Value} (h2 : w.ownsRow b 38 4 v tl.length (rows tokV tl)) (h3 : v.ownBlock ≠ some b) (hf : Frm (One b) w w1) (hS : Scn w1 b s m v) (hle : tl.length ≤ m) : ScT w1 b s m tl :=
  ⟨⟨v, hS, hf.row h2 (fun k hk e => by have e : k = b := e; subst e; exact h3 hk), h3⟩, hle⟩
theorem info_tok : (Tryd.prog.info? 38).map (fun i => (i.zero, i.size, i.bytes)) = some (some (.agg #[.int .i64 0, .string ByteArray.empty, .int .i64 0, .int .i64 0]), 4, 40) := by kernel_rfl
/-- a token was appended -/
theorem tok_done {w W w3 : World} {b n ec c3 : Nat} {s : List UInt8} {tl : List Tp} {ao ao3 : Option Addr} {tp : Tp} (hrow : W.ownsRow b 38 4 (.slice ao tl.length ec) tl.length (rows tokV tl)) (hb : b < W.heap.size)
    (s3 : Scn w3 b s n (.slice ao tl.length ec)) (hne : ∀ k, (Value.slice ao tl.length ec).ownBlock = some k → k ≠ b) (hF : Frm (Ge b) w W) (hd : Frm (Own (.slice ao tl.length ec)) W w3)
    (hown : w3.ownsRow b 38 4 (.slice ao3 (tl.length + 1) c3) (tl.length + 1) (rows tokV tl ++ tokV tp)) (hv : (Value.slice ao3 (tl.length + 1) c3).ownBlock = (Value.slice ao tl.length ec).ownBlock ∨ ∃ k, (Value.slice ao3 (tl.length + 1) c3).ownBlock = some k ∧ W.heap.size ≤ k)
    (hlt : tl.length < n) : ScT (w3.setCell ⟨b, 4, none⟩ (.slice ao3 (tl.length + 1) c3)) b s n (tl ++ [tp]) ∧ Frm (Ge b) w (w3.setCell ⟨b, 4, none⟩ (.slice ao3 (tl.length + 1) c3)) := by
  have hne3 : ∀ k, (Value.slice ao3 (tl.length + 1) c3).ownBlock = some k → k ≠ b := fun k hk => by
    rcases hv with hv | ⟨j, hj, hjk⟩
    · exact hne k (hv ▸ hk)
    · rw [hj] at hk
      cases hk
      omega
  refine ⟨⟨⟨_, s3.set4 _, ?_, fun e => hne3 _ e rfl⟩, by rw [List.length_append]; exact hlt⟩, (hF.trans hd (fun _ _ h => h) (fun k hk e => ?_)).then_ ((frmOne (b := b)).weak fun _ _ h => h.ge)⟩
  · have e1 : (tl ++ [tp]).length = tl.length + 1 := by simp
    have e2 : rows tokV (tl ++ [tp]) = rows tokV tl ++ tokV tp := by rw [rows_append]; simp [rows]
    rw [e1, e2]
    exact (frmOne (b := b)).row hown (fun k hk e => hne3 k hk e)
  · have e' : (Value.slice ao tl.length ec).ownBlock = some k := e
    exact (hrow.lt k e').1
theorem ended_empty (b n : Nat) (s : List UInt8) (v : Value) (t : ByteArray) (x y : Int) (w : World) (hS : Scn w b s n v) :
    Calls Tryd.prog 68 #[.pointer (some ⟨b, 0, none⟩), .agg #[.int .i64 2, .string t, .int .i64 x, .int .i64 y], .string ⟨([] : List UInt8).toArray⟩] w fun e w' => e = .returned (.bool false) ∧ Bad w' b ∧ Frm (Ge b) w w' := by
  have HW : Hid (∀ W, Scn W b s n v → Calls Tryd.prog 52 #[.pointer (some ⟨b, 0, none⟩), .agg #[.int .i64 2, .string t, .int .i64 x, .int .i64 y], .int .i64 2] W fun e w' => e = .returned (.bool false) ∧ Bad w' b ∧ Frm (One b) W w') := hid fun W hW => fail_bad b n s v 2 t x y 2 W hW (by decide)
  go_enter Tryd.func68, Tryd.ntmps68
  go_wp2_with (go_at_call 52; refine (HW.out _ (hS.frm ((Frm.refl No w).alloc _) (fun h => h))).mono ?_; rintro e w1 ⟨rfl, hB, hF⟩)
  refine bodyPost_ret (results_tmp rfl _ _ _) rfl ⟨rfl, hB, ((Frm.refl _ w).alloc _).trans hF (fun _ _ h => h) (fun _ _ h => h.ge)⟩
theorem ended_long (b n : Nat) (s : List UInt8) (v : Value) (t : ByteArray) (x y : Int) (a : UInt8) (r : List UInt8) (w : World) (hS : Scn w b s n v) (h16 : 16 ≤ r.length) :
    Calls Tryd.prog 68 #[.pointer (some ⟨b, 0, none⟩), .agg #[.int .i64 2, .string t, .int .i64 x, .int .i64 y], .string ⟨(a :: r).toArray⟩] w fun e w' => e = .returned (.bool false) ∧ Bad w' b ∧ Frm (Ge b) w w' := by
  have HW : Hid (∀ W, Scn W b s n v → Calls Tryd.prog 52 #[.pointer (some ⟨b, 0, none⟩), .agg #[.int .i64 2, .string t, .int .i64 x, .int .i64 y], .int .i64 6] W fun e w' => e = .returned (.bool false) ∧ Bad w' b ∧ Frm (One b) W w') := hid fun W hW => fail_bad b n s v 2 t x y 6 W hW (by decide)
  go_enter Tryd.func68, Tryd.ntmps68
  go_wp2_with (go_at_call 52; refine (HW.out _ (hS.frm ((Frm.refl No w).alloc _) (fun h => h))).mono ?_; rintro e w1 ⟨rfl, hB, hF⟩)
  refine bodyPost_ret (results_tmp rfl _ _ _) rfl ⟨rfl, hB, ((Frm.refl _ w).alloc _).trans hF (fun _ _ h => h) (fun _ _ h => h.ge)⟩
set_option maxHeartbeats 2000000 in
theorem ended_ok (b n : Nat) (s : List UInt8) (tl : List Tp) (t : ByteArray) (x y : Int) (a : UInt8) (r : List UInt8) (w : World) (h : ScT w b s n tl) (hn : n ≤ 65536) (hlt : tl.length < n) (h16 : r.length < 16) :
    Calls Tryd.prog 68 #[.pointer (some ⟨b, 0, none⟩), .agg #[.int .i64 2, .string t, .int .i64 x, .int .i64 y], .string ⟨(a :: r).toArray⟩] w fun e w' => e = .returned (.bool true) ∧ ScT w' b s n (tl ++ [(⟨2, a :: r⟩, x, y)]) ∧ Frm (Ge b) w w' := by
  obtain ⟨v, hS, hO, hne⟩ := h.ex
  have hle := h.le
  have hb := hS.lt
  have h4 := hS.c4
  have hf4 := hS.f 4
  have HO := hid hO
  have HLE := hid hlt
  have HN := hid hn
  clear hO hle hn hlt h
  go_enter Tryd.func68, Tryd.ntmps68
  go_wp2_with fail
  obtain ⟨B, hB⟩ : ∃ B, w.heap.size = B := ⟨_, rfl⟩
  have hx : ∀ j, (w.alloc (.cells #[.int .i64 2, .string ⟨(a :: r).toArray⟩, .int .i64 x, .int .i64 y] 38)).cell? ⟨B, j, none⟩ = (#[.int .i64 2, .string ⟨(a :: r).toArray⟩, .int .i64 x, .int .i64 y] : Array Value)[j]? := fun j => by rw [← hB]; exact World.cell?_alloc_at _ _ _ _ rfl
  have hS0 : Scn (w.alloc (.cells #[.int .i64 2, .string ⟨(a :: r).toArray⟩, .int .i64 x, .int .i64 y] 38)) b s n v := hS.frm ((Frm.refl No w).alloc _) (fun h => h)
  have HO0 := hid (HO.out.alloc (.cells #[.int .i64 2, .string ⟨(a :: r).toArray⟩, .int .i64 x, .int .i64 y] 38))
  have hBW : B < (w.alloc (.cells #[.int .i64 2, .string ⟨(a :: r).toArray⟩, .int .i64 x, .int .i64 y] 38)).heap.size := by rw [World.size_alloc]; omega
  have HF0 := hid ((Frm.refl (Ge b) w).alloc (.cells #[.int .i64 2, .string ⟨(a :: r).toArray⟩, .int .i64 x, .int .i64 y] 38))
  simp only [hB]
  obtain ⟨W0, hW0⟩ : ∃ W0, w.alloc (.cells #[.int .i64 2, .string ⟨(a :: r).toArray⟩, .int .i64 x, .int .i64 y] 38) = W0 := ⟨_, rfl⟩
  rw [hW0] at hx hS0 HO0 hBW HF0
  simp only [hW0]
  have hbW := hS0.lt
  clear h4 hf4 hS HO hW0
  obtain ⟨ao, ec, rfl⟩ := ownsRow_shape HO0.out
  have h4 := hS0.c4
  have hf4 := hS0.f 4
  have k0 := hx 0
  have k1 := hx 1
  have k2 := hx 2
  have k3 := hx 3
  have kab : ∀ o j, (W0.alloc o).cell? ⟨B, j, none⟩ = (#[.int .i64 2, .string ⟨(a :: r).toArray⟩, .int .i64 x, .int .i64 y] : Array Value)[j]? := fun o j => (((Frm.refl No W0).alloc o).cell (p := ⟨B, j, none⟩) hBW (fun h => h)).trans (hx j)
  have pab : ∀ o, (W0.alloc o).cell? ⟨b, 4, none⟩ = some (.slice ao tl.length ec) := fun o => (((Frm.refl No W0).alloc o).cell (p := ⟨b, 4, none⟩) hbW (fun h => h)).trans h4
  have HSRC : Hid (Src Tryd.prog 4 34 (.slice (some ⟨W0.heap.size, 0, none⟩) 1 1) 1 [.int .i64 2, .string ⟨(a :: r).toArray⟩, .int .i64 x, .int .i64 y] (W0.alloc (.cells #[.int .i64 2, .string ⟨(a :: r).toArray⟩, .int .i64 x, .int .i64 y] 38)).drew) := hid (Src.ofSlice _ Tryd.underlying34 ⟨W0.heap.size, 0, none⟩ 1 1 [.int .i64 2, .string ⟨(a :: r).toArray⟩, .int .i64 x, .int .i64 y] rfl (fun j u hj => by
    have e : (⟨W0.heap.size, 0, none⟩ : Addr).add j = ⟨W0.heap.size, j, none⟩ := by rw [Addr.add_lit]; simp
    have e2 : (W0.alloc (.cells #[.int .i64 2, .string ⟨(a :: r).toArray⟩, .int .i64 x, .int .i64 y] 38)).drew.cell? ⟨W0.heap.size, j, none⟩ = (#[.int .i64 2, .string ⟨(a :: r).toArray⟩, .int .i64 x, .int .i64 y] : Array Value)[j]? := World.cell?_alloc_at _ _ _ _ rfl
    rw [e, e2, ← hj]
    simp) (by intro u hu; simp only [List.mem_cons, List.not_mem_nil, or_false] at hu; rcases hu with rfl | rfl | rfl | rfl <;> rfl))
  have HROW : Hid ((W0.alloc (.cells #[.int .i64 2, .string ⟨(a :: r).toArray⟩, .int .i64 x, .int .i64 y] 38)).drew.ownsRow b 38 4 (.slice ao tl.length ec) tl.length (rows tokV tl)) := hid (HO0.out.alloc _).drew
  have HBS : Hid (b ≤ (W0.alloc (.cells #[.int .i64 2, .string ⟨(a :: r).toArray⟩, .int .i64 x, .int .i64 y] 38)).drew.heap.size) := hid (by show _ ≤ (W0.alloc _).heap.size; rw [World.size_alloc]; omega)
  have H26 : Hid (Scn (W0.alloc (.cells #[.int .i64 2, .string ⟨(a :: r).toArray⟩, .int .i64 x, .int .i64 y] 38)).drew b s n (.slice ao tl.length ec)) := hid (hS0.frm (((Frm.refl No W0).alloc _).drew) (fun h => h))
  have HF1 : Hid (Frm (Ge b) w (W0.alloc (.cells #[.int .i64 2, .string ⟨(a :: r).toArray⟩, .int .i64 x, .int .i64 y] 38)).drew) := hid ((HF0.out.alloc _).drew)
  have hneO : ∀ k, (Value.slice ao tl.length ec).ownBlock = some k → k ≠ b := fun k hk e => hne (by rw [hk, e])
  obtain ⟨i0, gi, gz0, gz1, gz2⟩ := info_parts info_tok
  go_region_law (refine step_append_own rfl (.tmp 26) (.tmp 28) 34 34 rfl b 38 i0 _ 4 40 Tryd.underlying34 gi gz0 gz1 gz2 rfl (.slice ao tl.length ec) tl.length (rows tokV tl) (by simp [Act.eval]) HROW.out (.slice (some ⟨W0.heap.size, 0, none⟩) 1 1) 1 [.int .i64 2, .string ⟨(a :: r).toArray⟩, .int .i64 x, .int .i64 y] (by simp [Act.eval]) HSRC.out (by have := HLE.out; have := HN.out; unfold maxLen; omega) (by have := HLE.out; have := HN.out; omega) HBS.out ?_; intro v3 w3 hown hd hv; obtain ⟨ao3, c3, rfl⟩ := ownsRow_shape hown; have s3 := H26.out.frm hd (fun e => hneO _ e rfl); have pz : w3.cell? ⟨b, 4, none⟩ = some (.slice ao tl.length ec) := s3.c4; have pzf : w3.frozen? ⟨b, 4, none⟩ = false := s3.f 4)
  all_goals
    go_wp2_with fail
    have HD := tok_done (tp := (⟨2, a :: r⟩, x, y)) HROW.out (by rw [World.size_drew, World.size_alloc]; omega) s3 hneO HF1.out hd hown hv HLE.out
    exact bodyPost_ret (results_tmp rfl _ _ _) rfl ⟨rfl, HD⟩
end Go.Proofs.YtebocnpbiiejmaaDoor
