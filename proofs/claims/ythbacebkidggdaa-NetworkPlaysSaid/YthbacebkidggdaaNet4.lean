/- The walk of the network's Spoil. -/
import Derived.Test.YthbacebkidggdaaNet3
import Derived.Test.YthbacebkidggdaaSpo
import Derived.Deep.RegionHeld3
namespace Go.Proofs.Ythbacebkidggdaa
open Go.RowKit
open Spo

theorem spoil_nil (x at_ by_ : Int) (w : World) : Calls Try.prog 10 #[.pointer none, .int .i64 x, .int .i64 at_, .int .u32 by_] w fun e w' => e = .returned (.bool false) ∧ Frm No w w' := by
  go_enter Try.func10, Try.ntmps10
  go_wp2_with (go_at_call 11; refine (look_nil' x _).mono ?_; rintro e1 w1 ⟨rfl, hf1⟩)
  go_ret
  exact ⟨rfl, hf1.alloc _⟩
theorem spoil_none (b : Nat) (v : Value) (x at_ by_ : Int) (w : World) (h : NetAt w b v []) : Calls Try.prog 10 #[.pointer (some ⟨b, 0, none⟩), .int .i64 x, .int .i64 at_, .int .u32 by_] w fun e w' => e = .returned (.bool false) ∧ Frm No w w' := by
  have HL := hid (look_any' b v [] x fr0 rfl false rfl w h (by simp))
  unfold fr0 at HL
  simp only at HL
  go_enter Try.func10, Try.ntmps10
  go_wp2_with (go_at_call 11; refine HL.out.mono ?_; rintro e1 w1 ⟨rfl, hf1⟩)
  go_ret
  exact ⟨rfl, hf1.alloc _⟩

set_option maxRecDepth 100000 in
theorem spoil_dead (b : Nat) (v : Value) (fs : List Fr) (x at_ by_ : Int) (f : Fr) (hlk : look fs x = f) (hd : f.bytes = [] ∨ f.bad = true) (w : World) (h : NetAt w b v fs) (hn : 0 < fs.length) (hsm : fs.length ≤ 100000) :
    Calls Try.prog 10 #[.pointer (some ⟨b, 0, none⟩), .int .i64 x, .int .i64 at_, .int .u32 by_] w fun e w' => e = .returned (.bool false) ∧ Frm No w w' := by
  have HL := hid (look_any' b v fs x f hlk true (decide_eq_true hn) _ h hsm)
  clear hlk
  obtain ⟨a1, a2, bs, bad⟩ := f
  simp only at HL hd
  by_cases hbs : bs = []
  · subst hbs
    go_enter Try.func10, Try.ntmps10
    go_wp2_with (go_at_call 11; refine HL.out.mono ?_; rintro e1 w1 ⟨rfl, hf1⟩)
    go_ret
    exact ⟨rfl, hf1.alloc _⟩
  · have hbad : bad = true := by rcases hd with h | h; exact absurd h hbs; exact h
    subst hbad
    have hbb : (bs == []) = false := by simpa using hbs
    go_enter Try.func10, Try.ntmps10
    go_wp2_with (go_at_call 11; refine HL.out.mono ?_; rintro e1 w1 ⟨rfl, hf1⟩)
    all_goals
      go_ret
      exact ⟨rfl, hf1.alloc _⟩

theorem row_set {w : World} {base : Nat} {e : TypeId} {fs : List Fr} {g c : Nat} (h : w.ownsRow base e 4 (.slice (some ⟨g, 0, none⟩) fs.length c) fs.length (framesV fs)) (i : Nat) (hi : i < fs.length) (f : Fr) :
    ((((w.setCell ⟨g, i * 4, none⟩ (.int .i64 f.from_)).setCell ⟨g, i * 4 + 1, none⟩ (.int .i64 f.to_)).setCell ⟨g, i * 4 + 2, none⟩ (.string ⟨f.bytes.toArray⟩)).setCell ⟨g, i * 4 + 3, none⟩ (.bool f.bad)).ownsRow base e 4 (.slice (some ⟨g, 0, none⟩) fs.length c) (fs.set i f).length (framesV (fs.set i f)) := by
  rcases h.2 with ⟨e0, h0⟩ | ⟨g', cap, cur, hv, hbg, hg, hnc, hcm, hcs, htake⟩
  · omega
  simp only [Value.slice.injEq, Option.some.injEq, Addr.mk.injEq, true_and, and_true] at hv
  obtain ⟨rfl, rfl⟩ := hv
  have hset : ((((w.setCell ⟨g, i * 4, none⟩ (.int .i64 f.from_)).setCell ⟨g, i * 4 + 1, none⟩ (.int .i64 f.to_)).setCell ⟨g, i * 4 + 2, none⟩ (.string ⟨f.bytes.toArray⟩)).setCell ⟨g, i * 4 + 3, none⟩ (.bool f.bad)) = w.setCells g (i * 4) (frV f) := rfl
  have hl4 : (frV f).length = 4 := rfl
  have hrow := setCells_row Try.prog (o := i * 4) (vs := frV f) hg (by rw [hl4]; omega) (framesV_one [f])
  rw [hset, hrow, List.length_set]
  have hlen := framesV_length (fs.set i f)
  rw [List.length_set] at hlen
  refine ⟨hlen, Or.inr ⟨g, c, _, rfl, hbg, setRow_heap w g cur _ e _ hg, hnc, hcm, ?_, ?_⟩⟩
  · simp only [List.size_toArray, List.length_append, List.length_take, List.length_drop, Array.length_toList, hl4]
    omega
  · have e1 : cur.toList.take (i * 4) = framesV (fs.take i) := by rw [← framesV_take, ← htake, List.take_take, Nat.min_eq_left (by omega)]
    have e2 : (cur.toList.drop (i * 4 + 4)).take (fs.length * 4 - (i * 4 + 4)) = framesV (fs.drop (i + 1)) := by
      rw [← framesV_drop, ← htake, List.drop_take, show (i + 1) * 4 = i * 4 + 4 by omega]
    have hl1 : (cur.toList.take (i * 4) ++ frV f).length = i * 4 + 4 := by rw [List.length_append, hl4, List.length_take, Array.length_toList]; omega
    have e3 : (cur.toList.take (i * 4) ++ frV f ++ cur.toList.drop (i * 4 + (frV f).length)).take (fs.length * 4) = cur.toList.take (i * 4) ++ frV f ++ (cur.toList.drop (i * 4 + 4)).take (fs.length * 4 - (i * 4 + 4)) := by
      rw [List.take_append, List.take_of_length_le (by rw [hl1]; omega), hl1, hl4]
    show (cur.toList.take (i * 4) ++ frV f ++ cur.toList.drop (i * 4 + (frV f).length)).take (fs.length * 4) = _
    rw [e3, e1, e2, List.set_eq_take_append_cons_drop, if_pos hi]
    show framesV (fs.take i) ++ frV f ++ framesV (fs.drop (i + 1)) = framesV (fs.take i ++ ([f] ++ fs.drop (i + 1)))
    rw [framesV_append, framesV_append, List.append_assoc]
    rfl
theorem spoil_done {b : Nat} {w wr : World} {fs : List Fr} {g c i : Nat} (h : NetAt w b (.slice (some ⟨g, 0, none⟩) fs.length c) fs) (hf : Frm No w wr) (hn : NetAt wr b (.slice (some ⟨g, 0, none⟩) fs.length c) fs) (hi : i < fs.length) (f : Fr) :
    NetPost b w (.slice (some ⟨g, 0, none⟩) fs.length c) (fs.set i f) (.slice (some ⟨g, 0, none⟩) fs.length c)
      ((((wr.setCell ⟨g, i * 4, none⟩ (.int .i64 f.from_)).setCell ⟨g, i * 4 + 1, none⟩ (.int .i64 f.to_)).setCell ⟨g, i * 4 + 2, none⟩ (.string ⟨f.bytes.toArray⟩)).setCell ⟨g, i * 4 + 3, none⟩ (.bool f.bad)).drew := by
  have hfr : Frm (One g) wr ((((wr.setCell ⟨g, i * 4, none⟩ (.int .i64 f.from_)).setCell ⟨g, i * 4 + 1, none⟩ (.int .i64 f.to_)).setCell ⟨g, i * 4 + 2, none⟩ (.string ⟨f.bytes.toArray⟩)).setCell ⟨g, i * 4 + 3, none⟩ (.bool f.bad)).drew :=
    (((((Frm.refl (One g) wr).setCell (p := ⟨g, i * 4, none⟩) (fun _ => rfl) _).setCell (p := ⟨g, i * 4 + 1, none⟩) (fun _ => rfl) _).setCell (p := ⟨g, i * 4 + 2, none⟩) (fun _ => rfl) _).setCell (p := ⟨g, i * 4 + 3, none⟩) (fun _ => rfl) _).drew
  have hgb : b ≠ g := fun e => h.apart (by rw [e]; rfl)
  have hb : b < wr.heap.size := World.block_lt_of_cell? wr _ hn.c0
  refine ⟨⟨(hfr.cell (p := ⟨b, 0, none⟩) hb hgb).trans hn.c0, fun j => (hfr.frozen (p := ⟨b, j, none⟩) hb hgb).trans (hn.f j), ?_, h.apart⟩, hf.trans hfr (fun _ _ h => h.elim) (fun k _ e => Or.inr (by rw [show k = g from e]; rfl)), Or.inl rfl⟩
  have := (row_set hn.row i hi f).drew
  rw [List.length_set] at this ⊢
  exact this
theorem spoil_keep {W : World} {b q B g o cap n : Nat} {v u0 u1 : Value} {T : List UInt8} (hgb : some g ≠ some b) (hgq : g ≠ q) (hgB : g ≠ B) (p0 : W.cell? ⟨b, 0, none⟩ = some v) (k0 : W.cell? ⟨q, 0, none⟩ = some u0) (k1 : W.cell? ⟨q, 1, none⟩ = some u1)
    (hl : T.length = n) (hB : ∀ i (h : i < T.length), W.cell? ⟨B, i, none⟩ = some (.int .u8 (T[i].toNat : Int))) (x0 x1 x2 x3 : Value) :
    ((((W.setCell ⟨g, o, none⟩ x0).setCell ⟨g, o + 1, none⟩ x1).setCell ⟨g, o + 2, none⟩ x2).setCell ⟨g, o + 3, none⟩ x3).cell? ⟨b, 0, none⟩ = some v ∧
    ((((W.setCell ⟨g, o, none⟩ x0).setCell ⟨g, o + 1, none⟩ x1).setCell ⟨g, o + 2, none⟩ x2).setCell ⟨g, o + 3, none⟩ x3).cell? ⟨q, 0, none⟩ = some u0 ∧
    ((((W.setCell ⟨g, o, none⟩ x0).setCell ⟨g, o + 1, none⟩ x1).setCell ⟨g, o + 2, none⟩ x2).setCell ⟨g, o + 3, none⟩ x3).cell? ⟨q, 1, none⟩ = some u1 ∧
    (convert 47 9 (.slice (some ⟨B, 0, none⟩) n cap)).run Try.prog ((((W.setCell ⟨g, o, none⟩ x0).setCell ⟨g, o + 1, none⟩ x1).setCell ⟨g, o + 2, none⟩ x2).setCell ⟨g, o + 3, none⟩ x3) =
      .ok (.string ⟨T.toArray⟩) ((((W.setCell ⟨g, o, none⟩ x0).setCell ⟨g, o + 1, none⟩ x1).setCell ⟨g, o + 2, none⟩ x2).setCell ⟨g, o + 3, none⟩ x3) := by
  have k : ∀ (a j : Nat), g ≠ a → ((((W.setCell ⟨g, o, none⟩ x0).setCell ⟨g, o + 1, none⟩ x1).setCell ⟨g, o + 2, none⟩ x2).setCell ⟨g, o + 3, none⟩ x3).cell? ⟨a, j, none⟩ = W.cell? ⟨a, j, none⟩ := by
    intro a j ha
    have ne : ∀ i : Nat, (⟨g, i, none⟩ : Addr) ≠ ⟨a, j, none⟩ := fun i e => ha (congrArg Addr.block e)
    rw [World.cell?_setCell_other _ _ _ _ (ne _), World.cell?_setCell_other _ _ _ _ (ne _), World.cell?_setCell_other _ _ _ _ (ne _), World.cell?_setCell_other _ _ _ _ (ne _)]
  refine ⟨(k b 0 (fun e => hgb (by rw [e]))).trans p0, (k q 0 hgq).trans k0, (k q 1 hgq).trans k1, ?_⟩
  exact run_convert_cells (P := Try.prog) Try.underlying47 Try.underlying5 Try.underlying9 B 0 n cap T hl (fun i hi => by rw [Nat.zero_add, k B i hgB]; exact hB i hi)

set_option maxRecDepth 100000 in
set_option maxHeartbeats 1000000 in
theorem spoil_live (b : Nat) (v : Value) (fs : List Fr) (x at_ : Int) (n : Nat) (_ : n ≤ 4294967295) (f : Fr) (hlk : look fs x = f) (hd1 : f.bytes ≠ []) (hd2 : f.bad = false) (hbl : f.bytes.length ≤ 1000000) (ch : Bool) (fs' : List Fr) (hch : Hid (decide (turned f.bytes n (pl at_ f.bytes.length) 4 ≠ f.bytes) = ch)) (hfs : Hid ((if turned f.bytes n (pl at_ f.bytes.length) 4 ≠ f.bytes then fs.set (pl x fs.length) ⟨f.from_, f.to_, turned f.bytes n (pl at_ f.bytes.length) 4, true⟩ else fs) = fs'))
    (w : World) (h : NetAt w b v fs) (hn : 0 < fs.length) (hsm : fs.length ≤ 100000) :
    Calls Try.prog 10 #[.pointer (some ⟨b, 0, none⟩), .int .i64 x, .int .i64 at_, .int .u32 (n : Int)] w fun e w' =>
      e = .returned (.bool ch) ∧ ∃ v', NetPost b w v fs' v' w' := by
  have HL := hid (look_any' b v fs x f hlk true (decide_eq_true hn) _ h hsm)
  have HR := hid (fun w => round_any x fs.length w hn (by omega))
  have hb : b < w.heap.size := World.block_lt_of_cell? w _ h.c0
  have hvl : ∀ k, v.ownBlock = some k → k < w.heap.size := fun k hk => (h.row.lt k hk).2
  have hpl := pl_lt x fs.length hn
  obtain ⟨ao, c, rfl⟩ := ownsRow_shape h.row
  clear hlk
  obtain ⟨a1, a2, bs, bad⟩ := f
  simp only at HL hd1 hd2 hbl hch hfs
  subst hd2
  have hbp : 0 < bs.length := List.length_pos_iff.2 hd1
  have hbb : (bs == []) = false := by simpa using hd1
  have HR2 := hid (fun w => round_any at_ bs.length w hbp (by omega))
  have hpp := pl_lt at_ bs.length hbp
  generalize pl at_ bs.length = p at *
  have hcb := fun W : World => Lib.run_convert_string_bytes (P := Try.prog) W 9 47 5 ⟨bs.toArray⟩ Try.underlying9 Try.underlying47 Try.underlying5
  clear hd1
  go_enter Try.func10, Try.ntmps10
  go_wp2_with (first | (go_at_call 11; refine HL.out.mono ?_; rintro e1 w1 ⟨rfl, hf1⟩) | (go_at_call 13; refine (HR2.out _).mono ?_; rintro e2 w2 ⟨rfl, rfl⟩))
  obtain ⟨W0, hW0⟩ : ∃ W0 : World, W0 = w1.alloc (.cells #[.int .i64 a1, .int .i64 a2, .string ⟨bs.toArray⟩, .bool false] 35) := ⟨_, rfl⟩
  rw [← hW0]
  have hz0 : w1.heap.size + 1 = W0.heap.size := by rw [hW0]; simp
  simp only [hz0]
  have hf0 : Frm No w W0 := by rw [hW0]; exact hf1.alloc _
  have k0 : ∀ j, W0.cell? ⟨w1.heap.size, j, none⟩ = (#[.int .i64 a1, .int .i64 a2, .string ⟨bs.toArray⟩, .bool false] : Array Value)[j]? := fun j => by rw [hW0]; exact World.cell?_alloc_at _ _ _ _ rfl
  have hBA : BytesAt (Lib.bytesWorld W0 5 ⟨bs.toArray⟩) W0.heap.size (turned bs n p 0) := by rw [turned_zero]; exact bytes_start W0 5 bs
  have hfB : Frm No W0 (Lib.bytesWorld W0 5 ⟨bs.toArray⟩) := Frm.ofBelow_size (Lib.bytesWorld_below W0 5 ⟨bs.toArray⟩)
  obtain ⟨B, hB⟩ : ∃ B, W0.heap.size = B := ⟨_, rfl⟩
  rw [hB] at hBA hz0
  have hfBs := hfB.size
  rw [hB] at hfBs
  simp only [hB]
  generalize grownCap W0 bs.length 0 5 = cap
  generalize Lib.bytesWorld W0 5 ⟨bs.toArray⟩ = wb at *
  clear hcb
  go_loopw [3, 12] (fun y i wr => ∃ k : Nat, k ≤ 4 ∧ p + k ≤ bs.length ∧ i = .int .i64 ((p : Int) + (k : Int)) ∧ y = .int .u32 ((n / 256 ^ k : Nat) : Int) ∧ BytesAt wr B (turned bs n p k) ∧ Frm No W0 wr) (fun _ i _ => ((p : Int) + 4 - intOf i).toNat)
  case atStart => exact ⟨0, by omega, by omega, by simp, by simp, hBA, hfB⟩
  case round =>
    obtain ⟨k, hk, hpk, rfl, rfl, hBk, hf⟩ := hrel
    clear hBA hfB
    have hnk : n / 256 ^ k ≤ n := Nat.div_le_self _ _
    by_cases hlast : k < 4 ∧ p + k < bs.length
    · obtain ⟨hk4, hpk'⟩ := hlast
      have hkz : (p : Int) + (k : Int) < (p : Int) + 4 := by omega
      have hkz2 : (p : Int) + (k : Int) < (bs.length : Int) := by omega
      have hS : ((n / 256 ^ k : Nat) : Int) % 256 = (((sbyte n k).toNat : Nat) : Int) := by rw [sbyte, UInt8.toNat_ofNat']; omega
      have HN : Hid (n / 256 ^ (k + 1) = n / 256 ^ k / 256) := hid (by rw [Nat.div_div_eq_div_mul, Nat.pow_succ])
      have hX := xor_u8 bs[p + k] (sbyte n k)
      have HST := hid (bytes_step hBk hpk')
      have hcell := hBk (p + k) (by rw [turned_length]; exact hpk')
      have hcur : (turned bs n p k)[p + k]'(by rw [turned_length]; exact hpk') = bs[p + k] := by
        rw [turned_at]
        have : D n p k (p + k) = 0 := if_neg (by omega)
        rw [this]; simp
      rw [hcur] at hcell
      obtain ⟨hc0, hc1⟩ := hcell
      clear hBk hcur
      generalize bs[p + k] ^^^ sbyte n k = z at *
      generalize bs[p + k] = a at *
      generalize n / 256 ^ k = m at *
      generalize sbyte n k = y at *
      go_wp2_with fail
      exact ⟨⟨k + 1, by omega, by omega, by rw [Int.natCast_add]; first | rfl | (rw [← Int.add_assoc]; rfl), by rw [HN.out]; first | rfl | (congr 1; omega), HST.out, hf.setCell (p := ⟨B, p + k, none⟩) (fun h => by simp at h; omega) _⟩, by simp [intOf]; omega⟩
    · have hmin : ¬ ((p : Int) + (k : Int) < min ((p : Int) + 4) (bs.length : Int)) := by omega
      have hend := turned_end (s := bs) (n := n) (p := p) hk (by omega)
      rw [hend] at hBk
      have htl := turned_length bs n p 4
      have hcvd := run_convert_cells (P := Try.prog) (w := wr.drew) Try.underlying47 Try.underlying5 Try.underlying9 B 0 bs.length cap (turned bs n p 4) htl (fun i hi => by rw [Nat.zero_add]; exact (hBk i hi).1)
      have hcv := run_convert_cells (P := Try.prog) (w := wr) Try.underlying47 Try.underlying5 Try.underlying9 B 0 bs.length cap (turned bs n p 4) htl (fun i hi => by rw [Nat.zero_add]; exact (hBk i hi).1)
      have hw1B : w1.heap.size < W0.heap.size := by omega
      have kq : ∀ j, wr.cell? ⟨w1.heap.size, j, none⟩ = (#[.int .i64 a1, .int .i64 a2, .string ⟨bs.toArray⟩, .bool false] : Array Value)[j]? := fun j => (hf.cell (p := ⟨w1.heap.size, j, none⟩) hw1B (fun h => h)).trans (k0 j)
      have hnr := h.frm (hf0.thenNo hf) (fun h => h) (fun _ _ h => h)
      have hfw := hf0.thenNo hf
      clear hend k0
      have hcellB := hid (fun i (hi : i < (turned bs n p 4).length) => (hBk i hi).1)
      obtain ⟨T, hTT⟩ : ∃ T, turned bs n p 4 = T := ⟨_, rfl⟩
      rw [hTT] at hcv hcvd htl hch hfs
      have hcellB : Hid (∀ i (h : i < T.length), wr.drew.cell? ⟨B, i, none⟩ = some (.int .u8 (T[i].toNat : Int))) := by subst hTT; exact hcellB
      clear hTT hBk
      by_cases hT : T = bs
      · rw [hT] at hcv
        rw [hT] at hch hfs
        have hch' : false = ch := by rw [← hch.out]; exact (decide_eq_false (fun h => h rfl)).symm
        have hfs' : fs = fs' := by rw [← hfs.out]; exact (if_neg (fun h => h rfl)).symm
        subst hch' hfs'
        clear hch hfs hcvd hT
        go_wp2_with fail
        go_ret
        exact ⟨rfl, _, NetPost.same h hfw⟩
      · have hTb : (T == bs) = false := by simpa using hT
        have hch' : true = ch := by rw [← hch.out]; exact (decide_eq_true hT).symm
        have hfs' : Hid (fs.set (pl x fs.length) ⟨a1, a2, T, true⟩ = fs') := hid (by rw [← hfs.out, if_pos hT])
        subst hch'
        clear hch hfs hT
        obtain ⟨g, hao, -, -, c0, c1, c2, c3, hfz⟩ := row_at hnr.row rfl (pl x fs.length) hpl
        subst hao
        have z0 := hfz (pl x fs.length * 4) (by omega)
        have z1 := hfz (pl x fs.length * 4 + 1) (by omega)
        have z2 := hfz (pl x fs.length * 4 + 2) (by omega)
        have z3 := hfz (pl x fs.length * 4 + 3) (by omega)
        have p0 := hnr.c0
        have hpz : ((pl x fs.length : Nat) : Int) < (fs.length : Int) := by omega
        go_wp2_with fail
        have hgw : g < w.heap.size := hvl g rfl
        have hB2 : w.heap.size ≤ w1.heap.size := hf1.size
        have hKEEP := hid (spoil_keep (W := wr.drew) (b := b) (q := w1.heap.size) (B := B) (g := g) (o := pl x fs.length * 4) (cap := cap) (T := T) h.apart (by omega) (by omega) p0 (kq 0) (kq 1) htl hcellB.out)
        go_region_held3 (fun w' => w'.cell? ⟨b, 0, none⟩ = some (.slice (some ⟨g, 0, none⟩) fs.length c) ∧ w'.cell? ⟨w1.heap.size, 0, none⟩ = some (.int .i64 a1) ∧ w'.cell? ⟨w1.heap.size, 1, none⟩ = some (.int .i64 a2) ∧ (convert 47 9 (.slice (some ⟨B, 0, none⟩) bs.length cap)).run Try.prog w' = .ok (.string ⟨T.toArray⟩) w') (first | exact ⟨p0, kq 0, kq 1, hcvd⟩ | exact hKEEP.out _ _ _ _) (first | (go_at_call 13; refine (HR.out _).mono ?_; rintro e2 w2 ⟨rfl, rfl⟩))
        all_goals
          go_wp2_with fail
          go_ret
          refine ⟨rfl, .slice (some ⟨g, 0, none⟩) fs.length c, ?_⟩
          rw [← hfs'.out]
          exact spoil_done h hfw hnr hpl ⟨a1, a2, T, true⟩
end Go.Proofs.Ythbacebkidggdaa
