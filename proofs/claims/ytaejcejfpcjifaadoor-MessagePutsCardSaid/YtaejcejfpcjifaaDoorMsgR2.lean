/- The entries of a message, read. -/
import Derived.Test.YtaejcejfpcjifaaDoorMsgR1
import Derived.Test.YtaejcejfpcjifaaDoorAppOwn
namespace Go.Proofs.YtaejcejfpcjifaaDoor
open Go.RowKit
open Msg

def entsV (l : List Ent) : List Value := l.flatMap entV
@[simp] theorem entsV_length (l : List Ent) : (entsV l).length = l.length * 3 := by
  induction l with
  | nil => rfl
  | cons f fs ih =>
    have : entsV (f :: fs) = entV f ++ entsV fs := rfl
    rw [this, List.length_append, ih, List.length_cons]
    show 3 + fs.length * 3 = _
    omega
theorem entsV_append (a b : List Ent) : entsV (a ++ b) = entsV a ++ entsV b := List.flatMap_append
theorem entsV_one (l : List Ent) : ∀ u ∈ entsV l, u.oneCell' = true := by
  intro u hu
  obtain ⟨f, -, hf⟩ := List.mem_flatMap.1 hu
  simp only [entV, List.mem_cons, List.not_mem_nil, or_false] at hf
  rcases hf with rfl | rfl | rfl <;> rfl
theorem entsV_snoc (es : List Ent) (k : Nat) (h : k < es.length) : entsV (es.take (k + 1)) = entsV (es.take k) ++ entV es[k] := by
  rw [entsV, entsV, List.take_succ_eq_append_getElem h, List.flatMap_append]
  simp
theorem entsV_at (l : List Ent) (i : Nat) (hi : i < l.length) (j : Nat) (hj : j < 3) : (entsV l)[i * 3 + j]? = (entV l[i])[j]? := by
  have e : l = l.take i ++ (l[i] :: l.drop (i + 1)) := by simp
  have hl : (entsV (l.take i)).length = i * 3 := by rw [entsV_length, List.length_take, Nat.min_eq_left (by omega)]
  have e2 : entsV l = entsV (l.take i) ++ (entV l[i] ++ entsV (l.drop (i + 1))) := by
    have h := congrArg entsV e
    rw [entsV_append] at h
    exact h
  rw [e2, List.getElem?_append_right (by omega), hl, List.getElem?_append_left (by show i * 3 + j - i * 3 < 3; omega)]
  congr 1
  omega
theorem RdL.ofOwn {w : World} {base : Nat} {e : TypeId} {v : Value} {l : List Ent} (h : w.ownsRow base e 3 v l.length (entsV l)) : RdL w v 3 entV l := by
  refine ⟨?_⟩
  rcases (Rd.ofOwn h).cells with ⟨h0, ao, c, rfl⟩ | ⟨b, o, c, rfl, hc⟩
  · exact .inl ⟨List.eq_nil_of_length_eq_zero h0, _, _, rfl⟩
  · refine .inr ⟨b, o, c, rfl, fun i hi j hj => ?_⟩
    rw [hc (i * 3 + j) (by omega), entsV_at l i hi j hj]
theorem info_ent : (Tryd.prog.info? 50).map (fun i => (i.zero, i.size, i.bytes)) = some (some (.agg #[.int .i64 0, .int .i64 0, .string ByteArray.empty]), 3, 32) := by kernel_rfl

namespace RM
variable {w0 wS w w3 : World} {rb ib xb kb : Nat} {s r : List UInt8} {cs : List Value}
theorem own {ev : Value} (h : RM w0 wS w rb ib xb kb s cs) (hf : Frm (Own ev) w w3) (hv : ∀ k, ev.ownBlock = some k → wS.heap.size ≤ k) : RM w0 wS w3 rb ib xb kb s cs := by
  have hz := h.frm.size
  have hz0 := h.base.size
  have hr := h.lr
  have hx := h.lx
  have hi := h.li
  have H : ∀ k, k < wS.heap.size → ¬ Own ev k := fun k hk e => by have := hv k e; omega
  exact ⟨h.in_.frm hf (H _ (by omega)), h.len, (hf.cell (p := ⟨rb, 2, none⟩) (Nat.lt_of_lt_of_le hr hz) (H _ (by show rb < _; omega))).trans h.c2, h.base, h.mov.trans hf (fun _ _ h => h) (fun i hi e => absurd e (H i hi)), h.x.frm (Nat.lt_of_lt_of_le hx hz) hf (H _ (by omega)),
    h.lx, h.li, h.lr, h.n1, h.n2, h.n3, h.n4, h.n5⟩
theorem setX (h : RM w0 wS w rb ib xb kb s cs) (j : Nat) (hj : j < cs.length) (v : Value) : RM w0 wS (w.setCell ⟨xb, j, none⟩ v) rb ib xb kb s (cs.set j v) :=
  h.put h.in_ (Frm.refl _ _) (Nat.le_refl _) j hj
theorem drew (h : RM w0 wS w rb ib xb kb s cs) : RM w0 wS w.drew rb ib xb kb s cs := h.no (Frm.refl No w).drew

set_option maxRecDepth 100000 in
set_option maxHeartbeats 2000000 in
theorem entries {es : List Ent} (h : RM w0 wS w rb ib xb kb (Oct.enc es.length ++ (entsB es ++ r)) cs) (hcl : cs.length = 16) (hc15 : cs[15]? = some (.slice none 0 0)) (he64 : es.length ≤ 64) (hg : es.all entG = true) :
    Calls Tryd.prog 43 #[.pointer (some ⟨rb, 0, none⟩), .pointer (some ⟨xb, 15, none⟩)] w fun e w' => e = .returned (.tuple #[]) ∧ ∃ ev, RM w0 wS w' rb ib xb kb r (cs.set 15 ev) ∧ w'.ownsRow wS.heap.size 50 3 ev es.length (entsV es) := by
  obtain ⟨i0, gi, gz0, gz1, gz2⟩ := info_parts info_ent
  have k15 : w.cell? ⟨xb, 15, none⟩ = some (.slice none 0 0) := (h.x.cell 15).trans hc15
  have hwS := h.mov.size
  have hw0 := h.base.size
  have HN := hid ((h.no ((Frm.refl No w).alloc (.cells #[.int .i64 0] 3))).numB (BC.new w [.int .i64 0] 3) hwS (num_len he64) 0 (by simp))
  have z0 : ¬ ((es.length : Int) < 0) := by omega
  have z1 : ¬ (64 < (es.length : Int)) := by omega
  have hcs : cs.set 15 (.slice none 0 0) = cs := by
    apply List.ext_getElem?
    intro i
    rw [List.getElem?_set]
    by_cases hi : 15 = i
    · subst hi
      rw [if_pos rfl, if_pos (by omega), hc15]
    · rw [if_neg hi]
  clear h
  go_enter Tryd.func43, Tryd.ntmps43
  go_wp2_with fail
  refine HN.out.mono ?_
  rintro e w1 ⟨rfl, r1, b1, -⟩
  have p1 := r1.c2
  have bb : w1.cell? ⟨w.heap.size, 0, none⟩ = some (.int .i64 (es.length : Int)) := b1.cell 0
  clear HN k15
  go_wp2_with fail
  go_loopw [6, 43] (fun _ i wr => ∃ (k : Nat) (ev : Value), k ≤ es.length ∧ i = .int .i64 (k : Int) ∧ RM w0 wS wr rb ib xb kb (entsB (es.drop k) ++ r) (cs.set 15 ev) ∧ wr.ownsRow wS.heap.size 50 3 ev k (entsV (es.take k)))
    (fun _ i _ => es.length - (intOf i).toNat)
  case atStart => exact ⟨0, .slice none 0 0, by omega, rfl, by rw [hcs]; simpa using r1, World.ownsRow_nil _ _ _ _⟩
  case round =>
    obtain ⟨k, ev, hk, rfl, hq, ho⟩ := hrel
    clear p1 bb r1 b1
    by_cases hkl : k < es.length
    · have hge : entG es[k] = true := List.all_eq_true.1 hg _ (List.getElem_mem hkl)
      have hdr : entsB (es.drop k) ++ r = entB es[k] ++ (entsB (es.drop (k + 1)) ++ r) := by
        show List.flatMap entB (es.drop k) ++ r = _
        rw [List.drop_eq_getElem_cons hkl, List.flatMap_cons, List.append_assoc]
        rfl
      have HO := hid (((hq.eq hdr rfl).no ((Frm.refl No wr).alloc (.cells #[.int .i64 0, .int .i64 0, .string ByteArray.empty] 50))).one (BC.new wr [.int .i64 0, .int .i64 0, .string ByteArray.empty] 50) hq.mov.size hge)
      have hoB : ∀ g, ev.ownBlock = some g → g < wr.heap.size ∧ wS.heap.size ≤ g := fun g hg => ⟨(ho.lt g hg).2, (ho.lt g hg).1⟩
      have hwr := hq.mov.size
      have hkz : (k : Int) < (es.length : Int) := by omega
      go_wp2_with fail
      refine HO.out.mono ?_
      rintro e w2 ⟨rfl, r2, b2, g2⟩
      have p2 := r2.c2
      go_wp2_with (go_at_call 35; refine (in_err _ _ _ _ r2.in_).mono ?_; rintro e w3 ⟨rfl, rfl⟩)
      obtain ⟨x, hx⟩ : ∃ x, es[k] = x := ⟨_, rfl⟩
      rw [hx] at b2
      have hk15 : w2.cell? ⟨xb, 15, none⟩ = some ev := by rw [r2.x.cell 15, List.getElem?_set]; rw [if_pos rfl, if_pos (by omega)]
      have HC15 : ∀ v : Value, Hid ((cs.set 15 v)[15]? = some v) := fun v => hid (by rw [List.getElem?_set]; rw [if_pos rfl, if_pos (by omega)])
      have hf15 : w2.frozen? ⟨xb, 15, none⟩ = false := r2.x.fr 15
      have hw2 : wr.heap.size < w2.heap.size := World.block_lt_of_cell? w2 _ (b2.at_ (j := 0) (by simp [entV]))
      have hb2 := b2.cell
      unfold entV at hb2
      have ho2 : w2.ownsRow wS.heap.size 50 3 ev k (entsV (es.take k)) := g2.row (ho.alloc _) (fun g hg e => by
        have h1 := hoB g hg
        have h2 := hq.li
        rcases e with e | e
        · omega
        · omega)
      obtain ⟨ao, ec, rfl⟩ := ownsRow_shape ho2
      obtain ⟨B, hB⟩ : ∃ B, wr.heap.size = B := ⟨_, rfl⟩
      rw [hB] at hb2 hw2
      simp only [hB]
      have hxl : xb < w2.heap.size := by have := r2.frm.size; have := r2.lx; omega
      have kab : ∀ o j, (w2.alloc o).cell? ⟨B, j, none⟩ = [Value.int .i64 x.client, .int .i64 x.number, .string ⟨x.text.toArray⟩][j]? := fun o j => (((Frm.refl No w2).alloc o).cell (p := ⟨B, j, none⟩) hw2 (fun h => h)).trans (hb2 j)
      have pab : ∀ o, (w2.alloc o).cell? ⟨xb, 15, none⟩ = some (.slice ao k ec) := fun o => (((Frm.refl No w2).alloc o).cell (p := ⟨xb, 15, none⟩) hxl (fun h => h)).trans hk15
      obtain ⟨wa, hwa⟩ : ∃ wa : World, wa = (w2.alloc (.cells #[.int .i64 x.client, .int .i64 x.number, .string ⟨x.text.toArray⟩] 50)).drew := ⟨_, rfl⟩
      have HSRC : Hid (Src Tryd.prog 3 29 (.slice (some ⟨w2.heap.size, 0, none⟩) 1 1) 1 (entV x) (w2.alloc (.cells #[.int .i64 x.client, .int .i64 x.number, .string ⟨x.text.toArray⟩] 50)).drew) := hid (Src.ofSlice _ Tryd.underlying29 ⟨w2.heap.size, 0, none⟩ 1 1 (entV x) rfl (fun j u hj => by
        have e : (⟨w2.heap.size, 0, none⟩ : Addr).add j = ⟨w2.heap.size, j, none⟩ := by rw [Addr.add_lit]; simp
        have e2 : (w2.alloc (.cells #[.int .i64 x.client, .int .i64 x.number, .string ⟨x.text.toArray⟩] 50)).drew.cell? ⟨w2.heap.size, j, none⟩ = (#[.int .i64 x.client, .int .i64 x.number, .string ⟨x.text.toArray⟩] : Array Value)[j]? := World.cell?_alloc_at _ _ _ _ rfl
        rw [e, e2, ← hj]
        simp [entV]) (by intro u hu; simp only [entV, List.mem_cons, List.not_mem_nil, or_false] at hu; rcases hu with rfl | rfl | rfl <;> rfl))
      have HROW : Hid ((w2.alloc (.cells #[.int .i64 x.client, .int .i64 x.number, .string ⟨x.text.toArray⟩] 50)).drew.ownsRow wS.heap.size 50 3 (.slice ao k ec) k (entsV (es.take k))) := hid (ho2.alloc _).drew
      have HRM := hid ((r2.no ((Frm.refl No w2).alloc (.cells #[.int .i64 x.client, .int .i64 x.number, .string ⟨x.text.toArray⟩] 50))).drew)
      have HBS : Hid (wS.heap.size ≤ (w2.alloc (.cells #[.int .i64 x.client, .int .i64 x.number, .string ⟨x.text.toArray⟩] 50)).drew.heap.size) := hid (by have := r2.mov.size; show _ ≤ (w2.alloc _).heap.size; rw [World.size_alloc]; omega)
      have hoB' := hid hoB
      have hxe := hid hx
      clear hwa p2 r2 b2 ho2 hoB hx HO hdr hge
      go_region_law (refine step_append_own rfl (.tmp 56) (.tmp 58) 29 29 rfl wS.heap.size 50 i0 _ 3 32 Tryd.underlying29 gi gz0 gz1 gz2 rfl (.slice ao k ec) k (entsV (es.take k)) (by simp [Act.eval]) HROW.out (.slice (some ⟨w2.heap.size, 0, none⟩) 1 1) 1 (entV x) (by simp [Act.eval]) HSRC.out (by unfold maxLen; omega) (by omega) HBS.out ?_; intro v3 w3 hown hd hv; obtain ⟨ao3, c3, rfl⟩ := ownsRow_shape hown; have r3 := HRM.out.own hd (fun g hg => (hoB'.out g hg).2); have pz : w3.cell? ⟨xb, 15, none⟩ = some (.slice ao k ec) := (r3.x.cell 15).trans (HC15 _).out; have pzf : w3.frozen? ⟨xb, 15, none⟩ = false := r3.x.fr 15)
      all_goals
        go_wp2_with fail
        refine ⟨⟨k + 1, .slice ao3 (k + 1) c3, by omega, by go_num, ?_, ?_⟩, by simp [intOf]; omega⟩
        · have := r3.setX 15 (by simp; omega) (.slice ao3 (k + 1) c3)
          rw [List.set_set] at this
          exact this
        · rw [entsV_snoc es k hkl, hxe.out]
          exact (Frm.setCell (p := ⟨xb, 15, none⟩) (Frm.refl (One xb) w3) (fun _ => rfl) _).row hown (fun g hg e => by
            have h1 := (hown.lt g hg).1
            have h2 := hq.lx
            have e : g = xb := e
            omega)
    · obtain rfl : k = es.length := by omega
      go_wp2_with fail
      go_end0
      refine ⟨rfl, ev, ?_, ?_⟩
      · rw [List.drop_length] at hq
        exact hq
      · rw [List.take_length] at ho
        exact ho
end RM
end Go.Proofs.YtaejcejfpcjifaaDoor
