/- The walks of the reference's Place and Turned. -/
import Derived.Test.YthbacebkidggdaaNet4
namespace Go.Proofs.Ythbacebkidggdaa
open Go.RowKit
open Spo

set_option maxRecDepth 100000 in
theorem place_any (x : Int) (n : Nat) (w : World) (h : 0 < n) (hn : n ≤ 1000000000) :
    Calls Try.prog 6 #[.int .i64 x, .int .i64 (n : Int)] w fun e w' => e = .returned (.int .i64 (pl x n : Int)) ∧ w = w' := by
  have hn0 : ((n : Int) == 0) = false := by simp; omega
  have h1 := Int.lt_tmod_of_pos x (b := (n : Int)) (by omega)
  have h3 := Int.tmod_lt_of_pos x (b := (n : Int)) (by omega)
  have h4 := Int.emod_nonneg x (b := (n : Int)) (by omega)
  have h5 := Int.emod_lt_of_pos x (b := (n : Int)) (by omega)
  by_cases hneg : x.tmod (n : Int) < 0
  · have e : x.tmod (n : Int) + (n : Int) = (pl x n : Int) := by
      unfold pl
      have e1 : (x.tmod (n : Int)) % (n : Int) = x % (n : Int) := by
        rw [Int.tmod_eq_emod]
        split
        · simp
        · first | (have hn0 : (Int.natAbs (n : Int) : Int) = (n : Int) := by omega
                   rw [hn0, Int.sub_emod_right]; simp) | (simp [Int.sub_emod])
      have e2 : (x.tmod (n : Int) + (n : Int)) % (n : Int) = x % (n : Int) := by rw [Int.add_emod_right, e1]
      rw [Int.emod_eq_of_lt (by omega) (by omega)] at e2
      omega
    go_enter Try.func6, Try.ntmps6
    go_wp2_with fail
    go_ret
    exact ⟨by first | rfl | (rw [← e]; rfl), rfl⟩
  · have e : x.tmod (n : Int) = (pl x n : Int) := by
      unfold pl
      rw [Int.tmod_eq_emod] at *
      split at h1
      · rename_i hs
        rw [if_pos hs]; omega
      · rename_i hs
        rw [if_neg hs] at hneg ⊢
        omega
    have hp0 : ¬ ((pl x n : Nat) : Int) < 0 := by omega
    go_enter Try.func6, Try.ntmps6
    go_wp2_with fail
    go_ret
    exact ⟨rfl, rfl⟩

set_option maxRecDepth 100000 in
theorem turned_dead (f : Fr) (hd : f.bytes = [] ∨ f.bad = true) (at_ by_ : Int) (w : World) (hbl : f.bytes.length ≤ 1000000) :
    Calls Try.prog 9 #[.agg #[.int .i64 f.from_, .int .i64 f.to_, .string ⟨f.bytes.toArray⟩, .bool f.bad], .int .i64 at_, .int .u32 by_] w fun e w' => e = .returned (.tuple #[.agg #[.int .i64 f.from_, .int .i64 f.to_, .string ⟨f.bytes.toArray⟩, .bool f.bad], .bool false]) ∧ Frm No w w' := by
  obtain ⟨a1, a2, bs, bad⟩ := f
  simp only at hd hbl ⊢
  by_cases hbs : bs = []
  · subst hbs
    go_enter Try.func9, Try.ntmps9
    go_wp2_with fail
    refine bodyPost_ret (v := .tuple #[.agg #[.int .i64 a1, .int .i64 a2, .string ⟨#[]⟩, .bool bad], .bool false]) (by simp [results, Try.results9, go_sem]) rfl ⟨rfl, ?_⟩
    first | exact ((Frm.refl No w).alloc _).alloc _ | exact (((Frm.refl No w).alloc _).alloc _).drew
  · have hbad : bad = true := by rcases hd with h | h; exact absurd h hbs; exact h
    subst hbad
    have hbp : 0 < bs.length := List.length_pos_iff.2 hbs
    have hnz : ((bs.length : Int) == 0) = false := by simp; omega
    go_enter Try.func9, Try.ntmps9
    go_wp2_with fail
    refine bodyPost_ret (v := .tuple #[.agg #[.int .i64 a1, .int .i64 a2, .string ⟨bs.toArray⟩, .bool true], .bool false]) (by simp [results, Try.results9, go_sem]) rfl ⟨rfl, ?_⟩
    first | exact ((Frm.refl No w).alloc _).alloc _ | exact (((Frm.refl No w).alloc _).alloc _).drew

set_option maxRecDepth 100000 in
set_option maxHeartbeats 1000000 in
theorem turned_live (f : Fr) (hd1 : f.bytes ≠ []) (hd2 : f.bad = false) (at_ : Int) (n : Nat) (_ : n ≤ 4294967295) (hbl : f.bytes.length ≤ 1000000) (g : Fr) (ch : Bool) (hch : Hid (decide (turned f.bytes n (pl at_ f.bytes.length) 4 ≠ f.bytes) = ch)) (hg : Hid ((if turned f.bytes n (pl at_ f.bytes.length) 4 ≠ f.bytes then ⟨f.from_, f.to_, turned f.bytes n (pl at_ f.bytes.length) 4, true⟩ else f) = g)) (w : World) :
    Calls Try.prog 9 #[.agg #[.int .i64 f.from_, .int .i64 f.to_, .string ⟨f.bytes.toArray⟩, .bool f.bad], .int .i64 at_, .int .u32 (n : Int)] w fun e w' => e = .returned (.tuple #[.agg #[.int .i64 g.from_, .int .i64 g.to_, .string ⟨g.bytes.toArray⟩, .bool g.bad], .bool ch]) ∧ Frm No w w' := by
  have hc1 := fun (W : World) (x : Int) => conv_one (P := Try.prog) W Try.underlying47 Try.underlying5 Try.underlying9 x
  obtain ⟨a1, a2, bs, bad⟩ := f
  simp only at hd1 hd2 hbl hch hg ⊢
  subst hd2
  have hbp : 0 < bs.length := List.length_pos_iff.2 hd1
  have hnz : ((bs.length : Int) == 0) = false := by simp; omega
  have HP := hid (fun w => place_any at_ bs.length w hbp (by omega))
  have hpp := pl_lt at_ bs.length hbp
  generalize pl at_ bs.length = p at *
  clear hd1
  have htl := turned_length bs n p 4
  go_enter Try.func9, Try.ntmps9
  go_wp2_with (go_at_call 6; refine (HP.out _).mono ?_; rintro e1 w1 ⟨rfl, rfl⟩)
  obtain ⟨W0, hW0⟩ : ∃ W0 : World, W0 = (w.alloc (.cells #[.int .i64 a1, .int .i64 a2, .string ⟨bs.toArray⟩, .bool false] 30)).alloc (.cells #[.int .i64 0, .int .i64 0, .string ⟨#[]⟩, .bool false] 30) := ⟨_, rfl⟩
  rw [← hW0]
  have hf0 : Frm No w W0 := by rw [hW0]; exact ((Frm.refl _ _).alloc _).alloc _
  have hz0 : W0.heap.size = w.heap.size + 2 := by rw [hW0]; simp
  have k0 : ∀ j, W0.cell? ⟨w.heap.size, j, none⟩ = (#[.int .i64 a1, .int .i64 a2, .string ⟨bs.toArray⟩, .bool false] : Array Value)[j]? := fun j => by
    rw [hW0]; exact (((Frm.refl No _).alloc _).cell (p := ⟨w.heap.size, j, none⟩) (by simp) (fun h => h)).trans (World.cell?_alloc_at _ _ _ _ rfl)
  have k1 : ∀ j, W0.cell? ⟨w.heap.size + 1, j, none⟩ = (#[.int .i64 0, .int .i64 0, .string ⟨#[]⟩, .bool false] : Array Value)[j]? := fun j => by
    rw [hW0]; exact World.cell?_alloc_at _ _ _ _ (by simp)
  have z1 : ∀ j, W0.frozen? ⟨w.heap.size + 1, j, none⟩ = false := fun j => by
    rw [hW0]; exact World.frozen?_alloc_at _ _ _ _ (by simp)
  clear hW0
  go_loopw [10, 11] (fun s i wr => ∃ k : Nat, k ≤ bs.length ∧ i = .int .i64 (k : Int) ∧ s = .string ⟨((turned bs n p 4).take k).toArray⟩ ∧ Frm No W0 wr) (fun _ i _ => bs.length - (intOf i).toNat)
  case atStart => exact ⟨0, by omega, rfl, rfl, Frm.refl _ _⟩
  case round =>
    obtain ⟨k, hk, rfl, rfl, hf⟩ := hrel
    have q0 := fun j => (hf.cell (p := ⟨w.heap.size, j, none⟩) (by rw [hz0]; simp) (fun h => h)).trans (k0 j)
    have q1 := fun j => (hf.cell (p := ⟨w.heap.size + 1, j, none⟩) (by rw [hz0]; simp) (fun h => h)).trans (k1 j)
    have y1 := fun j => (hf.frozen (p := ⟨w.heap.size + 1, j, none⟩) (by rw [hz0]; simp) (fun h => h)).trans (z1 j)
    by_cases hkl : k < bs.length
    · have hkz : (k : Int) < (bs.length : Int) := by omega
      have hTk : k < (turned bs n p 4).length := by omega
      have HT : Hid ((turned bs n p 4).take (k + 1) = (turned bs n p 4).take k ++ [bs[k] ^^^ D n p 4 k]) := by
        refine hid ?_
        rw [List.take_succ_eq_append_getElem hTk, turned_at]
      have hll : ((turned bs n p 4).take k).length = k := by rw [List.length_take]; omega
      generalize (turned bs n p 4).take k = tk at *
      by_cases hwin : p ≤ k ∧ k < p + 4
      · obtain ⟨d, rfl⟩ : ∃ d, k = p + d := ⟨k - p, by omega⟩
        have hd : D n p 4 (p + d) = sbyte n d := by
          unfold D
          rw [if_pos hwin, Nat.add_sub_cancel_left]
        rw [hd] at HT
        have hX := xor_u8 bs[p + d] (sbyte n d)
        have hS := sbyte_int n d
        have hd4 : (d : Int) < 4 := by omega
        have hpd : (p : Int) ≤ (p : Int) + (d : Int) := by omega
        have hsub : (p : Int) + (d : Int) - (p : Int) = (d : Int) := by omega
        generalize bs[p + d] ^^^ sbyte n d = z at *
        generalize sbyte n d = y at *
        go_wp2_with fail
        refine ⟨⟨p + d + 1, by omega, by go_num, ?_, hf.alloc _⟩, by simp [intOf]; omega⟩
        rw [HT.out]
      · have hd : D n p 4 k = 0 := if_neg hwin
        rw [hd] at HT
        have hz8 : UInt8.ofNat ((bs[k].toNat : Nat) : Int).toNat = bs[k] := by rw [Int.toNat_natCast, UInt8.ofNat_toNat]
        have hx0 : bs[k] ^^^ 0 = bs[k] := by simp
        rw [hx0] at HT
        by_cases hpk : p ≤ k
        · have hpk' : (p : Int) ≤ (k : Int) := by omega
          have hd4 : ¬ (k : Int) - (p : Int) < 4 := by omega
          go_wp2_with fail
          refine ⟨⟨k + 1, by omega, by go_num, ?_, hf.alloc _⟩, by simp [intOf]; omega⟩
          rw [HT.out]
        · have hpk' : ¬ (p : Int) ≤ (k : Int) := by omega
          go_wp2_with fail
          refine ⟨⟨k + 1, by omega, by go_num, ?_, hf.alloc _⟩, by simp [intOf]; omega⟩
          rw [HT.out]
    · obtain rfl : k = bs.length := by omega
      rw [List.take_of_length_le (by omega)]
      have hfw := hf0.thenNo hf
      obtain ⟨T, hTT⟩ : ∃ T, turned bs n p 4 = T := ⟨_, rfl⟩
      rw [hTT] at hch hg ⊢
      clear hTT htl HP hc1
      by_cases hT : T = bs
      · rw [hT] at hch hg ⊢
        have hch' : false = ch := by rw [← hch.out]; exact (decide_eq_false (fun h => h rfl)).symm
        have hg' : (⟨a1, a2, bs, false⟩ : Fr) = g := by rw [← hg.out]; exact (if_neg (fun h => h rfl)).symm
        subst hch' hg'
        clear hch hg hT
        go_wp2_with fail
        have ⟨r0, r1, r2, r3⟩ := store4_cell (q1 0) (q1 1) (q1 2) (q1 3) (.int .i64 a1) (.int .i64 a2) (.string ⟨bs.toArray⟩) (.bool false)
        refine bodyPost_ret (v := .tuple #[.agg #[.int .i64 a1, .int .i64 a2, .string ⟨bs.toArray⟩, .bool false], .bool false]) (by simp [results, Try.results9, go_sem, r0, r1, r2, r3]) rfl ⟨rfl, store4 hfw (by omega) _ _ _ _⟩
      · have hTb : (T == bs) = false := by simpa using hT
        have hch' : true = ch := by rw [← hch.out]; exact (decide_eq_true hT).symm
        have hg' : (⟨a1, a2, T, true⟩ : Fr) = g := by rw [← hg.out, if_pos hT]
        subst hch' hg'
        clear hch hg hT
        go_wp2_with fail
        have ⟨r0, r1, r2, r3⟩ := store4_cell (q1 0) (q1 1) (q1 2) (q1 3) (.int .i64 a1) (.int .i64 a2) (.string ⟨T.toArray⟩) (.bool true)
        refine bodyPost_ret (v := .tuple #[.agg #[.int .i64 a1, .int .i64 a2, .string ⟨T.toArray⟩, .bool true], .bool true]) (by simp [results, Try.results9, go_sem, r0, r1, r2, r3]) rfl ⟨rfl, store4 hfw (by omega) _ _ _ _⟩
end Go.Proofs.Ythbacebkidggdaa
