/- In a truncated encoding, exactly the complete values are decoded. -/
import Derived.Test.YtlhcjoaeipgbeaaOctSpeaks
import Derived.Test.YtlhcjoaeipgbeaaOpen
namespace Go.Proofs.Ytlhcjoaeipgbeaa
open Go.ChangeShapes Go.WideShapes Go.ChangeAt Go.RowKit
open Go.ChangeMaps (open_string shut_string)

namespace OctCut
def V (x : Int) : Nat := ((BitVec.ofInt 64 x) &&& (BitVec.ofInt 64 9007199254740991)).toNat
theorem V_both (x : Int) : bits BinOp.and IntKind.i64 x 9007199254740991 = (V x : Int) ∧ V x ≤ 9007199254740991 := by
  have hb : (BitVec.ofInt 64 9007199254740991).toNat = 9007199254740991 := by decide
  have h : V x ≤ 9007199254740991 := by
    unfold V
    rw [BitVec.toNat_and, ← hb]
    exact Nat.le_trans Nat.and_le_right (by rw [hb]; exact Nat.le_refl _)
  refine ⟨?_, h⟩
  exact IntWalk.i64_in ((V x : Nat) : Int) ⟨by omega, by omega⟩
theorem V_eq (x : Int) : bits BinOp.and IntKind.i64 x 9007199254740991 = (V x : Int) := (V_both x).1
theorem V_le (x : Int) : V x ≤ 9007199254740991 := (V_both x).2

/-- The numbers that are written. -/
def vs (zs : List Int) : List Int := (zs.take 40).map fun z => (V z : Int)
theorem vs_length (zs : List Int) : (vs zs).length = min 40 zs.length := by simp [vs]
theorem vs_get (zs : List Int) (k : Nat) (h : k < (vs zs).length) (h2 : k < zs.length) : (vs zs)[k] = (V zs[k] : Int) := by simp [vs]
theorem vs_in (zs : List Int) : ∀ z ∈ vs zs, 0 ≤ z ∧ z ≤ 9007199254740991 := by
  intro z hz
  obtain ⟨y, -, rfl⟩ := List.mem_map.1 hz
  have := V_le y
  omega
/-- Where a number ends. -/
def cum (l : List Int) (k : Nat) : Nat := (Oct.ints (l.take k)).length
theorem cum_succ (l : List Int) (k : Nat) (h : k < l.length) : cum l (k + 1) = cum l k + (Oct.enc l[k]).length := by
  unfold cum
  rw [Oct.ints_snoc l k h, List.length_append]
theorem cum_all (l : List Int) : cum l l.length = (Oct.ints l).length := by unfold cum; rw [List.take_length]
theorem ints_drop (l : List Int) (k : Nat) (h : k < l.length) : Oct.ints (l.drop k) = Oct.enc l[k] ++ Oct.ints (l.drop (k + 1)) := by
  rw [List.drop_eq_getElem_cons h, Oct.ints, List.flatMap_cons]
  rfl
/-- What is left when k numbers were read. -/
def left (l : List Int) (c k : Nat) : List UInt8 := (Oct.ints (l.drop k)).take (c - cum l k)
theorem read_whole (l : List Int) (c k : Nat) (h : k < l.length) (hin : 0 ≤ l[k] ∧ l[k] ≤ 9007199254740991) (hc : cum l (k + 1) ≤ c) : Oct.rInt (left l c k) 0 = (l[k], left l c (k + 1), 0) := by
  have hs := cum_succ l k h
  have e : left l c k = Oct.enc l[k] ++ left l c (k + 1) := by
    unfold left
    rw [ints_drop l k h, List.take_append, List.take_of_length_le (by omega)]
    congr 2
    omega
  have hd := Oct.dec_enc l[k] (by omega) (by omega) (left l c (k + 1))
  rw [← e] at hd
  rw [rInt_ok hd, e]
  simp
theorem read_cut (l : List Int) (c k : Nat) (h : k < l.length) (hin : 0 ≤ l[k] ∧ l[k] ≤ 9007199254740991) (h0 : cum l k ≤ c) (hc : ¬ cum l (k + 1) ≤ c) : Oct.rInt (left l c k) 0 = (0, left l c k, 3) := by
  have hs := cum_succ l k h
  have hd := Oct.dec_cut l[k] (by omega) (by omega) (Oct.ints (l.drop (k + 1))) (c - cum l k) (by omega)
  rw [← ints_drop l k h] at hd
  exact rInt_er hd (by omega)
theorem cut_in (x L : Int) (h : 0 ≤ L) (h2 : L ≤ 1000000) : 0 ≤ (wrap64 (wrap64 (x.tmod (L + 1) + L) + 1)).tmod (L + 1) ∧ (wrap64 (wrap64 (x.tmod (L + 1) + L) + 1)).tmod (L + 1) ≤ L := by
  have h1 := Int.lt_tmod_of_pos x (b := L + 1) (by omega)
  have h3 := Int.tmod_lt_of_pos x (b := L + 1) (by omega)
  rw [IntWalk.wrap64_in (x.tmod (L + 1) + L) (by omega), IntWalk.wrap64_in _ (by omega), Int.tmod_eq_emod_of_nonneg (by omega)]
  have h4 := Int.emod_nonneg (x.tmod (L + 1) + L + 1) (b := L + 1) (by omega)
  have h5 := Int.emod_lt_of_pos (x.tmod (L + 1) + L + 1) (b := L + 1) (by omega)
  omega

set_option maxRecDepth 100000 in
set_option maxHeartbeats 1000000 in
theorem walk (v : Value) (zs : List Int) (cut : Int) (hcut : -9223372036854775808 ≤ cut ∧ cut ≤ 9223372036854775807) (w : World) (hr : RdL w v 1 (fun y => [Value.int .i64 y]) zs) (hzl : zs.length ≤ maxLen) (hg : ∀ x ∈ zs, Fits x) :
    Calls Try.prog 7 #[v, .int .i64 cut] w fun e w' => e = .returned (.bool true) ∧ Frm No w w' := by
  unfold maxLen at hzl
  obtain ⟨i0, hi, hz0, hz1, hz2⟩ := info_parts info_int
  have HVL := hid (vs_length zs)
  have HVI := hid (vs_in zs)
  obtain ⟨ao, c, rfl⟩ := hr.shape
  go_enter Try.func7, Try.ntmps7
  go_wp2_with (go_at_call 20; refine (octspeaks _).mono ?_; rintro e w1 ⟨rfl, hf1⟩)
  have ha0 := OutAt_new w1 56
  have hz := hf1.size
  obtain ⟨B, hB⟩ : ∃ B, w1.heap.size = B := ⟨_, rfl⟩
  rw [hB] at ha0 hz
  simp only [hB]
  go_loopw [6, 7] (fun u i wr => ∃ (k : Nat) (v' : Value), k ≤ zs.length ∧ k ≤ 40 ∧ i = .int .i64 (k : Int) ∧ OutAt wr B 0 v' (Oct.ints ((vs zs).take k)) false ∧ (∀ g, v'.ownBlock = some g → w.heap.size ≤ g) ∧
      wr.ownsRow w.heap.size 3 1 u k ((List.range k).map fun i => Value.int .i64 (cum (vs zs) (i + 1) : Int)) ∧ u.ownBlock ≠ some B ∧ (∀ g, u.ownBlock = some g → v'.ownBlock ≠ some g) ∧ Frm No w wr)
    (fun _ i _ => zs.length - (intOf i).toNat)
  case atStart => exact ⟨0, .slice none 0 0, by omega, by omega, rfl, ha0, by simp [Value.ownBlock], World.ownsRow_nil _ _ _ _, by simp [Value.ownBlock], by simp [Value.ownBlock], hf1.alloc _⟩
  case round =>
    obtain ⟨k, v', hk, hk40, rfl, hat, hge, hown, hub, hdj, hf⟩ := hrel
    by_cases hlast : k < zs.length ∧ k < 40
    · obtain ⟨hka, hk2⟩ := hlast
      have hkv : k < (vs zs).length := by rw [HVL.out]; omega
      obtain ⟨b, o, rfl, hc⟩ := hr.at_ (by omega)
      have hd0 : w.cell? ⟨b, o + k, none⟩ = some (.int .i64 zs[k]) := by have := hc k hka 0 (by omega); simpa using this
      have hbw : b < w.heap.size := World.block_lt_of_cell? w _ hd0
      have hc0 : wr.cell? ⟨b, o + k, none⟩ = some (.int .i64 zs[k]) := (hf.cell (p := ⟨b, o + k, none⟩) hbw (fun h => h)).trans hd0
      have hkc : (k : Int) < (zs.length : Int) := by omega
      have hmask := V_eq zs[k]
      rw [← vs_get zs k hkv hka] at hmask
      have hni := HVI.out _ (List.getElem_mem hkv)
      have HS := hid (Oct.ints_snoc (vs zs) k hkv)
      have HCM := hid (cum_succ (vs zs) k hkv)
      have hlen : (Oct.ints ((vs zs).take k)).length ≤ 8 * 40 := by
        have := Oct.ints_le ((vs zs).take k)
        rw [List.length_take] at this
        omega
      have HCK : Hid (cum (vs zs) k = (Oct.ints ((vs zs).take k)).length) := rfl
      have hne : (Oct.enc (vs zs)[k]).isEmpty = false := by
        have := Oct.enc_ne (n := (vs zs)[k]) (by omega) (by omega)
        simpa using this
      have hle8 := Oct.enc_le (vs zs)[k]
      clear hc hd0
      generalize (vs zs)[k] = n at *
      generalize zs[k] = z at *
      generalize Oct.ints ((vs zs).take k) = lk at *
      obtain ⟨hn0, hn1⟩ := hni
      go_wp2_with (first | (go_at_call 25; refine (out_int B 0 v' lk false n _ hat (by omega)).mono ?_; rintro e3 w3 ⟨rfl, v3, hp3⟩; have hw3 := hp3.frm.row hown (fun g hg hs => by rcases hs with rfl | hs; exact hub hg; exact hdj g hg hs); have hz3 := hp3.frm.size; have hzr := hf.size) | (go_at_call 26; refine (out_bytes B 0 v3 _ _ _ hp3.at_).mono ?_; rintro e4 w4 ⟨rfl, rfl⟩) | (at_builtin; refine wpList_push1 _ rfl _ _ 53 rfl w.heap.size 3 i0 _ 8 Try.underlying53 hi hz0 hz1 hz2 rfl u6 k _ rfl hw3 _ rfl rfl (by omega) (by omega) (by omega) ?_; intro v5 w5 hown5 hf5 hv5 hs5))
      have h3 := hp3.at_
      rw [hne] at h3
      have hbwr : B < wr.heap.size := hat.row.lt |> fun _ => World.block_lt_of_cell? wr _ hat.c0
      have hv3 : ∀ g, u6.ownBlock = some g → v3.ownBlock ≠ some g := by
        intro g hg' h
        rcases hp3.own with e | ⟨q, e, hq⟩
        · exact hdj g hg' (e ▸ h)
        · rw [e] at h; cases h; have := (hown.lt _ hg').2; omega
      refine ⟨⟨k + 1, v3, by omega, by omega, by go_num, ?_, OutPost.ge hp3 hf.size hge, ?_, ?_, ?_, ?_⟩, by simp [intOf]; omega⟩
      · rw [HS.out]
        exact h3.frm hf5 hub (fun g h hu => hv3 g hu h)
      · rw [List.range_succ, List.map_append]
        have : ((cum (vs zs) (k + 1) : Nat) : Int) = (lk.length : Int) + ((Oct.enc n).length : Int) := by rw [HCM.out, HCK.out]; push_cast; rfl
        rw [List.map_cons, this]
        exact hown5
      · rcases hv5 with e | ⟨q, e, hq⟩
        · rw [e]; exact hub
        · rw [e]; simp; omega
      · intro g hg' h
        rcases hv5 with e | ⟨q, e, hq⟩
        · exact hv3 g (e ▸ hg') h
        · rw [e] at hg'; cases hg'; have := (hp3.at_.row.lt _ h).2; omega
      · exact (OutPost.no hp3 hf (by omega) hge).trans hf5 (fun _ _ h => h) (fun i hi h => by have := (hown.lt i h).1; omega)
    · have hkN : k = (vs zs).length := by rw [HVL.out]; omega
      rw [hkN, List.take_length] at hat
      have hL : (Oct.ints (vs zs)).length ≤ 8 * 40 := by
        have := Oct.ints_le (vs zs)
        rw [HVL.out] at this
        omega
      have HCA := hid (cum_all (vs zs))
      rw [← hkN] at HCA
      have HKN := hid hkN
      clear hkN
      have hcut2 := cut_in cut ((Oct.ints (vs zs)).length : Int) (by omega) (by omega)
      obtain ⟨cc, hcc⟩ := Int.eq_ofNat_of_zero_le hcut2.1
      have hccL : cc ≤ (Oct.ints (vs zs)).length := by rw [hcc] at hcut2; omega
      clear hcut2
      have hrd := Rd.ofOwn hown
      obtain ⟨a6, c6, rfl⟩ := ownsRow_shape hown
      have hFl : cc ≤ (Oct.ints (vs zs)).length := hccL
      generalize hFF : Oct.ints (vs zs) = F at *
      have HFF := hid hFF
      clear hFF hccL hown
      have hs0 : F.take cc = left (vs zs) cc 0 := by
        show F.take cc = (Oct.ints (vs zs)).take (cc - 0)
        rw [HFF.out]
        rfl
      have HS0 := hid hs0
      clear hs0
      by_cases hka : k < zs.length
      all_goals
        go_wp2_with (first | (go_at_call 26; refine (out_bytes B 0 v' _ _ _ hat).mono ?_; rintro e4 w4 ⟨rfl, rfl⟩) | (go_at_call 27; refine (in_open _ _).mono ?_; rintro e2 w2 ⟨b1, rfl, hb1, ha1, hf2⟩))
        obtain ⟨wo, rfl⟩ : ∃ wo : World, wo = wr := ⟨_, rfl⟩
        have hzr := hf.size
        clear hcc
        go_loopw [13] (fun i wq => ∃ (j : Nat) (s : List UInt8) (e : Int), j ≤ k ∧ i = .int .i64 (j : Int) ∧ s.length ≤ 1000 ∧ InAt wq b1 s e ∧ Frm (One b1) w2 wq ∧ ((cum (vs zs) j ≤ cc ∧ e = 0 ∧ s = left (vs zs) cc j) ∨ (cc < cum (vs zs) j ∧ e = 3))) (fun i _ => k - (intOf i).toNat)
        case atStart => exact ⟨0, _, 0, by omega, rfl, by simp; omega, ha1, Frm.refl _ _, Or.inl ⟨by simp [cum, Oct.ints], rfl, HS0.out⟩⟩
        case round =>
          obtain ⟨j, s, e, hj, rfl, hsl, hin, hfq, hcase⟩ := hrel
          by_cases hjk : j < k
          · have hjv : j < (vs zs).length := by rw [← HKN.out]; exact hjk
            have hjz : j < zs.length := by omega
            obtain ⟨b, o, rfl, hc⟩ := hr.at_ (by omega)
            have hd0 : w.cell? ⟨b, o + j, none⟩ = some (.int .i64 zs[j]) := by have := hc j hjz 0 (by omega); simpa using this
            have hbw : b < w.heap.size := World.block_lt_of_cell? w _ hd0
            have hfw : Frm No w wr := ((hf.thenNo hf2).trans hfq (fun _ _ h => h) (fun i hi (h : i = b1) => by omega))
            obtain ⟨b6, o6, rfl, hc6⟩ := hrd.at_ (by omega)
            have hd6 := hc6 j (by omega)
            simp only [List.getElem_map, List.getElem_range] at hd6
            have hb6 : b6 < wo.heap.size := World.block_lt_of_cell? wo _ hd6
            have hfo : Frm No wo wr := (hf2.any.trans hfq (fun _ _ h => h) (fun i hi (h : i = b1) => by omega))
            clear hc hc6
            have hmask := V_eq zs[j]
            rw [← vs_get zs j hjv hjz] at hmask
            have hni := HVI.out _ (List.getElem_mem hjv)
            have HW := hid (read_whole (vs zs) cc j hjv hni)
            have HT := hid (read_cut (vs zs) cc j hjv hni)
            have hcs := cum_succ (vs zs) j hjv
            have hjl : (j : Int) < (zs.length : Int) := by omega
            have HI := hid (fun h => in_int b1 s e wr h (by omega))
            have hrl := rInt_len s e
            generalize zs[j] = z at *
            generalize (vs zs)[j] = n at *
            obtain ⟨hn0, hn1⟩ := hni
            rcases hcase with ⟨hle, rfl, rfl⟩ | ⟨hlt, rfl⟩
            · by_cases hwh : cum (vs zs) (j + 1) ≤ cc
              · have hrr := HW.out hwh
                rw [hrr] at HI hrl
                simp only at HI hrl
                go_wp2_with (first | (go_at_call 28; refine (HI.out hin).mono ?_; rintro e7 w7 ⟨rfl, hy, hg7⟩; have hfw7 : Frm No w w7 := hfw.trans hg7 (fun _ _ h => h) (fun i hi (h : i = b1) => by omega); have hfo7 : Frm No wo w7 := hfo.trans hg7 (fun _ _ h => h) (fun i hi (h : i = b1) => by omega); have q0 := (hfw7.cell (p := ⟨b, o + j, none⟩) hbw (fun h => h)).trans hd0; have q6 := (hfo7.cell (p := ⟨b6, o6 + j, none⟩) hb6 (fun h => h)).trans hd6) | (go_at_call 29; refine (in_err b1 _ _ _ hy).mono ?_; rintro e8 w8 ⟨rfl, rfl⟩))
                exact ⟨⟨j + 1, _, _, by omega, by go_num, by (try dsimp only at hrl ⊢); omega, hy, hfq.then_ hg7, Or.inl ⟨hwh, rfl, rfl⟩⟩, by simp [intOf]; omega⟩
              · have hrr := HT.out hle hwh
                rw [hrr] at HI hrl
                simp only at HI hrl
                go_wp2_with (first | (go_at_call 28; refine (HI.out hin).mono ?_; rintro e7 w7 ⟨rfl, hy, hg7⟩; have hfw7 : Frm No w w7 := hfw.trans hg7 (fun _ _ h => h) (fun i hi (h : i = b1) => by omega); have hfo7 : Frm No wo w7 := hfo.trans hg7 (fun _ _ h => h) (fun i hi (h : i = b1) => by omega); have q0 := (hfw7.cell (p := ⟨b, o + j, none⟩) hbw (fun h => h)).trans hd0; have q6 := (hfo7.cell (p := ⟨b6, o6 + j, none⟩) hb6 (fun h => h)).trans hd6) | (go_at_call 29; refine (in_err b1 _ _ _ hy).mono ?_; rintro e8 w8 ⟨rfl, rfl⟩))
                exact ⟨⟨j + 1, _, _, by omega, by go_num, by (try dsimp only at hrl ⊢); omega, hy, hfq.then_ hg7, Or.inr ⟨by omega, rfl⟩⟩, by simp [intOf]; omega⟩
            · have hrr := rInt_no (s := s) (e := 3) (by omega)
              rw [hrr] at HI hrl
              simp only at HI hrl
              go_wp2_with (first | (go_at_call 28; refine (HI.out hin).mono ?_; rintro e7 w7 ⟨rfl, hy, hg7⟩; have hfw7 : Frm No w w7 := hfw.trans hg7 (fun _ _ h => h) (fun i hi (h : i = b1) => by omega); have hfo7 : Frm No wo w7 := hfo.trans hg7 (fun _ _ h => h) (fun i hi (h : i = b1) => by omega); have q0 := (hfw7.cell (p := ⟨b, o + j, none⟩) hbw (fun h => h)).trans hd0; have q6 := (hfo7.cell (p := ⟨b6, o6 + j, none⟩) hb6 (fun h => h)).trans hd6) | (go_at_call 29; refine (in_err b1 _ _ _ hy).mono ?_; rintro e8 w8 ⟨rfl, rfl⟩))
              exact ⟨⟨j + 1, _, _, by omega, by go_num, by (try dsimp only at hrl ⊢); omega, hy, hfq.then_ hg7, Or.inr ⟨by omega, rfl⟩⟩, by simp [intOf]; omega⟩
          · obtain rfl : j = k := by omega
            go_wp2_with fail
            go_ret
            exact ⟨rfl, (hf.thenNo hf2).trans hfq (fun _ _ h => h) (fun i hi (h : i = b1) => by omega)⟩

set_option maxRecDepth 100000 in
theorem lifted (os : Os) (started : os.Started) (H : Type) (enc : TypeId × Value → H) :
    ReturnsInHanded {} Try.checked os 7 .any (Rows.octetsCutSpec.pre6 enc Try.prog Try.f7 Rows.octetsCutRow.domain false) (Rows.octetsCutSpec.post enc Try.prog Try.f7 false true false false) := by
  refine returnsInHanded_of_change_sized (C := Try.checked) own started (by kernel_rfl) Try.func7
    (ChangeSpec.witness6 (enc := enc) (C := Try.checked) false ⟨#[], #[.slice none 0 0, .int .i64 0], []⟩ 8 (by kernel_rfl) (by kernel_rfl) (by kernel_rfl) (by kernel_rfl)) ?_
  intro W base args ds gs before hval0 hW _ hsz0 _
  have hsz : (DataW.weightsEach Try.prog (Try.f7.params.toList ++ Rows.octetsCutSpec.plain.varTypes Try.prog) (ds ++ gs)).all (· ≤ reachBytes) = true := hsz0
  clear hsz0
  have hval : ∀ (j : Nat) t v, Try.f7.params[j]? = some t → args[j]? = some v → Value.okWide Try.prog W .any base t v := hval0
  have hW' : DataW.Whole enc Try.prog Try.f7.params.toList Rows.octetsCutSpec.vars false W args.toList ds gs before := hW
  have hts : ∀ t ∈ Try.f7.params.toList, Try.prog.readableRec t = true ∧ t < Try.prog.types.size := by
    rw [Try.params7]
    intro t ht
    simp only [List.mem_cons, List.not_mem_nil, or_false] at ht
    rcases ht with rfl | rfl <;> exact ⟨by kernel_rfl, of_decide_eq_true (by kernel_rfl)⟩
  obtain ⟨p, q, hA0, hV, hbef, hfz, hnd⟩ := hW
  have hA : DataW.TrodAll enc Try.prog W 0 (fun _ => true) true Try.f7.params.toList args.toList ds p := hA0
  rw [Try.params7] at hA hval hsz
  obtain ⟨v0, vs0, d0, ds0, p0, q0, hargs, rfl, rfl, h0, r0⟩ := trodAll_cons hA
  obtain ⟨v1, vs1, d1, ds1, p1, q1, rfl, rfl, rfl, h1, r1⟩ := trodAll_cons r0
  obtain ⟨rfl, rfl, rfl⟩ := trodAll_nil r1
  obtain rfl : args = #[v0, v1] := by cases args; simp_all
  clear hA hA0 hval0
  obtain ⟨x0, hr0, hn0, hg0⟩ := open_ints_list (enc := enc) h0 (okWide_slice Try.underlying53 (hval 0 53 v0 rfl rfl))
  obtain ⟨a1, rfl, rfl, rfl, w1⟩ := open_int Try.underlying3 (hval 1 3 v1 rfl rfl) h1
  have b1 := bounds_i64 w1
  refine (walk v0 x0 a1 b1 W hr0 hn0 hg0).mono fun e W' ⟨he, hg⟩ => ?_
  subst he
  exact ⟨_, rfl, post_law hW' rfl Try.underlying4 rfl rfl rfl rfl laidOut hts hg.toBelow⟩

theorem over : Rows.octetsCutRow.holds Try.pinned (OpenSpec.ofChange Rows.octetsCutSpec) :=
  OpenClaim.holds_of_wide 7 Try.f7 rfl rfl rfl rfl rfl rfl rfl ⟨rfl, rfl, rfl, rfl, rfl⟩ rfl rfl rfl rfl rfl (by kernel_rfl) Try.func7 (by kernel_rfl)
    (of_decide_eq_true (by kernel_rfl)) (by unfold Func.isWrapper; first | (rw [if_pos (by decide +kernel)]; kernel_rfl) | (rw [if_neg (by decide +kernel)]; exact ⟨rfl, rfl⟩))
    (fun os started H enc _ => lifted os started H enc)

theorem proved : Rows.OctetsCutSaid :=
  over
#print axioms proved
end OctCut
end Go.Proofs.Ytlhcjoaeipgbeaa
