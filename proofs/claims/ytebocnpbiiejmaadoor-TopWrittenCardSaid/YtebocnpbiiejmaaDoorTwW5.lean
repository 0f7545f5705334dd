/- Grammars as texts: the walk of format's put. Printed by a program (tww5.py). -/
import Derived.Test.YtebocnpbiiejmaaDoorTwW34
namespace Go.Proofs.YtebocnpbiiejmaaDoor
open Go.RowKit
theorem joined_snoc {α : Type} (sep : List α) : ∀ (L : List (List α)) (a : List α), Gr.joined sep (L ++ [a]) = Gr.joined sep L ++ ((if L = [] then [] else sep) ++ a)
  | [], a => rfl
  | [c], a => by show c ++ (sep ++ a) = c ++ ((if [c] = [] then [] else sep) ++ a); rw [if_neg (by simp)]
  | c :: e :: L, a => by
    show c ++ (sep ++ Gr.joined sep (e :: L ++ [a])) = (c ++ (sep ++ Gr.joined sep (e :: L))) ++ _
    rw [joined_snoc sep (e :: L) a, if_neg (by simp), if_neg (by simp)]
    simp
theorem joined_le {α : Type} (sep : List α) : ∀ (A B : List (List α)), (Gr.joined sep A).length ≤ (Gr.joined sep (A ++ B)).length
  | [], _ => Nat.zero_le _
  | [a], B => by
    cases B with
    | nil => exact Nat.le_refl _
    | cons b B => show a.length ≤ (a ++ _).length; rw [List.length_append]; omega
  | a :: c :: A, B => by
    show (a ++ (sep ++ Gr.joined sep (c :: A))).length ≤ (a ++ (sep ++ Gr.joined sep (c :: A ++ B))).length
    have := joined_le sep (c :: A) B
    simp only [List.length_append]
    omega
theorem joined_take {α : Type} (sep : List α) (L : List (List α)) (k : Nat) (h : k < L.length) : Gr.joined sep (L.take (k + 1)) = Gr.joined sep (L.take k) ++ ((if k = 0 then [] else sep) ++ L[k]) := by
  rw [List.take_succ_eq_append_getElem h, joined_snoc]
  by_cases h0 : k = 0
  · subst h0
    rw [if_pos rfl, if_pos (by simp)]
  · rw [if_neg h0, if_neg]
    intro e
    have h1 : (L.take k).length = 0 := by rw [e]; rfl
    rw [List.length_take] at h1
    omega
theorem joined_takele {α : Type} (sep : List α) (L : List (List α)) (k : Nat) : (Gr.joined sep (L.take k)).length ≤ (Gr.joined sep L).length := by
  have := joined_le sep (L.take k) (L.drop k)
  rwa [List.take_append_drop] at this
theorem Wri.cell {b : Nat} {w w1 : World} {v v1 : Value} {l l0 : List UInt8} {o : Obj} (h0 : Wri w b v l0) (h : Wrote b (w.alloc o) v l v1 w1) {g : Nat} (hg : g < b) (j : Nat) : w1.cell? ⟨g, j, none⟩ = w.cell? ⟨g, j, none⟩ := by
  have hb := h0.lt
  exact (h.frm.cell (p := ⟨g, j, none⟩) (by rw [World.size_alloc]; show g < _; omega) (writer_set h0 hg)).trans (((Frm.refl No w).alloc o).cell (p := ⟨g, j, none⟩) (by show g < _; omega) (fun h => h))
theorem kids_ok {k : Nat} {s : List UInt8} {l : List Gr.Nd} (hp : Gr.proper (.mk k s l) = true) : ∀ d ∈ l, Gr.proper d = true := by
  rw [proper_mk, Bool.and_eq_true] at hp
  have h := hp.2
  simp only [Bool.not_eq_true', List.any_eq_false] at h
  intro d hd
  simpa using h d hd
set_option maxHeartbeats 4000000 in
theorem put_ref (s : List UInt8) (ks : List Gr.Nd) : PutOK (.mk 1 s ks) := by
  intro w b v l x Q hW hN hQ hL
  have hxk : x.k = 1 := hN.1
  have hxs : x.s = s := hN.2.1
  have HE : Hid ((Gr.pr Gr.AB (.mk 1 s ks)).put = s) := hid rfl
  rw [HE.out] at hL ⊢
  obtain ⟨k, s', ao, n, c⟩ := x
  obtain rfl : k = 1 := hxk
  obtain rfl : s' = s := hxs
  have HS := hid (fun (W : World) (hf : Frm No w W) => wstr_any b v l s' W (hW.no hf) hL)
  clear hW hN hQ hL
  unfold nvA
  go_enter Tryd.func14, Tryd.ntmps14
  go_wp2_with fail
  go_region_with (first | (go_at_call 13; refine (HS.out _ (by repeat (first | with_reducible exact Frm.refl _ _ | with_reducible refine Frm.drew ?_ | with_reducible refine Frm.alloc ?_ _))).mono ?_; rintro e w1 ⟨rfl, v1, h1⟩))
  all_goals
    go_wp2_with fail
    go_end0
    exact wrote_end (Frm.drew ((Frm.refl No w).alloc _)) h1 rfl
set_option maxHeartbeats 4000000 in
theorem put_lit (s : List UInt8) (ks : List Gr.Nd) (hs : s.length ≤ 16) : PutOK (.mk 2 s ks) := by
  intro w b v l x Q hW hN hQ hL
  have hxk : x.k = 2 := hN.1
  have hxs : x.s = s := hN.2.1
  have HE : Hid ((Gr.pr Gr.AB (.mk 2 s ks)).put = Gr.quote s) := hid rfl
  rw [HE.out] at hL ⊢
  obtain ⟨k, s', ao, n, c⟩ := x
  obtain rfl : k = 2 := hxk
  obtain rfl : s' = s := hxs
  have HQT := hid (fun (W : World) => quote_any s' (by omega) W)
  have HS := hid (fun (W : World) (hf : Frm No w W) => wstr_any b v l (Gr.quote s') W (hW.no hf) hL)
  generalize Gr.quote s' = q at *
  clear hW hN hQ hL
  unfold nvA
  go_enter Tryd.func14, Tryd.ntmps14
  go_wp2_with fail
  go_region_with (first | (go_at_call 40; refine (HQT.out _).mono ?_; rintro e w1 ⟨rfl, hF1⟩) | (go_at_call 13; refine (HS.out _ (Frm.thenNo (by repeat (first | with_reducible exact Frm.refl _ _ | with_reducible refine Frm.drew ?_ | with_reducible refine Frm.alloc ?_ _)) hF1)).mono ?_; rintro e w2 ⟨rfl, v1, h1⟩))
  all_goals
    go_wp2_with fail
    go_end0
    exact wrote_end (Frm.thenNo (by repeat (first | with_reducible exact Frm.refl _ _ | with_reducible refine Frm.drew ?_ | with_reducible refine Frm.alloc ?_ _)) hF1) h1 rfl
set_option maxRecDepth 100000 in
set_option maxHeartbeats 8000000 in
theorem put_seq (s : List UInt8) (ks : List Gr.Nd) (hk : ∀ d ∈ ks, PutOK d) : PutOK (.mk 3 s ks) := by
  intro w b v l x Q hW hN hQ hL
  obtain ⟨hxk, -, hq, xs, ho, hks⟩ := hN
  have HE : Hid ((Gr.pr Gr.AB (.mk 3 s ks)).put = Gr.joined [32] (ks.map (fun d => Gr.Pr.item Gr.AB (Gr.pr Gr.AB d)))) := hid (by
    show Gr.joined Gr.AB.sp ((Gr.prs Gr.AB ks).map (Gr.Pr.item Gr.AB)) = _
    rw [Gr.prs_eq, List.map_map]
    rfl)
  rw [HE.out] at hL ⊢
  clear HE
  obtain ⟨L, hLe⟩ : ∃ L, ks.map (fun d => Gr.Pr.item Gr.AB (Gr.pr Gr.AB d)) = L := ⟨_, rfl⟩
  rw [hLe] at hL ⊢
  have hlen : xs.length = L.length := by rw [← hLe, List.length_map]; exact NdRs.len hks
  have hlk : L.length = ks.length := by rw [← hLe, List.length_map]
  have HLK := hid hlk
  have h63 := own_le ho
  have HI := hid (fun (i : Nat) (hd : i < ks.length) (hi : i < L.length) (hx : i < xs.length) (W : World) (u : Value) (m : List UInt8) (hW : Wri W b u m) (hN : NdQ W Q ks[i] xs[i]) (hl : m.length + L[i].length ≤ 140737488355328) => by
    have hiL : L[i] = Gr.Pr.item Gr.AB (Gr.pr Gr.AB ks[i]) := by
      simp only [← hLe, List.getElem_map]
    rw [hiL] at hl
    have h := item_any (hk _ (List.getElem_mem hd)) W b u m xs[i] Q hW hN hQ hl
    rw [← hiL] at h
    exact h)
  have HT := hid (fun (i : Nat) (hd : i < ks.length) (hx : i < xs.length) (W : World) (v1 : Value) (m : List UInt8) (h : Wrote b (w.alloc (.cells #[.int .i64 3, .string ⟨x.s.toArray⟩, .slice x.ao x.n x.c] 41)) v m v1 W) => h.tree (hW.al _) hQ ((NdRs.at_ hks i hd hx).al (.cells #[.int .i64 3, .string ⟨x.s.toArray⟩, .slice x.ao x.n x.c] 41)))
  have hv := rdl_own nv_shp ho
  have HB : Hid (∀ g o c, x.v = .slice (some ⟨g, o, none⟩) xs.length c → g < b) := hid (fun g o c e => hQ g (hq g (by rw [e]; have := ho.2; rw [e] at this; rcases this with ⟨h, _⟩ | ⟨g', cap, cur, h, _⟩ <;> first | (cases h; done) | (injection h with h1; injection h1 with h1; injection h1 with h1 h2; rw [h2]; rfl))))
  have HW := hid hW
  have HQ := hid hQ
  have HLL : Hid (l.length + (Gr.joined [32] L).length ≤ 140737488355328) := hid hL
  have HLEN := hid hlen
  obtain ⟨k, s', ao, n, c⟩ := x
  obtain rfl : k = 3 := hxk
  have hn : n = xs.length := by
    obtain ⟨ao', c', e⟩ := ownsRow_shape ho
    injection e
  subst hn
  clear hk hL hLe hlen hlk ho hks hq hW hQ
  unfold nvA
  change RdL w (.slice ao xs.length c) 3 nvC xs at hv
  have HB2 : Hid (∀ g o, ao = some ⟨g, o, none⟩ → g < b) := hid (fun g o e => HB.out g o c (by show Value.slice ao _ _ = _; rw [e]))
  clear HB
  dsimp only at HT
  obtain ⟨W1, hW1⟩ : ∃ W1, w.alloc (.cells #[.int .i64 3, .string ⟨s'.toArray⟩, .slice ao xs.length c] 41) = W1 := ⟨_, rfl⟩
  have HW1 := hid hW1
  have HR1 : Hid (Wri W1 b v l) := hid (by rw [← hW1]; exact HW.out.al _)
  have HF1 : Hid (Frm No w W1) := hid (by rw [← hW1]; exact (Frm.refl No w).alloc _)
  have d2 : W1.cell? ⟨w.heap.size, 2, none⟩ = some (.slice ao xs.length c) := by rw [← hW1]; exact World.cell?_alloc_at _ _ _ _ rfl
  have d0 : W1.cell? ⟨w.heap.size, 0, none⟩ = some (.int .i64 3) := by rw [← hW1]; exact World.cell?_alloc_at _ _ _ _ rfl
  rw [hW1] at HT
  show Calls Tryd.prog 14 #[.pointer (some ⟨b, 0, none⟩), .agg #[.int .i64 3, .string ⟨s'.toArray⟩, .slice ao xs.length c]] w _
  go_enter Tryd.func14, Tryd.ntmps14
  go_upto_region 7 with fail
  try rw [hW1]
  clear hW1
  have HCL : Hid (∀ (W : World) (v1 : Value) (m : List UInt8), Wrote b W1 v m v1 W → ∀ g, g < b → ∀ j, W.cell? ⟨g, j, none⟩ = w.cell? ⟨g, j, none⟩) := hid (fun W v1 m h g hg j => by rw [← HW1.out] at h; exact Wri.cell HW.out h hg j)
  go_wp2_with fail
  go_loopw [32] (fun i wr => ∃ (k : Nat) (v1 : Value), k ≤ xs.length ∧ i = .int .i64 (k : Int) ∧ Wrote b W1 v (l ++ Gr.joined [32] (L.take k)) v1 wr)
    (fun i _ => xs.length - (intOf i).toNat)
  case atStart => exact ⟨0, v, by omega, rfl, by rw [List.take_zero]; show Wrote b W1 v (l ++ []) v W1; rw [List.append_nil]; exact Wrote.refl HR1.out⟩
  case round =>
    obtain ⟨k, v1, hk, rfl, hw⟩ := hrel
    have HK := hid hw
    clear hw
    by_cases hkl : k < xs.length
    · have hkz : (k : Int) < (xs.length : Int) := by omega
      have hkL : k < L.length := by have := HLEN.out; omega
      have hkd : k < ks.length := by have := HLK.out; omega
      have HJ := hid (joined_take [32] L k hkL)
      have HJL : Hid (l.length + (Gr.joined [32] (L.take (k + 1))).length ≤ 140737488355328) := hid (by have := joined_takele [32] L (k + 1); have := HLL.out; omega)
      have HTK := hid (HT.out k hkd hkl wr v1 _ HK.out)
      have HIK := hid (fun W u m h1 h2 h3 => HI.out k hkd hkL hkl W u m h1 h2 h3)
      clear HT HI
      obtain ⟨g, o, rfl, hc⟩ := hv.at_ (by omega)
      have hg := HB2.out g o rfl
      have z := hc k hkl
      obtain ⟨y, hyk⟩ : ∃ y, xs[k] = y := ⟨_, rfl⟩
      obtain ⟨E, hEk⟩ : ∃ E, L[k] = E := ⟨_, rfl⟩
      rw [hyk] at z
      rw [hyk] at HTK HIK
      rw [hEk] at HJ HIK
      generalize ks[k]'_ = dk at HTK HIK
      have r0 : wr.cell? ⟨g, o + k * 3, none⟩ = (nvC y)[0]? := (HCL.out wr v1 _ HK.out g hg _).trans (z 0 (by omega))
      have r1 : wr.cell? ⟨g, o + k * 3 + 1, none⟩ = (nvC y)[1]? := (HCL.out wr v1 _ HK.out g hg _).trans (z 1 (by omega))
      have r2 : wr.cell? ⟨g, o + k * 3 + 2, none⟩ = (nvC y)[2]? := (HCL.out wr v1 _ HK.out g hg _).trans (z 2 (by omega))
      simp only [nvC, List.getElem?_cons_zero, List.getElem?_cons_succ] at r0 r1 r2
      unfold nvA at HIK
      clear hc hv z hg hyk hEk HCL HB2
      by_cases hk0 : k = 0
      · subst hk0
        have HJ2 : Hid (Gr.joined [32] (L.take (0 + 1)) = Gr.joined [32] (L.take 0) ++ E) := hid (by rw [HJ.out, if_pos rfl, List.nil_append])
        have HLE : Hid ((l ++ Gr.joined [32] (L.take 0)).length + E.length ≤ 140737488355328) := hid (by have h := HJL.out; rw [HJ2.out, List.length_append] at h; rw [List.length_append]; omega)
        simp only [Nat.zero_mul, Nat.add_zero] at r0 r1 r2
        go_wp2_with fail
        refine (HIK.out _ v1 _ (HK.out.at_.al _) (HTK.out.al _) HLE.out).mono ?_
        rintro e w2 ⟨rfl, v2, h2⟩
        have HFN : Hid (Wrote b W1 v (l ++ Gr.joined [32] (L.take (0 + 1))) v2 w2) := hid (by
          have h := HK.out.trans (Wrote.behind ((Frm.refl No wr).alloc _) h2)
          rw [List.append_assoc, ← HJ2.out] at h
          exact h)
        clear h2
        go_wp2_with fail
        exact ⟨⟨0 + 1, v2, by omega, by go_num, HFN.out⟩, by simp [intOf]; omega⟩
      · have hk0z : (0 : Int) < (k : Int) := by omega
        have HJ2 : Hid (Gr.joined [32] (L.take (k + 1)) = Gr.joined [32] (L.take k) ++ ([32] ++ E)) := hid (by rw [HJ.out, if_neg hk0])
        have HLE : Hid ((l ++ Gr.joined [32] (L.take k)).length + (1 + E.length) ≤ 140737488355328) := hid (by have h := HJL.out; rw [HJ2.out, List.length_append, List.length_append] at h; simp at h; rw [List.length_append]; omega)
        clear hk0
        go_wp2_with fail
        refine (wbyte_any b v1 _ 32 _ (HK.out.at_.al _) (by have := HLE.out; omega)).mono ?_
        rintro e w2 ⟨rfl, v2, h2⟩
        have b0 := Wrote.box HK.out.at_ h2 0
        have b1 := Wrote.box HK.out.at_ h2 1
        have b2 := Wrote.box HK.out.at_ h2 2
        have HT2 := hid (h2.tree (HK.out.at_.al _) HQ.out (HTK.out.al _))
        have H2 := hid h2
        clear h2 r0 r1 r2
        go_wp2_with fail
        refine (HIK.out w2 v2 _ H2.out.at_ HT2.out (by have h := HLE.out; simp only [List.length_append, List.length_cons, List.length_nil] at h ⊢; omega)).mono ?_
        rintro e w3 ⟨rfl, v3, h3⟩
        have HFN : Hid (Wrote b W1 v (l ++ Gr.joined [32] (L.take (k + 1))) v3 w3) := hid (by
          have h := HK.out.trans (Wrote.behind ((Frm.refl No wr).alloc _) (H2.out.trans h3))
          rw [List.append_assoc, List.append_assoc, ← HJ2.out] at h
          exact h)
        clear h3
        go_wp2_with fail
        exact ⟨⟨k + 1, v3, by omega, by go_num, HFN.out⟩, by simp [intOf]; omega⟩
    · obtain rfl : k = xs.length := by omega
      have hpz : ¬ (xs.length : Int) < (xs.length : Int) := by omega
      have HKE : Hid (L.take xs.length = L) := hid (by rw [HLEN.out, List.take_length])
      go_wp2_with fail
      go_end0
      exact wrote_end HF1.out HK.out (by rw [HKE.out])
set_option maxRecDepth 100000 in
set_option maxHeartbeats 8000000 in
theorem put_alt (s : List UInt8) (ks : List Gr.Nd) (hk : ∀ d ∈ ks, PutOK d) : PutOK (.mk 4 s ks) := by
  intro w b v l x Q hW hN hQ hL
  obtain ⟨hxk, -, hq, xs, ho, hks⟩ := hN
  have HE : Hid ((Gr.pr Gr.AB (.mk 4 s ks)).put = Gr.joined [124] (ks.map (fun d => Gr.Pr.row Gr.AB (Gr.pr Gr.AB d)))) := hid (by
    show Gr.joined (Gr.AB.sg 124) ((Gr.prs Gr.AB ks).map (Gr.Pr.row Gr.AB)) = _
    rw [Gr.prs_eq, List.map_map]
    rfl)
  rw [HE.out] at hL ⊢
  clear HE
  obtain ⟨L, hLe⟩ : ∃ L, ks.map (fun d => Gr.Pr.row Gr.AB (Gr.pr Gr.AB d)) = L := ⟨_, rfl⟩
  rw [hLe] at hL ⊢
  have hlen : xs.length = L.length := by rw [← hLe, List.length_map]; exact NdRs.len hks
  have hlk : L.length = ks.length := by rw [← hLe, List.length_map]
  have HLK := hid hlk
  have h63 := own_le ho
  have HI := hid (fun (i : Nat) (hd : i < ks.length) (hi : i < L.length) (hx : i < xs.length) (W : World) (u : Value) (m : List UInt8) (hW : Wri W b u m) (hN : NdQ W Q ks[i] xs[i]) (hl : m.length + L[i].length ≤ 140737488355328) => by
    have hiL : L[i] = Gr.Pr.row Gr.AB (Gr.pr Gr.AB ks[i]) := by
      simp only [← hLe, List.getElem_map]
    rw [hiL] at hl
    have h := row_any (hk _ (List.getElem_mem hd)) W b u m xs[i] Q hW hN hQ hl
    rw [← hiL] at h
    exact h)
  have HT := hid (fun (i : Nat) (hd : i < ks.length) (hx : i < xs.length) (W : World) (v1 : Value) (m : List UInt8) (h : Wrote b (w.alloc (.cells #[.int .i64 4, .string ⟨x.s.toArray⟩, .slice x.ao x.n x.c] 41)) v m v1 W) => h.tree (hW.al _) hQ ((NdRs.at_ hks i hd hx).al (.cells #[.int .i64 4, .string ⟨x.s.toArray⟩, .slice x.ao x.n x.c] 41)))
  have hv := rdl_own nv_shp ho
  have HB : Hid (∀ g o c, x.v = .slice (some ⟨g, o, none⟩) xs.length c → g < b) := hid (fun g o c e => hQ g (hq g (by rw [e]; have := ho.2; rw [e] at this; rcases this with ⟨h, _⟩ | ⟨g', cap, cur, h, _⟩ <;> first | (cases h; done) | (injection h with h1; injection h1 with h1; injection h1 with h1 h2; rw [h2]; rfl))))
  have HW := hid hW
  have HQ := hid hQ
  have HLL : Hid (l.length + (Gr.joined [124] L).length ≤ 140737488355328) := hid hL
  have HLEN := hid hlen
  obtain ⟨k, s', ao, n, c⟩ := x
  obtain rfl : k = 4 := hxk
  have hn : n = xs.length := by
    obtain ⟨ao', c', e⟩ := ownsRow_shape ho
    injection e
  subst hn
  clear hk hL hLe hlen hlk ho hks hq hW hQ
  unfold nvA
  change RdL w (.slice ao xs.length c) 3 nvC xs at hv
  have HB2 : Hid (∀ g o, ao = some ⟨g, o, none⟩ → g < b) := hid (fun g o e => HB.out g o c (by show Value.slice ao _ _ = _; rw [e]))
  clear HB
  dsimp only at HT
  obtain ⟨W1, hW1⟩ : ∃ W1, w.alloc (.cells #[.int .i64 4, .string ⟨s'.toArray⟩, .slice ao xs.length c] 41) = W1 := ⟨_, rfl⟩
  have HW1 := hid hW1
  have HR1 : Hid (Wri W1 b v l) := hid (by rw [← hW1]; exact HW.out.al _)
  have HF1 : Hid (Frm No w W1) := hid (by rw [← hW1]; exact (Frm.refl No w).alloc _)
  have d2 : W1.cell? ⟨w.heap.size, 2, none⟩ = some (.slice ao xs.length c) := by rw [← hW1]; exact World.cell?_alloc_at _ _ _ _ rfl
  have d0 : W1.cell? ⟨w.heap.size, 0, none⟩ = some (.int .i64 4) := by rw [← hW1]; exact World.cell?_alloc_at _ _ _ _ rfl
  rw [hW1] at HT
  show Calls Tryd.prog 14 #[.pointer (some ⟨b, 0, none⟩), .agg #[.int .i64 4, .string ⟨s'.toArray⟩, .slice ao xs.length c]] w _
  go_enter Tryd.func14, Tryd.ntmps14
  go_upto_region 15 with fail
  try rw [hW1]
  clear hW1
  have HCL : Hid (∀ (W : World) (v1 : Value) (m : List UInt8), Wrote b W1 v m v1 W → ∀ g, g < b → ∀ j, W.cell? ⟨g, j, none⟩ = w.cell? ⟨g, j, none⟩) := hid (fun W v1 m h g hg j => by rw [← HW1.out] at h; exact Wri.cell HW.out h hg j)
  go_wp2_with fail
  go_loopw [52] (fun i wr => ∃ (k : Nat) (v1 : Value), k ≤ xs.length ∧ i = .int .i64 (k : Int) ∧ Wrote b W1 v (l ++ Gr.joined [124] (L.take k)) v1 wr)
    (fun i _ => xs.length - (intOf i).toNat)
  case atStart => exact ⟨0, v, by omega, rfl, by rw [List.take_zero]; show Wrote b W1 v (l ++ []) v W1; rw [List.append_nil]; exact Wrote.refl HR1.out⟩
  case round =>
    obtain ⟨k, v1, hk, rfl, hw⟩ := hrel
    have HK := hid hw
    clear hw
    by_cases hkl : k < xs.length
    · have hkz : (k : Int) < (xs.length : Int) := by omega
      have hkL : k < L.length := by have := HLEN.out; omega
      have hkd : k < ks.length := by have := HLK.out; omega
      have HJ := hid (joined_take [124] L k hkL)
      have HJL : Hid (l.length + (Gr.joined [124] (L.take (k + 1))).length ≤ 140737488355328) := hid (by have := joined_takele [124] L (k + 1); have := HLL.out; omega)
      have HTK := hid (HT.out k hkd hkl wr v1 _ HK.out)
      have HIK := hid (fun W u m h1 h2 h3 => HI.out k hkd hkL hkl W u m h1 h2 h3)
      clear HT HI
      obtain ⟨g, o, rfl, hc⟩ := hv.at_ (by omega)
      have hg := HB2.out g o rfl
      have z := hc k hkl
      obtain ⟨y, hyk⟩ : ∃ y, xs[k] = y := ⟨_, rfl⟩
      obtain ⟨E, hEk⟩ : ∃ E, L[k] = E := ⟨_, rfl⟩
      rw [hyk] at z
      rw [hyk] at HTK HIK
      rw [hEk] at HJ HIK
      generalize ks[k]'_ = dk at HTK HIK
      have r0 : wr.cell? ⟨g, o + k * 3, none⟩ = (nvC y)[0]? := (HCL.out wr v1 _ HK.out g hg _).trans (z 0 (by omega))
      have r1 : wr.cell? ⟨g, o + k * 3 + 1, none⟩ = (nvC y)[1]? := (HCL.out wr v1 _ HK.out g hg _).trans (z 1 (by omega))
      have r2 : wr.cell? ⟨g, o + k * 3 + 2, none⟩ = (nvC y)[2]? := (HCL.out wr v1 _ HK.out g hg _).trans (z 2 (by omega))
      simp only [nvC, List.getElem?_cons_zero, List.getElem?_cons_succ] at r0 r1 r2
      unfold nvA at HIK
      clear hc hv z hg hyk hEk HCL HB2
      by_cases hk0 : k = 0
      · subst hk0
        have HJ2 : Hid (Gr.joined [124] (L.take (0 + 1)) = Gr.joined [124] (L.take 0) ++ E) := hid (by rw [HJ.out, if_pos rfl, List.nil_append])
        have HLE : Hid ((l ++ Gr.joined [124] (L.take 0)).length + E.length ≤ 140737488355328) := hid (by have h := HJL.out; rw [HJ2.out, List.length_append] at h; rw [List.length_append]; omega)
        simp only [Nat.zero_mul, Nat.add_zero] at r0 r1 r2
        go_wp2_with fail
        refine (HIK.out _ v1 _ (HK.out.at_.al _) (HTK.out.al _) HLE.out).mono ?_
        rintro e w2 ⟨rfl, v2, h2⟩
        have HFN : Hid (Wrote b W1 v (l ++ Gr.joined [124] (L.take (0 + 1))) v2 w2) := hid (by
          have h := HK.out.trans (Wrote.behind ((Frm.refl No wr).alloc _) h2)
          rw [List.append_assoc, ← HJ2.out] at h
          exact h)
        clear h2
        go_wp2_with fail
        exact ⟨⟨0 + 1, v2, by omega, by go_num, HFN.out⟩, by simp [intOf]; omega⟩
      · have hk0z : (0 : Int) < (k : Int) := by omega
        have HJ2 : Hid (Gr.joined [124] (L.take (k + 1)) = Gr.joined [124] (L.take k) ++ ([124] ++ E)) := hid (by rw [HJ.out, if_neg hk0])
        have HLE : Hid ((l ++ Gr.joined [124] (L.take k)).length + (1 + E.length) ≤ 140737488355328) := hid (by have h := HJL.out; rw [HJ2.out, List.length_append, List.length_append] at h; simp at h; rw [List.length_append]; omega)
        clear hk0
        go_wp2_with fail
        refine (wbyte_any b v1 _ 124 _ (HK.out.at_.al _) (by have := HLE.out; omega)).mono ?_
        rintro e w2 ⟨rfl, v2, h2⟩
        have b0 := Wrote.box HK.out.at_ h2 0
        have b1 := Wrote.box HK.out.at_ h2 1
        have b2 := Wrote.box HK.out.at_ h2 2
        have HT2 := hid (h2.tree (HK.out.at_.al _) HQ.out (HTK.out.al _))
        have H2 := hid h2
        clear h2 r0 r1 r2
        go_wp2_with fail
        refine (HIK.out w2 v2 _ H2.out.at_ HT2.out (by have h := HLE.out; simp only [List.length_append, List.length_cons, List.length_nil] at h ⊢; omega)).mono ?_
        rintro e w3 ⟨rfl, v3, h3⟩
        have HFN : Hid (Wrote b W1 v (l ++ Gr.joined [124] (L.take (k + 1))) v3 w3) := hid (by
          have h := HK.out.trans (Wrote.behind ((Frm.refl No wr).alloc _) (H2.out.trans h3))
          rw [List.append_assoc, List.append_assoc, ← HJ2.out] at h
          exact h)
        clear h3
        go_wp2_with fail
        exact ⟨⟨k + 1, v3, by omega, by go_num, HFN.out⟩, by simp [intOf]; omega⟩
    · obtain rfl : k = xs.length := by omega
      have hpz : ¬ (xs.length : Int) < (xs.length : Int) := by omega
      have HKE : Hid (L.take xs.length = L) := hid (by rw [HLEN.out, List.take_length])
      go_wp2_with fail
      go_end0
      exact wrote_end HF1.out HK.out (by rw [HKE.out])
set_option maxHeartbeats 4000000 in
theorem put_opt (s : List UInt8) (d : Gr.Nd) (hp : Gr.proper d = true) (hd : PutOK d) (hk : ∀ e ∈ d.l, PutOK e) : PutOK (.mk 5 s [d]) := by
  intro w b v l x Q hW hN hQ hL
  have HE : Hid ((Gr.pr Gr.AB (.mk 5 s [d])).put = Gr.Pr.again Gr.AB 91 63 93 (Gr.pr Gr.AB d)) := hid rfl
  rw [HE.out] at hL ⊢
  obtain ⟨g, c, y, rfl, hy, hc⟩ := kid_at hN
  have HA := hid (fun (W : World) (hf : Frm No w W) => again_any hp hd hk 91 63 93 W b v l y Q (hW.no hf) (hy.no hf) hQ hL)
  have c0 := fun o => hc o 0 (by decide)
  have c1 := fun o => hc o 1 (by decide)
  have c2 := fun o => hc o 2 (by decide)
  simp only [nvC, List.getElem?_cons_zero, List.getElem?_cons_succ] at c0 c1 c2
  clear hW hN hQ hd hk hp hL hy hc
  unfold nvA at HA ⊢
  dsimp only at HA ⊢
  show Calls Tryd.prog 14 #[.pointer (some ⟨b, 0, none⟩), .agg #[.int .i64 5, .string ⟨s.toArray⟩, .slice (some ⟨g, 0, none⟩) 1 c]] w _
  go_enter Tryd.func14, Tryd.ntmps14
  go_wp2_with fail
  refine (HA.out _ ((Frm.refl No w).alloc _)).mono ?_
  rintro e w1 ⟨rfl, v1, h1⟩
  go_wp2_with fail
  go_end0
  exact wrote_end ((Frm.refl No w).alloc _) h1 rfl
set_option maxHeartbeats 4000000 in
theorem put_star (s : List UInt8) (d : Gr.Nd) (hp : Gr.proper d = true) (hd : PutOK d) (hk : ∀ e ∈ d.l, PutOK e) : PutOK (.mk 6 s [d]) := by
  intro w b v l x Q hW hN hQ hL
  have HE : Hid ((Gr.pr Gr.AB (.mk 6 s [d])).put = Gr.Pr.again Gr.AB 123 42 125 (Gr.pr Gr.AB d)) := hid rfl
  rw [HE.out] at hL ⊢
  obtain ⟨g, c, y, rfl, hy, hc⟩ := kid_at hN
  have HA := hid (fun (W : World) (hf : Frm No w W) => again_any hp hd hk 123 42 125 W b v l y Q (hW.no hf) (hy.no hf) hQ hL)
  have c0 := fun o => hc o 0 (by decide)
  have c1 := fun o => hc o 1 (by decide)
  have c2 := fun o => hc o 2 (by decide)
  simp only [nvC, List.getElem?_cons_zero, List.getElem?_cons_succ] at c0 c1 c2
  clear hW hN hQ hd hk hp hL hy hc
  unfold nvA at HA ⊢
  dsimp only at HA ⊢
  show Calls Tryd.prog 14 #[.pointer (some ⟨b, 0, none⟩), .agg #[.int .i64 6, .string ⟨s.toArray⟩, .slice (some ⟨g, 0, none⟩) 1 c]] w _
  go_enter Tryd.func14, Tryd.ntmps14
  go_wp2_with fail
  refine (HA.out _ ((Frm.refl No w).alloc _)).mono ?_
  rintro e w1 ⟨rfl, v1, h1⟩
  go_wp2_with fail
  go_end0
  exact wrote_end ((Frm.refl No w).alloc _) h1 rfl
set_option maxHeartbeats 4000000 in
theorem put_plus (s : List UInt8) (d : Gr.Nd) (hp : Gr.proper d = true) (hd : PutOK d) (hk : ∀ e ∈ d.l, PutOK e) : PutOK (.mk 7 s [d]) := by
  intro w b v l x Q hW hN hQ hL
  have HE : Hid ((Gr.pr Gr.AB (.mk 7 s [d])).put = Gr.Pr.atom Gr.AB (Gr.pr Gr.AB d) ++ [43]) := hid rfl
  rw [HE.out] at hL ⊢
  obtain ⟨g, c, y, rfl, hy, hc⟩ := kid_at hN
  rw [List.length_append] at hL
  have HL : Hid (l.length + (Gr.Pr.atom Gr.AB (Gr.pr Gr.AB d)).length + 1 ≤ 140737488355328) := hid (by simp at hL; omega)
  have HA := hid (fun (W : World) (hf : Frm No w W) => atom_any hp hd hk W b v l y Q (hW.no hf) (hy.no hf) hQ (by have := HL.out; omega))
  have c0 := fun o => hc o 0 (by decide)
  have c1 := fun o => hc o 1 (by decide)
  have c2 := fun o => hc o 2 (by decide)
  simp only [nvC, List.getElem?_cons_zero, List.getElem?_cons_succ] at c0 c1 c2
  generalize Gr.Pr.atom Gr.AB (Gr.pr Gr.AB d) = T at *
  clear hW hN hQ hd hk hp hL hy hc
  unfold nvA at HA ⊢
  dsimp only at HA ⊢
  show Calls Tryd.prog 14 #[.pointer (some ⟨b, 0, none⟩), .agg #[.int .i64 7, .string ⟨s.toArray⟩, .slice (some ⟨g, 0, none⟩) 1 c]] w _
  go_enter Tryd.func14, Tryd.ntmps14
  go_wp2_with fail
  refine (HA.out _ ((Frm.refl No w).alloc _)).mono ?_
  rintro e w1 ⟨rfl, v1, h1⟩
  have H1 := hid h1
  clear h1
  go_wp2_with fail
  refine (wbyte_any b v1 _ 43 _ H1.out.at_ (by have := HL.out; rw [List.length_append]; omega)).mono ?_
  rintro e w2 ⟨rfl, v2, h2⟩
  go_wp2_with fail
  go_end0
  exact wrote_end ((Frm.refl No w).alloc _) (H1.out.trans h2) (by simp)
/-- what can be in a text is printed -/
def Full (d : Gr.Nd) : Prop := Gr.proper d = true → PutOK d ∧ ∀ k ∈ d.l, PutOK k
theorem nput_step (k : Nat) (s : List UInt8) (l : List Gr.Nd) (hl : ∀ d ∈ l, Full d) : Full (.mk k s l) := by
  intro hp
  have hks := kids_ok hp
  have hkp : ∀ d ∈ l, PutOK d := fun d hd => (hl d hd (hks d hd)).1
  refine ⟨?_, hkp⟩
  have hok : Gr.okNode k s l.length = true := by
    rw [proper_mk, Bool.and_eq_true] at hp
    exact hp.1
  by_cases h1 : k = 1
  · subst h1; exact put_ref s l
  by_cases h2 : k = 2
  · subst h2
    refine put_lit s l ?_
    unfold Gr.okNode at hok
    rw [if_neg (by decide), if_pos rfl, Bool.and_eq_true, Bool.and_eq_true] at hok
    exact of_decide_eq_true hok.1.2
  by_cases h3 : k = 3
  · subst h3; exact put_seq s l hkp
  by_cases h4 : k = 4
  · subst h4; exact put_alt s l hkp
  by_cases h567 : k = 5 ∨ k = 6 ∨ k = 7
  · obtain ⟨d, rfl, hd⟩ := one_kid hp h567
    have hf := hl d (by simp) hd
    rcases h567 with rfl | rfl | rfl
    · exact put_opt s d hd hf.1 hf.2
    · exact put_star s d hd hf.1 hf.2
    · exact put_plus s d hd hf.1 hf.2
  · exfalso
    unfold Gr.okNode at hok
    rw [if_neg h1, if_neg h2, if_neg h3, if_neg h4, if_neg h567] at hok
    simp at hok
mutual
theorem nput_all : ∀ d : Gr.Nd, Full d
  | .mk k s l => nput_step k s l (nputs_all l)
theorem nputs_all : ∀ l : List Gr.Nd, ∀ d ∈ l, Full d
  | [], _, h => by cases h
  | a :: l, d, h => by
    rcases List.mem_cons.1 h with e | e
    · rw [e]; exact nput_all a
    · exact nputs_all l d e
end
end Go.Proofs.YtebocnpbiiejmaaDoor

