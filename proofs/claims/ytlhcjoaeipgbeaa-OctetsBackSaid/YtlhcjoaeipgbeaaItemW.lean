/- The walk of write: an item is written. -/
import Derived.Test.YtlhcjoaeipgbeaaItem
namespace Go.Proofs.Ytlhcjoaeipgbeaa
open Go.RowKit

def Oct.item (x : It) : List UInt8 :=
  if knd x = 0 then Oct.enc x.n else if knd x = 1 then Oct.flag x.b else if knd x = 2 then Oct.text x.t
  else if knd x = 3 then Oct.enc x.zs.length ++ Oct.ints x.zs else Oct.enc x.ss.length ++ Oct.texts x.ss
def Oct.badItem (x : It) : Bool :=
  if knd x = 0 then (Oct.enc x.n).isEmpty else if knd x = 1 then false else if knd x = 2 then decide (65536 < x.t.length)
  else if knd x = 3 then (decide (65536 < x.zs.length) || Oct.badInts x.zs) else (decide (65536 < x.ss.length) || Oct.badTexts x.ss)

set_option maxRecDepth 100000 in
set_option maxHeartbeats 1000000 in
theorem write_nil (x : It) (w : World) (h : ItOK w x) : Calls Try.prog 42 #[.pointer none, .agg (itV x).toArray] w fun e w' => e = .returned (.tuple #[]) ∧ Frm No w w' := by
  have HK := hid (fun w => kind_any x w)
  have hk := knd_in x
  obtain ⟨kd, hkd⟩ : ∃ kd, knd x = kd := ⟨_, rfl⟩
  rw [hkd] at HK hk
  obtain ⟨ht, hzl, hsl, hss, -, -, hrz, hrs⟩ := h
  unfold maxLen at ht hzl hsl hss
  clear hkd
  obtain ⟨k, n, b, t, ns, zs, ts, ss⟩ := x
  unfold itV at *
  simp only at *
  rcases hk with rfl | rfl | rfl | rfl | rfl
  · go_enter Try.func42, Try.ntmps42
    go_wp2_with (first | (go_at_call 46; refine (HK.out _).mono ?_; rintro e1 w1 ⟨rfl, hf1⟩; have q := hf1.box) | (go_at_call 25; refine (out_int_nil _ _).mono ?_; rintro e2 w2 ⟨rfl, hf2⟩))
    go_end0
    exact ⟨rfl, (((Frm.refl _ _).alloc _).thenNo hf1).thenNo hf2⟩
  · go_enter Try.func42, Try.ntmps42
    go_wp2_with (first | (go_at_call 46; refine (HK.out _).mono ?_; rintro e1 w1 ⟨rfl, hf1⟩; have q := hf1.box) | (go_at_call 56; refine (out_bool_nil _ _).mono ?_; rintro e2 w2 ⟨rfl, hf2⟩))
    go_end0
    exact ⟨rfl, (((Frm.refl _ _).alloc _).thenNo hf1).thenNo hf2⟩
  · go_enter Try.func42, Try.ntmps42
    go_wp2_with (first | (go_at_call 46; refine (HK.out _).mono ?_; rintro e1 w1 ⟨rfl, hf1⟩; have q := hf1.box) | (go_at_call 43; refine (out_text_nil t _ (by omega)).mono ?_; rintro e2 w2 ⟨rfl, hf2⟩))
    go_end0
    exact ⟨rfl, (((Frm.refl _ _).alloc _).thenNo hf1).thenNo hf2⟩
  · go_enter Try.func42, Try.ntmps42
    go_wp2_with (first | (go_at_call 46; refine (HK.out _).mono ?_; rintro e1 w1 ⟨rfl, hf1⟩; have q := hf1.box) | (go_at_call 44; refine (out_ints_nil ns zs _ (hrz.frm (((Frm.refl No w).alloc _).thenNo hf1) (fun _ _ h => h)) (by omega)).mono ?_; rintro e2 w2 ⟨rfl, hf2⟩))
    go_end0
    exact ⟨rfl, (((Frm.refl _ _).alloc _).thenNo hf1).thenNo hf2⟩
  · go_enter Try.func42, Try.ntmps42
    go_wp2_with (first | (go_at_call 46; refine (HK.out _).mono ?_; rintro e1 w1 ⟨rfl, hf1⟩; have q := hf1.box) | (go_at_call 57; refine (out_texts_nil ts ss _ (fun s h => by have := hss s h; omega) (hrs.frm (((Frm.refl No w).alloc _).thenNo hf1) (fun _ _ h => h)) (by omega)).mono ?_; rintro e2 w2 ⟨rfl, hf2⟩))
    go_end0
    exact ⟨rfl, (((Frm.refl _ _).alloc _).thenNo hf1).thenNo hf2⟩

set_option maxRecDepth 100000 in
set_option maxHeartbeats 1000000 in
theorem write_any (o : Nat) (v : Value) (l : List UInt8) (bad : Bool) (x : It) (w : World) (ho : OutAt w o 0 v l bad) (h : ItOK w x) (hl : l.length ≤ 17592186044416) (h1 : x.t.length ≤ 2000) (h2 : x.zs.length ≤ 200) (h3 : x.ss.length ≤ 200) (h4 : ∀ s ∈ x.ss, s.length ≤ 500)
    (hd1 : ∀ k, x.ns.ownBlock = some k → 0 < x.zs.length → ¬ OutS o v k) (hd2 : ∀ k, x.ts.ownBlock = some k → 0 < x.ss.length → ¬ OutS o v k) :
    Calls Try.prog 42 #[.pointer (some ⟨o, 0, none⟩), .agg (itV x).toArray] w (OutP o 0 w v (l ++ Oct.item x) (bad || Oct.badItem x)) := by
  have HK := hid (fun w => kind_any x w)
  have hk := knd_in x
  have hi : Oct.item x = if knd x = 0 then Oct.enc x.n else if knd x = 1 then Oct.flag x.b else if knd x = 2 then Oct.text x.t
    else if knd x = 3 then Oct.enc x.zs.length ++ Oct.ints x.zs else Oct.enc x.ss.length ++ Oct.texts x.ss := rfl
  have hb : Oct.badItem x = if knd x = 0 then (Oct.enc x.n).isEmpty else if knd x = 1 then false else if knd x = 2 then decide (65536 < x.t.length)
    else if knd x = 3 then (decide (65536 < x.zs.length) || Oct.badInts x.zs) else (decide (65536 < x.ss.length) || Oct.badTexts x.ss) := rfl
  obtain ⟨kd, hkd⟩ : ∃ kd, knd x = kd := ⟨_, rfl⟩
  obtain ⟨it, hit⟩ : ∃ it, Oct.item x = it := ⟨_, rfl⟩
  obtain ⟨ib, hib⟩ : ∃ ib, Oct.badItem x = ib := ⟨_, rfl⟩
  rw [hkd] at HK hk hi hb
  rw [hit] at hi
  rw [hib] at hb
  rw [hit, hib]
  obtain ⟨ht, hzl, hsl, -, -, -, hrz, hrs⟩ := h
  clear hkd hit hib ht hzl hsl
  obtain ⟨k, n, b, t, ns, zs, ts, ss⟩ := x
  unfold itV at *
  simp only at *
  rcases hk with rfl | rfl | rfl | rfl | rfl
  all_goals
    simp (decide := true) only [if_true, if_false] at hi hb
    have HI := hid hi
    have HB := hid hb
    clear hi hb
  · go_enter Try.func42, Try.ntmps42
    go_wp2_with (first | (go_at_call 46; refine (HK.out _).mono ?_; rintro e1 w1 ⟨rfl, hf1⟩; have q := hf1.box; have hfa : Frm No w w1 := ((Frm.refl No w).alloc _).thenNo hf1; have ho1 := ho.frm hfa (fun h => h) (fun _ _ h => h)) | (go_at_call 25; refine (out_int o 0 v l bad n _ ho1 (by omega)).mono ?_; rintro e2 w2 ⟨rfl, v2, hp⟩))
    go_end0
    refine ⟨rfl, v2, ?_⟩
    rw [HI.out, HB.out]
    first | exact OutPost.behind ho hfa hp | (rw [Bool.or_false]; exact OutPost.behind ho hfa hp)
  · go_enter Try.func42, Try.ntmps42
    go_wp2_with (first | (go_at_call 46; refine (HK.out _).mono ?_; rintro e1 w1 ⟨rfl, hf1⟩; have q := hf1.box; have hfa : Frm No w w1 := ((Frm.refl No w).alloc _).thenNo hf1; have ho1 := ho.frm hfa (fun h => h) (fun _ _ h => h)) | (go_at_call 56; refine (out_bool o 0 v l bad b _ ho1 (by omega)).mono ?_; rintro e2 w2 ⟨rfl, v2, hp⟩))
    go_end0
    refine ⟨rfl, v2, ?_⟩
    rw [HI.out, HB.out]
    first | exact OutPost.behind ho hfa hp | (rw [Bool.or_false]; exact OutPost.behind ho hfa hp)
  · go_enter Try.func42, Try.ntmps42
    go_wp2_with (first | (go_at_call 46; refine (HK.out _).mono ?_; rintro e1 w1 ⟨rfl, hf1⟩; have q := hf1.box; have hfa : Frm No w w1 := ((Frm.refl No w).alloc _).thenNo hf1; have ho1 := ho.frm hfa (fun h => h) (fun _ _ h => h)) | (go_at_call 43; refine (out_text o 0 v l t bad _ ho1 (by omega) (by omega)).mono ?_; rintro e2 w2 ⟨rfl, v2, hp⟩))
    go_end0
    refine ⟨rfl, v2, ?_⟩
    rw [HI.out, HB.out]
    first | exact OutPost.behind ho hfa hp | (rw [Bool.or_false]; exact OutPost.behind ho hfa hp)
  · go_enter Try.func42, Try.ntmps42
    go_wp2_with (first | (go_at_call 46; refine (HK.out _).mono ?_; rintro e1 w1 ⟨rfl, hf1⟩; have q := hf1.box; have hfa : Frm No w w1 := ((Frm.refl No w).alloc _).thenNo hf1; have ho1 := ho.frm hfa (fun h => h) (fun _ _ h => h)) | (go_at_call 44; refine (out_ints o 0 v l bad ns zs _ ho1 (by omega) (hrz.frm hfa (fun _ _ h => h)) hd1).mono ?_; rintro e2 w2 ⟨rfl, v2, hp⟩))
    go_end0
    refine ⟨rfl, v2, ?_⟩
    rw [HI.out, HB.out]
    first | exact OutPost.behind ho hfa hp | (rw [Bool.or_false]; exact OutPost.behind ho hfa hp)
  · go_enter Try.func42, Try.ntmps42
    go_wp2_with (first | (go_at_call 46; refine (HK.out _).mono ?_; rintro e1 w1 ⟨rfl, hf1⟩; have q := hf1.box; have hfa : Frm No w w1 := ((Frm.refl No w).alloc _).thenNo hf1; have ho1 := ho.frm hfa (fun h => h) (fun _ _ h => h)) | (go_at_call 57; refine (out_texts o 0 v l bad ts ss _ ho1 (by omega) (fun s h => by have := h4 s h; omega) (hrs.frm hfa (fun _ _ h => h)) hd2).mono ?_; rintro e2 w2 ⟨rfl, v2, hp⟩))
    go_end0
    refine ⟨rfl, v2, ?_⟩
    rw [HI.out, HB.out]
    first | exact OutPost.behind ho hfa hp | (rw [Bool.or_false]; exact OutPost.behind ho hfa hp)
end Go.Proofs.Ytlhcjoaeipgbeaa
